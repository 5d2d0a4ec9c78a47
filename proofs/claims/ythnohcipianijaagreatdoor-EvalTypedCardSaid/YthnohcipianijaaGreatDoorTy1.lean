/- Contracts of the functions that the law reaches, part 1. -/
import Derived.Test.YthnohcipianijaaGreatDoorProg
import Derived.WalkKit
import Derived.WalkMore
import Derived.Lib.Hide
import Derived.Below
import Derived.Laws.OwnMore
import Derived.Deep.AppendLies
import Derived.Deep.Draws
import Derived.Maps.AppendAt
import Derived.OrdersHeld
import Derived.Deep.RegionHeld3
import Derived.Deep.LoopGhost
import Derived.Laws.MakeOwn
import Derived.LoopN
import Derived.Scope
import Derived.Maps.Keyed
import Derived.Laws.StructEq
import Derived.WideKeyRuns
import Derived.Laws.Pointers
import Derived.ChangeKeysEq
import Derived.Laws.BytesArg
import Derived.WalkLawsBesides
import Derived.WalkSpells
import Derived.Outline
import Derived.Deep.Light
import Derived.Lib.Bytealg
import Derived.Lib.Walk
import Derived.BigQuiet
import Derived.Deep.QuietTactic
import Derived.Shelf.Spec.SlicesGrow
import Derived.Shelf.Strconv.ParseIntPublic10
import Derived.ProofKit
import Derived.ChangeSlices
import Derived.Deep.Slices
import Derived.Test.YthnohcipianijaaGreatDoorRows
import Derived.ChangeSame
import Derived.ChangeArms
import Derived.OpenShut
import Derived.Deep.DeepHandedRow
import Derived.LaidLaws
import Derived.ShutString
import Derived.SizedLaws
import Derived.JoinedCond
import Derived.Deep.CondSized
import Derived.Test.YthnohcipianijaaGreatDoorCards
import Derived.Test.YthnohcipianijaaGreatDoorTie
set_option linter.unusedVariables false
set_option linter.unusedSimpArgs false
namespace Go.Proofs.YthnohcipianijaaGreatDoor
open _root_.Go.Proofs.Tryz
open Go.RowKit
abbrev aaa:= @Bool.and_eq_true
abbrev aab:= @List.length_append
abbrev aac:= @List.length_cons
abbrev aad:= @Option.some.injEq
abbrev aae:= @List.length_nil
abbrev aaf:= @Nat.le_refl
abbrev aag:= @Nat.eq_of_beq_eq_true
abbrev aah:= @List.mem_cons
abbrev aai:= @List.mem_append
abbrev aaj:= @decide_eq_true_eq
abbrev aak:= @List.length_take
abbrev aal:= @List.length_drop
abbrev aam:= @List.drop_eq_getElem_cons
abbrev aan:= @List.map_cons
abbrev aao:= @Nat.le_trans
abbrev aap:= @beq_iff_eq
abbrev aaq:= @List.append_assoc
abbrev aar:= @Nat.zero_le
abbrev aas:= @List.take_append_drop
abbrev aat:= @List.getElem_of_mem
abbrev aau:= @List.append_nil
abbrev aav:= @Nat.add_assoc
abbrev aaw:= @List.map_append
abbrev aax:= @List.nil_append
abbrev aay:= @List.cons_append
abbrev aaz:= @Nat.lt_of_lt_of_le
abbrev aaA:= @Bool.false_eq_true
abbrev aaB:= @Bool.or_eq_true
abbrev aaC:= @List.map_nil
abbrev aaD:= @List.length_map
theorem I{α:Sort _}{a:α}:a=a:=rfl
abbrev YB:=List UInt8
abbrev YN:=List Nat
abbrev YI:=List Int
structure Fr (a:Act) (n:Nat) (f:Nat->Option Value):Prop where
 size:a.tmps.size=n
 defers:a.defers=[]
 get:∀i v,f i=some v->a.tmps[i]?=some v
def up(f:Nat->Option Value)(d:Nat)(v:Value):Nat->Option Value:=λi=>match Nat.beq i d with|true=>some v|false=>f i
def tC(f:Nat->Option Value)(ops:Array Oper)(j:Nat):Option Value:=((ops[j]?).bind (·.dst)).bind f
def DF(f:Nat->Option Value)(ops:Array Oper)(g:Option<|Nat×Bool):Bool:=
 match g with
 |none=>true
 |some (j,b)=>match tC f ops j with
  |some (.bool c)=>c==b
  |_=>false
def BD(f:Nat->Option Value)(ops:Array Oper)(g:Option<|Nat×Bool):Bool:=
 match g with
 |none=>false
 |some (j,b)=>match tC f ops j with
  |some (.bool c)=>c !=b
  |some (.tuple _)=>true
  |_=>false
def aR(f:Nat->Option Value):Operand->Option Value
 |.tmp t=>f t
 |.const v=>some v
 |.global g=>some<|.pointer<|some ⟨g,0,none⟩
 |.func g=>some<|.func (.func g) #[] #[]
variable{x:Operand}
variable{j:Nat}
section
variable{P:Program}{ops:Array Oper}{Q:Exit->Act->World->Prop}{a:Act}{w:World}{rest:List Oper}{n:Nat}{f:Nat->Option Value}
theorem Fr.eval(h:Fr a n f){v:Value}(hx:aR f x=some v):a.eval x=v:=by
 cases x with
 |tmp t=>
  have :=h.get t v hx;simp[Act.eval,Array.getD_eq_getD_getElem?,this]
 |const u=>simpa[aR,Act.eval]using hx
 |global g=>simpa[aR,Act.eval]using hx
 |func g=>simpa[aR,Act.eval]using hx
theorem Ex(h:Fr a n f){b:Bool}(G:tC f ops j=some (.bool b)):yielded ops a.tmps j=some b:=by
 unfold tC at G;unfold yielded;cases J:(ops[j]?).bind (·.dst)with
 |none=>rw[J]at G;cases G
 |some d=>
  rw[J]at G;have :=h.get d _ G;simp[this]
theorem IA(h:Fr a n f){vs:Array Value}(G:tC f ops j=some (.tuple vs)):yielded ops a.tmps j=none:=by
 unfold tC at G;unfold yielded;cases J:(ops[j]?).bind (·.dst)with
 |none=>rw[J]at G;cases G
 |some d=>
  rw[J]at G;have :=h.get d _ G;simp[this]
theorem BU(h:Fr a n f){o:Oper}(G:DF f ops o.guard=true):Region.wanted o (yielded ops a.tmps)=true:=by
 unfold Region.wanted;unfold DF at G;split at G
 ·rename_i J;rw[J]
 ·rename_i j b J;rw[J];split at G
  ·rename_i c O;show(yielded ops a.tmps j==some b)=true;rw[Ex h O];simpa using G
  ·cases G
theorem BM(h:Fr a n f){o:Oper}(G:BD f ops o.guard=true):Region.wanted o (yielded ops a.tmps)=false:=by
 unfold Region.wanted;unfold BD at G;split at G
 ·cases G
 ·rename_i j b O;rw[O];split at G
  ·rename_i c J;show(yielded ops a.tmps j==some b)=false;rw[Ex h J];cases c<;>cases b<;>first|rfl|cases G
  ·rename_i vs J;show(yielded ops a.tmps j==some b)=false;rw[IA h J];rfl
  ·cases G
variable{d:Nat}{ty:TypeId}{ps:String}{af:Array Edge}{g:Option (Nat×Bool)}
end
def Ext(w w':World):Prop:=Below w.heap.size w w'
variable{p:Addr}
variable{k:Nat}
section
variable{w w1 w2:World}
theorem Ext.refl(w:World):Ext w w:=Below.refl _ _
theorem Ext.size(h:Ext w w1):w.heap.size<=w1.heap.size:=Below.size h
theorem Ext.trans(h:Ext w w1)(k:Ext w1 w2):Ext w w2:=Below.trans h<|Below.mono k h.size
theorem Ext.drew(h:Ext w w1):Ext w w1.drew:=Below.drew h
theorem Ext.drewN(h:Ext w w1)(n:Nat):Ext w (w1.drewN n):=
 have h':Below w.heap.size w w1:=h
 ⟨h'.os,h'.tape,h'.output,h'.size,h'.block⟩
theorem Ext.alloc(h:Ext w w1)(o:Obj):Ext w (w1.alloc o):=Below.alloc h h.size o
theorem Ext.setCell(h:Ext w w1)(G:w.heap.size<=p.block)(u:Value):Ext w (w1.setCell p u):=Below.setCell h G u
theorem Ext.grown(h:Ext w w1){row:Option Nat}(G:w1.grownBy w2 row)(hr:∀k,row=some k->w.heap.size<=k):Ext w w2:=Below.grown h G h.size hr
theorem Ext.cell(h:Ext w w1)(G:p.block<w.heap.size):w1.cell? p=w.cell? p:=Below.cell h G
theorem Ext.frozen(h:Ext w w1)(G:p.block<w.heap.size):w1.frozen? p=w.frozen? p:=Below.frozen h G
theorem Ext.block(h:Ext w w1)(G:k<w.heap.size):w1.heap[k]?=w.heap[k]?:=Below.block h k G
end
def Row(w:World)(size:Nat)(A:Option Addr)(n:Nat)(xs:List Value):Prop:=
 xs.length=n*size∧(0<n->∃b off,A=some ⟨b,off,none⟩∧b<w.heap.size∧∀j,j<n*size->w.cell? ⟨b,off+j,none⟩=xs[j]?)
variable{base:Nat}{e:TypeId}
section
variable{w w':World}{size n:Nat}{A:Option Addr}{xs:List Value}
theorem Row.none_:Row w size A 0 []:=⟨by simp,λh=>absurd h<|by omega⟩
theorem Row.of_own{c:Nat}(h:w.ownsRow base e size (.slice A n c) n xs):Row w size A n xs:=by
 refine⟨h.1,λO=>?_⟩;obtain⟨g,cap,hv,_,J⟩:=h.form O;have Z:A=some ⟨g,0,none⟩:=by injection hv
 subst Z;refine⟨g,0,I,J,λj hj=>?_⟩;have G:j<xs.length:=by rw[h.1];exact hj
 have :=h.cells (g:=g) rfl j xs[j]<|List.getElem?_eq_getElem G;rw[List.getElem?_eq_getElem G,Nat.zero_add,<-this];unfold Addr.add;split<;>simp_all
end
variable{n:Nat}{xs:List Value}
theorem Lt{w:World}{size:Nat}{v:Value}(h:w.ownsRow base e size v n xs):∃A c,v=.slice A n c∧n<=c∧c<=maxLen:=by
 rcases h.2 with⟨rfl,rfl⟩|⟨g,cap,cur,rfl,_,_,G,J,_,_⟩
 ·exact⟨none,0,I,aaf _,aar _⟩
 ·exact⟨_,cap,I,G,J⟩
variable{w':World}
theorem Pk{w:World}{size:Nat}{v:Value}(h:w.ownsRow base e size v n xs)(Z:Ext w w'):w'.ownsRow base e size v n xs:=by
 refine⟨h.1,?_⟩;rcases h.2 with h0|⟨g,cap,cur,rfl,hb,J,h4⟩
 ·exact .inl h0
 ·refine .inr ⟨g,cap,cur,I,hb,?_,h4⟩;have G:g<w.heap.size:=by
   rcases Nat.lt_or_ge g w.heap.size with G|O
   ·exact G
   ·rw[Array.getElem?_eq_none O]at J;cases J
  rw[Z.block G,J]
variable{P:Program}{t:TypeId}{b:Nat}
theorem Gf{z:Value}{s:Nat}(h:(P.info? t).map (λi=>(i.zero,i.size,i.bytes))=some (some z,s,b)):∃i,P.info? t=some i∧i.zero=some z∧i.size=s∧i.bytes=b:=by obtain⟨G,hi,hx⟩:=Option.map_eq_some_iff.1 h;simp only[Prod.mk.injEq]at hx;exact⟨G,hi,hx.1,hx.2.1,hx.2.2⟩
structure Chg (X:List Nat) (w w':World):Prop where
 os:w'.os=w.os
 tape:w'.tape=w.tape
 output:w'.output=w.output
 size:w.heap.size<=w'.heap.size
 block:∀k,k<w.heap.size->k∉X->w'.heap[k]?=w.heap[k]?
section
variable{X Y:YN}{w w1 w2:World}
theorem Chg.refl(X:YN)(w:World):Chg X w w:=⟨rfl,rfl,rfl,aaf _,λ_ _ _=>rfl⟩
theorem Chg.trans(h:Chg X w w1)(k:Chg Y w1 w2)(J:∀b,b∈Y->b∈X∨w.heap.size<=b):Chg X w w2:=
 ⟨k.os.trans h.os,k.tape.trans h.tape,k.output.trans h.output,aao h.size k.size,λb hb G=>by
  rw[k.block b (aaz hb h.size) (λO=>by rcases J b O with h1|h1;exact G h1;omega),h.block b hb G]⟩
theorem Chg.of_ext(h:Ext w w1)(X:YN):Chg X w w1:=
 have h':Below w.heap.size w w1:=h
 ⟨h'.os,h'.tape,h'.output,h'.size,λb hb _=>h'.block b hb⟩
theorem Chg.ext(h:Chg [] w w1):Ext w w1:=(⟨h.os,h.tape,h.output,h.size,λb hb=>h.block b hb<|by simp⟩:Below w.heap.size w w1)
theorem Chg.alloc(w:World)(o:Obj):Chg [] w (w.alloc o):=Chg.of_ext ((Ext.refl w).alloc o) []
theorem Chg.drew(w:World):Chg [] w {w with drawn:=w.drawn+1}:=⟨rfl,rfl,rfl,aaf _,λ_ _ _=>rfl⟩
theorem Chg.set(w:World)(b o:Nat)(v:Value):Chg [b] w (w.setCell ⟨b,o,none⟩ v):=
 ⟨rfl,rfl,rfl,by simp[World.setCell],λk J G=>Below.heap_setCell w ⟨b,o,none⟩ v k<|by simpa using G⟩
theorem Chg.grown{row:Option Nat}(h:w.grownBy w1 row):Chg row.toList w w1:=
 ⟨h.os,h.tape,h.output,h.size,λk G J=>h.block k G λe=>J (by rw[<-e];simp)⟩
def Blk(w:World)(b:Nat)(t:TypeId)(cs:List Value):Prop:=w.heap[b]?=some (.cells cs.toArray t (0,0))
variable{b:Nat}{t:TypeId}{cs:List Value}
theorem Blk.lt(h:Blk w b t cs):b<w.heap.size:=by
 rcases Nat.lt_or_ge b w.heap.size with G|J
 ·exact G
 ·unfold Blk at h;rw[Array.getElem?_eq_none J]at h;cases h
theorem Blk.cell(h:Blk w b t cs)(i:Nat):w.cell? ⟨b,i,none⟩=cs[i]?:=by unfold Blk at h;simp[World.cell?,h]
theorem Blk.frozen(h:Blk w b t cs)(i:Nat):w.frozen? ⟨b,i,none⟩=false:=by unfold Blk at h;simp[World.frozen?,h]
theorem Blk.new(w:World)(t:TypeId)(cs:List Value):Blk (w.alloc<|.cells cs.toArray t) w.heap.size t cs:=heap_alloc_new w _
theorem Blk.set(h:Blk w b t cs)(i:Nat)(u:Value):Blk (w.setCell ⟨b,i,none⟩ u) b t (cs.set i u):=by unfold Blk at h⊢;simp[World.setCell,Array.getElem?_modify,h]
end
def Runs(P:Program)(a:Act)(ty:TypeId)(op:Op)(w:World)(x:Next)(w':World):Prop:=∀d ps af g,(execOp a.eval ⟨d,op,ty,ps,af,g⟩).run P w=.ok x w'
def zf(f:Nat->Option Value):List Operand->Option (List Value)
 |[]=>some []
 |x::r=>match aR f x with
  |some v=>match zf f r with
   |some vs=>some<|v::vs
   |none=>none
  |none=>none
def gr(f:Nat->Option Value):List (Nat×Operand)->Option (List<|Nat×Value)
 |[]=>some []
 |(i,x)::r=>match aR f x with
  |some v=>match gr f r with
   |some vs=>some<|(i,v)::vs
   |none=>none
  |none=>none
variable{u:TypeId}
variable{A:Option Addr}{m:Nat}
variable{i:Nat}
variable{sz:Nat}
variable{ps:List (Nat×Operand)}
section
variable{P:Program}{ops:Array Oper}{Q:Exit->Act->World->Prop}{a:Act}{w w':World}{rest:List Oper}{n:Nat}{f:Nat->Option Value}{ty:TypeId}
theorem Fr.vals(h:Fr a n f):∀{l:List Operand} {vs:List Value},zf f l=some vs->l.map a.eval=vs
 |[],vs,e=>by simp[zf]at e;simp[e]
 | x::r,vs,e=>by
  simp only[zf]at e;split at e
  ·rename_i v hv;split at e
   ·rename_i us hu;have :=h.vals hu;simp only[aad]at e;rw[aan,h.eval hv,this,e]
   ·cases e
  ·cases e
theorem Fr.parts(h:Fr a n f):∀{l:List<|Nat×Operand} {vs:List<|Nat×Value},gr f l=some vs->l.map (λp=>(p.1,a.eval p.2))=vs
 |[],vs,e=>by simp[gr]at e;simp[e]
 | (i,x)::r,vs,e=>by
  simp only[gr]at e;split at e
  ·rename_i v hv;split at e
   ·rename_i us hu;have :=h.parts hu;simp only[aad]at e;rw[aan,h.eval hv,this,e]
   ·cases e
  ·cases e
theorem rU(b o j:Nat):(⟨b,o,none⟩:Addr).add j=⟨b,o+j,none⟩:=by unfold Addr.add;split<;>simp_all
theorem Pj{v:Value}(h:Fr a n f)(hx:aR f x=some v):Runs P a ty (.move x) w (.value v) w:=λ_ _ _ _=>by rw[<-h.eval hx];rfl
theorem LU{v:Value}(h:Fr a n f)(hx:aR f x=some v):Runs P a ty (.assign x) w (.value v) w:=λ_ _ _ _=>by rw[<-h.eval hx];rfl
theorem ME{c y:Operand}{v:Value}(h:Fr a n f)(G:aR f c=some (.bool true))(hx:aR f x=some v):Runs P a ty (.pick c x y) w (.value v) w:=λ_ _ _ _=>by simp[execOp,h.eval G,h.eval hx,asBool]
theorem Nt{c y:Operand}{v:Value}(h:Fr a n f)(G:aR f c=some (.bool false))(hy:aR f y=some v):Runs P a ty (.pick c x y) w (.value v) w:=λ_ _ _ _=>by simp[execOp,h.eval G,h.eval hy,asBool]
theorem RT{b c:Bool}(h:Fr a n f)(hx:aR f x=some (.bool b))(G:(!b)=c):Runs P a ty (.unOp .not t x) w (.value<|.bool c) w:=λ_ _ _ _=>by subst G;simp only[execOp,h.eval hx];simp[go_sem]
section
variable{t u:TypeId}{x y:Operand}{k1:IntKind}{m l:Int}{c:Bool}
theorem RB(h:Fr a n f)(hx:aR f x=some (.int k1 m))(hy:aR f y=some (.int k1 l))(G:(m==l)=c):Runs P a ty (.binOp .eql t x y u) w (.value<|.bool c) w:=λ_ _ _ _=>by subst G;simp only[execOp,h.eval hx,h.eval hy];simp[go_sem,eqGuard]
theorem Rh(h:Fr a n f)(hx:aR f x=some (.int k1 m))(hy:aR f y=some (.int k1 l))(G:(m !=l)=c):Runs P a ty (.binOp .neq t x y u) w (.value<|.bool c) w:=λ_ _ _ _=>by subst G;simp only[execOp,h.eval hx,h.eval hy];simp[go_sem,eqGuard]
theorem QJ(h:Fr a n f)(hx:aR f x=some (.int k1 m))(hy:aR f y=some (.int k1 l))(G:decide (m<l)=c):Runs P a ty (.binOp .lss t x y u) w (.value<|.bool c) w:=λ_ _ _ _=>by subst G;simp only[execOp,h.eval hx,h.eval hy];simp[go_sem,eqGuard]
theorem PO(h:Fr a n f)(hx:aR f x=some (.int k1 m))(hy:aR f y=some (.int k1 l))(G:decide (m<=l)=c):Runs P a ty (.binOp .leq t x y u) w (.value<|.bool c) w:=λ_ _ _ _=>by subst G;simp only[execOp,h.eval hx,h.eval hy];simp[go_sem,eqGuard]
theorem RX(h:Fr a n f)(hx:aR f x=some (.int k1 m))(hy:aR f y=some (.int k1 l))(G:decide (l<m)=c):Runs P a ty (.binOp .gtr t x y u) w (.value<|.bool c) w:=λ_ _ _ _=>by subst G;simp only[execOp,h.eval hx,h.eval hy];simp[go_sem,eqGuard]
theorem Re(h:Fr a n f)(hx:aR f x=some (.int k1 m))(hy:aR f y=some (.int k1 l))(G:decide (l<=m)=c):Runs P a ty (.binOp .geq t x y u) w (.value<|.bool c) w:=λ_ _ _ _=>by subst G;simp only[execOp,h.eval hx,h.eval hy];simp[go_sem,eqGuard]
end
theorem Qh{y:Operand}{m l c:Bool}(ht:P.underlying t=some .bool)(h:Fr a n f)(hx:aR f x=some (.bool m))(hy:aR f y=some (.bool l))(G:(m==l)=c):Runs P a ty (.binOp .eql t x y u) w (.value<|.bool c) w:=λ_ _ _ _=>by subst G;simp only[execOp,h.eval hx,h.eval hy];simp[go_sem,eqGuard,ht]
section
variable{t u:TypeId}{x y:Operand}{m l:YB}{c:Bool}
theorem QF(h:Fr a n f)(hx:aR f x=some (.string ⟨m.toArray⟩))(hy:aR f y=some (.string ⟨l.toArray⟩))(G:(m==l)=c):Runs P a ty (.binOp .eql t x y u) w (.value<|.bool c) w:=λ_ _ _ _=>by subst G;simp only[execOp,h.eval hx,h.eval hy];simp[go_sem,eqGuard]
theorem RY(h:Fr a n f)(hx:aR f x=some (.string ⟨m.toArray⟩))(hy:aR f y=some (.string ⟨l.toArray⟩))(G:(m !=l)=c):Runs P a ty (.binOp .neq t x y u) w (.value<|.bool c) w:=λ_ _ _ _=>by subst G;simp only[execOp,h.eval hx,h.eval hy];simp[go_sem,eqGuard,bne]
theorem Oz(h:Fr a n f)(ht:P.underlying t=some .string)(hx:aR f x=some (.string ⟨m.toArray⟩)):Runs P a ty (.call {callee:=.builtin .len,args:=#[x],argTypes:=#[t]}) w (.value<|.int .i64 m.length) w:=λ_ _ _ _=>by simp only[execOp,resolve,List.map_toArray,aan,aaC,h.eval hx];simp[go_sem,resolve,invoke,builtin,ht]
end
theorem Fx{c:Nat}(h:Fr a n f)(ht:P.underlying t=some (.slice e))(hx:aR f x=some (.slice A m c)):Runs P a ty (.call {callee:=.builtin .len,args:=#[x],argTypes:=#[t]}) w (.value<|.int .i64 m) w:=λ_ _ _ _=>by simp only[execOp,resolve,List.map_toArray,aan,aaC,h.eval hx];simp[go_sem,resolve,invoke,builtin,ht]
theorem FN(h:Fr a n f)(hx:aR f x=some (.pointer<|some p)):Runs P a ty (.nilCheck x) w (.value<|.pointer<|some p) w:=λ_ _ _ _=>by simp only[execOp,h.eval hx];rfl
theorem IT{vs:Array Value}{v:Value}(h:Fr a n f)(hx:aR f x=some (.tuple vs))(hi:vs[i]?=some v):Runs P a ty (.extract x i) w (.value v) w:=λ_ _ _ _=>by simp only[execOp,h.eval hx];simp[Instr.extract,hi]
theorem Ie{o:Nat}{v:Value}(h:Fr a n f)(hx:aR f x=some (.pointer<|some ⟨b,o,none⟩))(hv:∀w,(Instr.fieldAt t (.pointer<|some ⟨b,o,none⟩) i).run P w=.ok v w):Runs P a ty (.fieldAddr t x i) w (.value v) w:=λ_ _ _ _=>by simp only[execOp,h.eval hx];simp[hv]
theorem EW{cs:Array Value}{v:Value}(h:Fr a n f)(hx:aR f x=some (.agg cs))(hv:∀w,(Instr.field t (.agg cs) i).run P w=.ok v w):Runs P a ty (.field t x i) w (.value v) w:=λ_ _ _ _=>by simp only[execOp,h.eval hx];simp[hv]
theorem DN{y:Operand}{o c r:Nat}{i:Int}{k:Nat}(h:Fr a n f)(ht:P.underlying t=some (.slice e))(J:(P.info? e).map (·.size)=some sz)(hx:aR f x=some (.slice (some ⟨b,o,none⟩) m c))(hy:aR f y=some (.int .i64 i))
  (O:i=(k:Int)) (G:k<m) (hr:o+k*sz=r):Runs P a ty (.indexAddr t x y) w (.value<|.pointer<|some ⟨b,r,none⟩) w:=λ_ _ _ _=>by
 obtain⟨Z,hi,hs⟩:=Option.map_eq_some_iff.1 J;subst O hs hr;simp only[execOp,h.eval hx,h.eval hy];simp[Instr.indexAt,asIntOf,run_underlying ht,sizeOf,typeInfo,hi,G,rU]
theorem Em{vs:List<|Nat×Value}{v:Value}(h:Fr a n f)(hx:gr f ps=some vs)(hv:∀w,(Instr.build t vs.toArray).run P w=.ok v w):Runs P a ty (.build t ps.toArray) w (.value v) w:=λ_ _ _ _=>by
 have e:(ps.toArray.map λ(i,x)=>(i,a.eval x))=vs.toArray:=by rw[<-h.parts hx];simp
 simp only[execOp];rw[e];simp[hv]
def fy(P:Program)(t:TypeId):Bool:=match P.underlying t with
 |some (.struct _)=>false
 |some (.array _ _)=>false
 |some _=>true
 |none=>false
def mR(P:Program)(t:TypeId):Option Nat:=match P.underlying t with
 |some (.struct _)=>(P.info? t).map (·.size)
 |some (.array _ _)=>(P.info? t).map (·.size)
 |_=>none
def gc(P:Program)(t:TypeId):Option Nat:=(P.info? t).map (·.size)
def rp(P:Program)(t:TypeId):Option (List Value):=((P.info? t).bind (·.zero)).map (·.cells.toList)
theorem Df{v:Value}(ht:fy P t=true)(J:w.cell? p=some v):(Instr.loadAt t<|.pointer<|some p).run P w=.ok v w:=by
 unfold fy at ht;cases G:P.underlying t with
 |none=>rw[G]at ht;cases ht
 |some d=>
  rw[G]at ht;cases d<;>first|(simp[Instr.loadAt,Instr.sureAddr,loadVar,isAgg,run_underlying G,J];done)|cases ht
theorem ya(b:Nat):∀(m i o:Nat) (acc:List Value) (cs:List Value),cs.length=m->(∀j,j<m->w.cell? ⟨b,o+i+j,none⟩=cs[j]?)->(loadCellsFrom ⟨b,o,none⟩ i m acc.toArray).run P w=.ok (acc++cs).toArray w
 |0,i,o,acc,cs,hl,hc=>by have :cs=[]:=List.eq_nil_of_length_eq_zero hl;subst this;simp[loadCellsFrom]
 | m+1,i,o,acc,cs,hl,hc=>by
  cases cs with
  |nil=>cases hl
  |cons c r=>
   have h0:=hc 0 (by omega);simp only[Nat.add_zero,List.getElem?_cons_zero]at h0;have ih:=ya b m (i+1) o (acc++[c]) r (by simpa using hl) (λj hj=>by have :=hc (j+1) (by omega);simpa[aav,Nat.add_comm 1 j]using this);have ha:(⟨b,o,none⟩:Addr).add i=⟨b,o+i,none⟩:=by unfold Addr.add;split<;>simp_all
   simp only[loadCellsFrom,ha];simp[go_sem,h0];simpa using ih
theorem Dl{o:Nat}{cs:List Value}(ht:mR P t=some m)(O:cs.length=m)(Z:∀j,j<m->w.cell? ⟨b,o+j,none⟩=cs[j]?):(Instr.loadAt t<|.pointer<|some ⟨b,o,none⟩).run P w=.ok (.agg cs.toArray) w:=by
 have J:(isAgg t).run P w=.ok true w∧(sizeOf t).run P w=.ok m w:=by
  unfold mR at ht;cases G:P.underlying t with
  |none=>rw[G]at ht;cases ht
  |some d=>
   rw[G]at ht;cases d<;>first|cases ht|(obtain⟨i,hi,hs⟩:=Option.map_eq_some_iff.1 ht;simp[isAgg,run_underlying G,sizeOf,typeInfo,hi,hs])
 have hL:=ya (P:=P) (w:=w) b m 0 o [] cs O (by simpa using Z);simp only[Instr.loadAt,Instr.sureAddr,loadVar,loadCells];simp[J.1,J.2,hL]
theorem Ce{v:Value}(h:Fr a n f)(hx:aR f x=some (.pointer<|some p))(ht:fy P t=true)(G:w.cell? p=some v):Runs P a ty (.load t x) w (.value v) w:=λ_ _ _ _=>by simp only[execOp,h.eval hx];simp[Df ht G]
theorem As{o:Nat}{cs:List Value}(h:Fr a n f)(hx:aR f x=some (.pointer<|some ⟨b,o,none⟩))(ht:mR P t=some m)(G:cs.length=m)(J:∀j,j<m->w.cell? ⟨b,o+j,none⟩=cs[j]?):Runs P a ty (.load t x) w (.value<|.agg cs.toArray) w:=λ_ _ _ _=>by simp only[execOp,h.eval hx];simp[Dl ht G J]
theorem KA{v:Value}(h:v.oneCell'=true):v.cells=#[v]:=by cases v<;>first|rfl|cases h
theorem NF(cs:List Value)(Z:rp P t=some cs)(a:Act)(w:World)(ty:TypeId):∃w' b,Runs P a ty (.alloc t) w (.value<|.pointer<|some ⟨b,0,none⟩) w'∧Blk w' b t cs∧Chg [] w w'∧b=w.heap.size∧b<w'.heap.size:=by
 refine⟨w.alloc<|.cells cs.toArray t,w.heap.size,λ_ _ _ _=>?_,Blk.new w t cs,Chg.alloc _ _,rfl,by simp⟩;unfold rp at Z;obtain⟨z,G,J⟩:=Option.map_eq_some_iff.1 Z;obtain⟨i,hi,O⟩:=Option.bind_eq_some_iff.1 G;have e:z.cells=cs.toArray:=by rw[<-J]
 simp[execOp,Instr.alloc,zeroValue,typeInfo,hi,O,newVar,newRow,e]
theorem QM{v:Value}{cs:List Value}(h:Fr a n f)(hx:aR f x=some v)(hv:v.cells=cs.toArray)(w:World)(ty:TypeId):∃w' b,Runs P a ty (.box t x) w (.value<|.pointer<|some ⟨b,0,none⟩) w'∧Blk w' b t cs∧Chg [] w w'∧b=w.heap.size∧b<w'.heap.size:=by
 refine⟨w.alloc<|.cells cs.toArray t,w.heap.size,λ_ _ _ _=>?_,Blk.new w t cs,Chg.alloc _ _,rfl,by simp⟩;simp only[execOp,h.eval hx];simp[Instr.box,newVar,newRow,hv]
end
def cZ(P:Program)(fid:FuncId):Bool:=match P.funcs[fid]? with
 |some fn=>!(fn.name== "runtime.NumGoroutine")&&fn.body.isSome
 |none=>false
variable{fid:FuncId}
theorem mC(G:cZ P fid=true)(args:Array Value)(w:World):(callFunc fid args).run P w=.ok (.enter fid args) w:=by
 unfold cZ at G;split at G
 ·rename_i fn hf;simp only[aaa,Bool.not_eq_true',beq_eq_false_iff_ne,ne_eq]at G;have hb:fn.body.isNone=false:=by cases hx:fn.body<;>simp_all
  simp[callFunc,hf,G.1,hb];intro J;simp[J]at hb
 ·cases G
section
variable{P:Program}{ops:Array Oper}{Q:Exit->Act->World->Prop}{a:Act}{w w':World}{rest:List Oper}{n:Nat}{f:Nat->Option Value}{ty:TypeId}
variable{d:Option Tmp}{op:Op}{ps:String}{af:Array Edge}{g:Option (Nat×Bool)}{v:Value}
theorem Ml{c:Operand}{G J:Code}(h:Fr a n f)(O:aR f c=some (.bool true))(k:G.wp P Q a w):(Code.cond c G J).wp P Q a w:=
 wp_cond_true (h.eval O) k
theorem Mx{c:Operand}{J G:Code}(h:Fr a n f)(O:aR f c=some (.bool false))(k:G.wp P Q a w):(Code.cond c J G).wp P Q a w:=
 wp_cond_false (h.eval O) k
end
section
variable{P:Program}{Q:Exit->Act->World->Prop}{a:Act}{w:World}{n:Nat}{f:Nat->Option Value}
def AL(a:Act):ResultVar->Sem Value
 |.tmp t=>pure<|a.tmps.getD t undef
 |.cell x t=>do loadVar t (<-asAddr (a.tmps.getD x undef))
def yn:List Value->Value
 |[v]=>v
 |vs=>.tuple vs.toArray
end
section
variable{P:Program}{ops:Array Oper}{Q:Exit->Act->World->Prop}{md:Region.Mode}{S:World->Prop}
def zl(md:Region.Mode)(ops:Array Oper)(m i:Nat):Bool:=match ops[m]? with
 |none=>true
 |some o=>o.after.any λe=>Region.binds md e&&e.on==i
theorem oN{listed:Array Bool}(h:listed.getD m false=true):(listed.setIfInBounds i true).getD m false=true:=by
 rw[Array.getD_eq_getD_getElem?]at *;rw[Array.getElem?_setIfInBounds];split
 ·rename_i G;subst G;split
  ·rfl
  ·rename_i hs;rw[Array.getElem?_eq_none<|by omega]at h;cases h
 ·exact h
theorem CV{listed:Array Bool}{j:Nat}{oj:Oper}(hr:i∈Region.ready md ops listed)(J:∀e∈oj.after,Region.binds md e=true->listed.getD e.on false=true):∀e∈oj.after,Region.binds md e=true->e.on≠i:=λe Z hb O=>by
 have G:=(mem_ready.1 hr).1;have h1:=J e Z hb;rw[O]at h1;rcases Nat.lt_or_ge i listed.size with h'|h'
 ·simp[h']at G h1;rw[G]at h1;cases h1
 ·simp[Array.getElem?_eq_none h']at h1
variable{a:Act}{w w':World}{n:Nat}{f:Nat->Option Value}{ty:TypeId}{d:Option Tmp}{op:Op}{ps:String}{af:Array Edge}{g:Option (Nat×Bool)}{v:Value}{m fuel:Nat}{listed:Array Bool}
variable{K:Act->World->Prop}
end
def qh(P:Program)(t:TypeId)(i:Nat):Option Nat:=match P.underlying t with
 |some (.struct fs)=>match fs[i]? with
  |some fl=>match P.info? fl.type with
   |some inf=>if inf.size=0 then none else some fl.offset
   |none=>none
  |none=>none
 |_=>none
def tY(P:Program)(t:TypeId)(i:Nat):Option Nat:=match P.underlying t with
 |some (.struct fs)=>match fs[i]? with
  |some fl=>if fy P fl.type=true then some fl.offset else none
  |none=>none
 |_=>none
section
variable{P:Program}{a:Act}{w w':World}{n:Nat}{f:Nat->Option Value}{ty:TypeId}
theorem Ik{o r:Nat}(h:Fr a n f)(hx:aR f x=some (.pointer<|some ⟨b,o,none⟩))(G:qh P t i=some k)(hr:o+k=r):Runs P a ty (.fieldAddr t x i) w (.value<|.pointer<|some ⟨b,r,none⟩) w:=by
 refine Ie h hx λw=>?_;subst hr;unfold qh at G;split at G
 ·rename_i fs Z;split at G
  ·rename_i fl O;split at G
   ·rename_i inf J;split at G
    ·cases G
    ·rename_i hz;simp only[aad]at G;subst G;simp[Instr.fieldAt,run_underlying Z,O,Instr.sureAddr,fieldPlace,sizeOf,typeInfo,J,hz,rU]
   ·cases G
  ·cases G
 ·cases G
theorem Sd{cs:List Value}{v:Value}(h:Fr a n f)(hx:aR f x=some (.agg cs.toArray))(G:tY P t i=some k)(hv:cs[k]?=some v):Runs P a ty (.field t x i) w (.value v) w:=by
 refine EW h hx λw=>?_;unfold tY at G;split at G
 ·rename_i fs Z;split at G
  ·rename_i fl O;split at G
   ·rename_i hs;simp only[aad]at G;subst G;have hA:(isAgg fl.type).run P w=.ok false w:=by
     unfold fy at hs;cases J:P.underlying fl.type with
     |none=>rw[J]at hs;cases hs
     |some d=>
      rw[J]at hs;cases d<;>first|(simp[isAgg,run_underlying J];done)|cases hs
    simp[Instr.field,run_underlying Z,O,part,hA,asAgg,hv]
   ·cases G
  ·cases G
 ·cases G
theorem yo(off:Nat):∀(l:List Value) (j:Nat) (c:List Value),off+j+l.length<=c.length->
  (l.zipIdx j).foldl (λ(cs:Array Value) (p:Value×Nat)=>cs.setIfInBounds (off+p.2) p.1) c.toArray=(c.take (off+j)++l++c.drop (off+j+l.length)).toArray
 |[],j,c,h=>by simp
 | x::r,j,c,h=>by
  simp only[aac]at h;have ih:=yo off r (j+1) (c.set (off+j) x) (by simp;omega);simp only[List.zipIdx_cons,List.foldl_cons,List.setIfInBounds_toArray];rw[ih]
  congr 1
  have e1:(c.set (off+j) x).take (off+(j+1))=c.take (off+j)++[x]:=by
   rw[<-aav,List.take_succ_eq_append_getElem (by simp;omega),List.take_set_of_le<|aaf _];simp
  have e2:(c.set (off+j) x).drop (off+(j+1)+r.length)=c.drop (off+j+(r.length+1)):=by
   rw[List.drop_set_of_lt<|by omega];congr 1;omega
  rw[e1,e2];simp
theorem EO(sz:Nat):∀(vs:List<|Nat×Value) (k:Nat) (c:List Value),vs.map (·.1)=(List.range vs.length).map (·+k)->(∀p∈vs,p.2.cells.size=sz)->(k+vs.length)*sz=c.length->
  Instr.fill (λi=>some (i*sz,sz)) c.toArray vs=some (c.take (k*sz)++vs.flatMap λp=>p.2.cells.toList).toArray
 |[],k,c,_,_,hl=>by simp[Instr.fill];simp at hl;rw[hl];simp
 | (i,v)::r,k,c,hi,hc,hl=>by
  have hv:v.cells.size=sz:=hc (i,v) (by simp);have hi0:i=k:=by have :=congrArg (λl=>l.head?) hi;simpa[List.range_succ_eq_map]using this
  subst hi0;simp only[aac]at hl;have hle:(i+1)*sz<=c.length:=by rw[<-hl];exact Nat.mul_le_mul_right _ (by omega)
  rw[Nat.add_mul,Nat.one_mul]at hle;have hf:=yo (i*sz) v.cells.toList 0 c (by simpa[hv]using hle);have hr:r.map (·.1)=(List.range r.length).map (·+(i+1)):=by have :=congrArg List.tail hi;simp only[aan,List.tail_cons,aac,List.range_succ_eq_map,List.map_map]at this;rw[this];apply List.map_congr_left;intro x _;simp;omega
  have ih:=EO sz r (i+1) (c.take (i*sz)++v.cells.toList++c.drop (i*sz+sz)) hr (λp hp=>hc p (by simp[hp])) (by
   have e:(i+(r.length+1))*sz=(i+1+r.length)*sz:=by congr 1;omega
   simp[hv];rw[<-hl]at hle⊢;omega)
  simp only[Instr.fill];rw[if_neg (by simp[hv];omega)];have e0:(v.cells.zipIdx.foldl (λcs (x:Value×Nat)=>match x with|(c,j)=>cs.setIfInBounds (i*sz+j) c) c.toArray)=(c.take (i*sz)++v.cells.toList++c.drop (i*sz+sz)).toArray:=by rw[<-Array.foldl_toList,Array.toList_zipIdx];simp only[Nat.add_zero,Array.length_toList,hv]at hf;exact hf
  rw[e0,ih]
  congr 1
  have e3:(c.take (i*sz)++v.cells.toList++c.drop (i*sz+sz)).take ((i+1)*sz)=c.take (i*sz)++v.cells.toList:=by rw[Nat.add_mul,Nat.one_mul,List.take_append_of_le_length (by simp[hv];omega)];apply List.take_of_length_le;simp[hv];omega
  rw[e3];simp
theorem Cu{vs:List<|Nat×Value}{m:Nat}{z cs:List Value}(h:Fr a n f)(hx:gr f ps=some vs)(ht:P.underlying t=some (.slice e))(hz:gc P e=some sz)(hzero:rp P e=some z)
  (J:ps.map (·.1)=List.range m) (hc:vs.all (λp=>p.2.cells.size==sz)=true) (hsm:Nat.ble (m*sz) 16777216=true) (hcs:(vs.flatMap λp=>p.2.cells.toList)=cs) (w:World) (ty:TypeId):
  ∃w' b,Runs P a ty (.buildSlice t m ps.toArray) w (.value<|.slice (some ⟨b,0,none⟩) m m) w'∧Blk w' b e cs∧Chg [] w w'∧b=w.heap.size∧b<w'.heap.size:=by
 subst hcs;refine⟨w.alloc<|.cells (vs.flatMap λp=>p.2.cells.toList).toArray e,w.heap.size,λ_ _ _ _=>?_,Blk.new w e _,Chg.alloc _ _,rfl,by simp⟩;obtain⟨inf,hi,hs⟩:=Option.map_eq_some_iff.1 (show(P.info? e).map (·.size)=some sz from hz);unfold rp at hzero;obtain⟨z0,hz1,hz2⟩:=Option.map_eq_some_iff.1 hzero;obtain⟨inf',O,hiz⟩:=Option.bind_eq_some_iff.1 hz1;rw[hi]at O;cases O;have Z:vs.map (·.1)=List.range m:=by rw[<-J,<-h.parts hx];simp
 have hm:vs.length=m:=by have :=congrArg List.length Z;simpa using this
 have e:(ps.toArray.map λ(i,x)=>(i,a.eval x))=vs.toArray:=by rw[<-h.parts hx];simp
 have hsm':m*sz<=16777216:=by simpa using hsm
 have hfill:∀c:Array Value,c.size=m*sz->Instr.fill (λi=>some (i*sz,sz)) c vs=some (vs.flatMap λp=>p.2.cells.toList).toArray:=λc hcz=>by have :=EO sz vs 0 c.toList (by rw[Z,hm];simp) (λp hp=>by simpa using List.all_eq_true.1 hc p hp) (by simp[hm,hcz]);simpa using this
 simp only[execOp];rw[e];simp only[Instr.buildSlice];by_cases h0:m*sz=0
 ·have G:=hfill ((Array.range 0).map λx=>(default:Value)) (by simp[h0]);simp[run_underlying ht,sizeOf,typeInfo,hi,hs,h0,newRow];rw[G];simp
 ·have G:=hfill ((Array.range<|m*sz).map (z0.cells[·%z0.cells.size]!)) (by simp)
  try simp at G
  simp[run_underlying ht,sizeOf,typeInfo,hi,hs,h0,newRow,zeroValue,hiz,show¬16777216<m*sz by omega,G]
theorem OM{y:Operand}{z:Value}{sz by_:Nat}{cs:List Value}(h:Fr a n f)(hx:aR f x=some (.int .i64 (m:Int)))(hy:aR f y=some (.int .i64 (m:Int)))(ht:P.underlying t=some (.slice e))
  (hi:(P.info? e).map (λi=>(i.zero,i.size,i.bytes))=some (some z,sz,by_)) (hb:Nat.ble (by_*m) 281474976710656=true) (O:Nat.ble m 9223372036854775807=true) (Z:madeCells z.cells (m*sz)=cs.toArray) (w:World) (ty:TypeId):
  ∃w' b,Runs P a ty (.makeSlice t x y) w (.value<|.slice (some ⟨b,0,none⟩) m m) w'∧Blk w' b e cs∧Chg [] w w'∧b=w.heap.size∧b<w'.heap.size:=by
 obtain⟨J,hi0,G⟩:=Option.map_eq_some_iff.1 hi;simp only[Prod.mk.injEq]at G;obtain⟨hz,hs,hby⟩:=G;refine⟨w.alloc<|.cells cs.toArray e,w.heap.size,λ_ _ _ _=>?_,Blk.new w e _,Chg.alloc _ _,rfl,by simp⟩;have hb':(J.bytes:Int)*(m:Int)<=281474976710656:=by
  have h9:J.bytes*m<=281474976710656:=by rw[hby];exact Nat.le_of_ble_eq_true hb
  have h8:((J.bytes*m:Nat):Int)<=281474976710656:=by omega
  rwa [Int.natCast_mul]at h8
 have h63':m<=9223372036854775807:=Nat.le_of_ble_eq_true O;have hr:=run_make (P:=P) w t e J z ht hi0 hz .i64 .i64 m m (by omega) (by omega) hb' (by omega);simp only[execOp,h.eval hx,h.eval hy];simp only[Int.toNat_natCast,hs,Z]at hr;simp[hr]
theorem Br{e size:Nat}{cs:List Value}(h:Blk w b e cs)(hb:base<=b)(G:cs.length=m*size)(J:Nat.ble m maxLen=true):w.ownsRow base e size (.slice (some ⟨b,0,none⟩) m m) m cs:=by refine⟨G,.inr ⟨b,m,cs.toArray,I,hb,h,aaf _,by simpa using J,by simpa using G,?_⟩⟩;simp[<-G]
end
variable{a:Act}{f:Nat->Option Value}
theorem OX{w:World}{ty t u:TypeId}{y:Operand}{k:IntKind}{m l:Int}(h:Fr a n f)(hx:aR f x=some (.int k m))(hy:aR f y=some (.int k l)):Runs P a ty (.call {callee:=.builtin .max,args:=#[x,y],argTypes:=#[t,u]}) w (.value<|.int k<|max m l) w:=λ_ _ _ _=>by
 simp only[execOp,resolve,List.map_toArray,aan,aaC,h.eval hx,h.eval hy];simp[go_sem,invoke,builtin]
 try (split<;>omega)
end Go.Proofs.YthnohcipianijaaGreatDoor
namespace Go.Proofs.YthnohcipianijaaGreatDoor.Lx
def cR(c:UInt8):Bool:=decide (97<=c.toNat)&&decide (c.toNat<=122)
def upperB(c:UInt8):Bool:=decide (65<=c.toNat)&&decide (c.toNat<=90)
def br(c:UInt8):Bool:=decide (48<=c.toNat)&&decide (c.toNat<=57)
def bB(c:UInt8):Bool:=cR c||upperB c
def bc(c:UInt8):Bool:=bB c||br c||c.toNat==95
def ct(c:UInt8):Bool:=c.toNat==9||c.toNat==10||c.toNat==13||c.toNat==32
def eu(c:UInt8):Bool:=decide (32<=c.toNat)&&decide (c.toNat<=126)
def be(c:UInt8):Bool:=ct c||eu c
def IJ:List YB:=[[109,111,100,117,108,101],[100,101,102],[116,121,112,101],[108,101,116],[105,110],[105,102],[116,104,101,110],[101,108,115,101],[116,114,117,101],[102,97,108,115,101],[73,110,116],[84,101,120,116],[66,111,111,108]]
def lG(l:YB):Bool:=IJ.contains l
def spanN(p:UInt8->Bool)(l:YB):Nat:=(l.takeWhile p).length
def dF(l:YB):Bool:=
 upperB (l.getD 0 0)&&!lG (l.take<|spanN bc l)&&decide (spanN bc l+1<l.length)&&((l.getD (spanN bc l) 0).toNat==46)&&bB (l.getD (spanN bc l+1) 0)
def bM(l:YB)(n:Nat):Nat×Nat×Nat:=
 if 24<n then(0,0,3)else if lG (l.take n)=true then(7,n,0)else if cR (l.getD 0 0)=true then(1,n,0)else(2,n,0)
def dx(l:YB)(n m:Nat):Nat×Nat×Nat:=
 if 24<n∨24<m then(0,0,3)
 else if lG ((l.drop<|n+1).take m)=true then(0,0,2)
 else if cR (l.getD (n+1) 0)=true then(3,n+1+m,0)
 else(4,n+1+m,0)
def bO(l:YB):Nat×Nat×Nat:=
 if dF l=true then dx l (spanN bc l) (spanN bc<|l.drop<|spanN bc l+1)else bM l (spanN bc l)
def eO(l:YB):Nat×Nat:=
 let n:=spanN br l
 if 1<n∧(l.getD 0 0).toNat=48 then(0,2)else if 15<n then(0,3)else(n,0)
def quotedT:YB->Nat->Nat×Nat
 |[],_=>(0,2)
 |c::r,i=>
  if be c=false then(i,1)
  else if c.toNat=34 then(i+1,0)
  else if c.toNat=92∨c.toNat<32 then(0,2)
  else quotedT r (i+1)
def sk:YB:=[40,41,91,93,58,44,61,43,45,42,60,63]
def tokenT(l:YB):Nat×Nat×Nat:=
 let c:=l.getD 0 0
 if be c=false then(0,0,1)
 else if bB c=true then bO l
 else if br c=true then(5,eO l)
 else if c.toNat=34 then(6,quotedT l.tail 1)
 else if c.toNat=61∧1<l.length∧(l.getD 1 0).toNat=61 then(8,2,0)
 else if sk.contains c=true then(8,1,0)
 else(0,0,2)
def aU:Bool->YB->Nat->Nat×Option Nat
 |_,[],n=>(n,none)
 |false,c::r,n=>if ct c=true then aU false r (n+1)else if c.toNat=35 then aU true r (n+1)else(n,none)
 |true,c::r,n=>if c.toNat=10 then aU false r (n+1)else if be c=false then(n,some n)else aU true r (n+1)
structure TokZ where
 kind:Int
 lead:List UInt8
 text:List UInt8
structure Scanned where
 toks:List TokZ
 tail:List UInt8
 place:Nat
 err:Nat
def scanT:Nat->List UInt8->Nat->List TokZ->Scanned
 |0,_,_,_=>⟨[],[],0,0⟩
 | f +1,l,pos,acc=>
  match(aU false l 0).2 with
  |some b=>⟨[],[],pos+b,1⟩
  | none=>
   if(aU false l 0).1=l.length then⟨acc,l,0,0⟩
   else if(tokenT<|l.drop (aU false l 0).1).2.2=0 then
    scanT f (l.drop<|(aU false l 0).1+(tokenT<|l.drop (aU false l 0).1).2.1) (pos+(aU false l 0).1+(tokenT<|l.drop (aU false l 0).1).2.1)
     (acc++[⟨(tokenT<|l.drop (aU false l 0).1).1,l.take (aU false l 0).1,(l.drop (aU false l 0).1).take (tokenT<|l.drop (aU false l 0).1).2.1⟩])
   else⟨[],[],pos+(aU false l 0).1+(tokenT<|l.drop (aU false l 0).1).2.1,(tokenT<|l.drop (aU false l 0).1).2.2⟩
def je(l:YB):Scanned:=if 4096<l.length then⟨[],[],4096,3⟩else scanT (l.length+1) l 0 []
def bi(l:YB):Nat:=if l=[]then 0 else if(tokenT l).2.2=0∧(tokenT l).2.1=l.length then(tokenT l).1 else 0
def jj:Bool->YB->Bool->Bool
 |c,[],fin=>!c||fin
 |c,x::r,fin=>
  if be x=false then false
  else if c=true then jj (!(x.toNat==10)) r fin
  else if x.toNat=35 then jj true r fin
  else if ct x=false then false
  else jj c r fin
def fusesT(a b:YB):Bool:=
 if bi a=0∨bi b=0 then false
 else
  let r:=je<|a++b
  if r.err=0∧r.toks.length=2∧r.tail=[]then
   !((r.toks.getD 0 ⟨0,[],[]⟩).lead==[]&&(r.toks.getD 0 ⟨0,[],[]⟩).text==a&&(r.toks.getD 1 ⟨0,[],[]⟩).lead==[]&&(r.toks.getD 1 ⟨0,[],[]⟩).text==b)
  else true
variable{l:YB}{k:Nat}
theorem nd{p:UInt8->Bool}{c:UInt8}(h:k<l.length)(G:l[k]=c)(J:p c=true):
  spanN p (l.drop k)=spanN p (l.drop<|k+1)+1:=by
 rw[aam h,G];simp[spanN,J]
theorem tk{p:UInt8->Bool}{c:UInt8}(h:k<l.length)(G:l[k]=c)(J:p c=false):
  spanN p (l.drop k)=0:=by
 rw[aam h,G];simp[spanN,J]
theorem uV{p:UInt8->Bool}(h:l.length<=k):spanN p (l.drop k)=0:=by rw[List.drop_of_length_le h];rfl
theorem mH(p:UInt8->Bool):∀(l:YB),spanN p l<=l.length
 |[]=>aaf _
 |c::r=>by have :=mH p r;unfold spanN at *;rw[List.takeWhile_cons];split<;>simp <;>omega
theorem yu{p:UInt8->Bool}(h:0<l.length)(G:p (l.getD 0 0)=true):0<spanN p l:=by
 cases l with
 |nil=>simp at h
 |cons c r=>simp[spanN]at *;simp[G]
theorem wZ{c:UInt8}(h:bB c=true∨br c=true∨((c.toNat:Int)==95)=true):bc c=true:=by
 rcases h with h|h|h<;>simp_all[bc]<;>omega
theorem Gg{c:UInt8}(h1:¬bB c=true)(h2:¬br c=true)(G:((c.toNat:Int)==95)=false):bc c=false:=by simp_all[bc];omega
theorem aS{c:UInt8}(h:k<l.length)(G:l[k]=c):l.getD k 0=c:=by simp[List.getD,List.getElem?_eq_getElem h,G]
variable{n m:Nat}
theorem dQ(h:((n:Int)==(m:Int))=true):n=m:=by simp at h;omega
theorem cy(h:((n:Int)==(m:Int))=false):¬n=m:=by simp at h;omega
theorem qw{c:UInt8}(h:spanN br l=k)(h1:1<k)(J:0<l.length)(O:l[0]=c)(G:((c.toNat:Int)==48)=true):eO l=(0,2):=by unfold eO;rw[h,aS J O];have :=dQ (m:=48) G;simp[h1,this]
theorem ro(h:spanN br l=k)(h1:1<k->¬(l.getD 0 0).toNat=48)(G:15<k):eO l=(0,3):=by unfold eO;rw[h];simp only;rw[if_neg λx=>h1 x.1 x.2,if_pos G]
theorem jH(h:spanN br l=k)(h1:1<k->¬(l.getD 0 0).toNat=48)(G:¬15<k):eO l=(k,0):=by unfold eO;rw[h];simp only;rw[if_neg λx=>h1 x.1 x.2,if_neg G]
theorem FS{c:UInt8}(h:k<l.length)(G:l[k]=c):
  quotedT (l.drop k) k=if be c=false then(k,1)else if c.toNat=34 then(k+1,0)else if c.toNat=92∨c.toNat<32 then(0,2)else quotedT (l.drop<|k+1) (k+1):=by
 rw[aam h,G];rfl
theorem Gx(h:l.length<=k):quotedT (l.drop k) k=(0,2):=by rw[List.drop_of_length_le h];rfl
theorem AA(l:YB)(a b:Nat):(ByteArray.mk l.toArray).extract a b=⟨((l.drop a).take<|b-a).toArray⟩:=by apply ByteArray.ext;rw[ByteArray.data_extract];simp[List.extract_eq_take_drop]
theorem sP(l:YB)(a:Nat):(l.drop a).take (l.length-a)=l.drop a:=by apply List.take_of_length_le;simp
theorem jT(G:spanN bc l=n)(h:dF l=false):bO l=bM l n:=by simp[bO,h,G]
theorem CQ(G:spanN bc l=n)(J:spanN bc (l.drop<|n+1)=m)(h:dF l=true):bO l=dx l n m:=by simp[bO,h,G,J]
theorem Lu{c:UInt8}(G:0<l.length)(J:l[0]=c)(h:upperB c=false):dF l=false:=by simp[dF,aS G J,h,-List.getD_eq_getElem?_getD]
theorem Kp(G:spanN bc l=n)(h:lG (l.take n)=true):dF l=false:=by simp[dF,G,h]
theorem LX(G:spanN bc l=n)(h:¬n+1<l.length):dF l=false:=by simp[dF,G,h]
theorem LG{c:UInt8}(G:spanN bc l=n)(J:n<l.length)(O:l[n]=c)(h:((c.toNat:Int)==46)=false):dF l=false:=by have :=cy (m:=46) h;simp[dF,G,aS J O,this,-List.getD_eq_getElem?_getD]
theorem KS{c:UInt8}(G:spanN bc l=n)(J:n+1<l.length)(O:l[n+1]=c)(h:bB c=false):dF l=false:=by simp[dF,G,aS J O,h,-List.getD_eq_getElem?_getD]
theorem DU{c0 c1 c2:UInt8}(hn:spanN bc l=n)(h0:0<l.length)(G:l[0]=c0)(hu:upperB c0=true)(hr:lG (l.take n)=false)
  (hl:n+1<l.length) (J:n<l.length) (O:l[n]=c1) (Z:((c1.toNat:Int)==46)=true) (hc2:l[n+1]=c2) (h3:bB c2=true):dF l=true:=by
 have :=dQ (m:=46) Z;simp[dF,hn,aS h0 G,aS J O,aS hl hc2,hu,hr,hl,h3,this,-List.getD_eq_getElem?_getD]
theorem yH{c:UInt8}(G:0<l.length)(J:l[0]=c):
  tokenT l=if be c=false then(0,0,1)else if bB c=true then bO l else if br c=true then(5,eO l)else if c.toNat=34 then(6,quotedT l.tail 1)
   else if c.toNat=61∧1<l.length∧(l.getD 1 0).toNat=61 then(8,2,0)else if sk.contains c=true then(8,1,0)else(0,0,2):=by
 unfold tokenT;rw[aS G J]
theorem zM:∀(r:YB) (i:Nat),(quotedT r i).1<=i+r.length∧((quotedT r i).2=0->i<(quotedT r i).1)
 |[],i=>by simp[quotedT]
 | c::r,i=>by
  have ih:=zM r<|i+1;unfold quotedT;split
  ·simp
  ·split
   ·simp <;>omega
   ·split
    ·simp
    ·simp only[aac];exact⟨by omega,λh=>by have :=ih.2 h;omega⟩
theorem KG(G:0<l.length)(J:bB (l.getD 0 0)=true):(bO l).2.1<=l.length∧((bO l).2.2=0->0<(bO l).2.1):=by
 have h1:=mH bc l;have h2:0<spanN bc l:=yu G (by simp[bc,J,-List.getD_eq_getElem?_getD]);have O:=mH bc<|l.drop<|spanN bc l+1;simp only[aal]at O;unfold bO;split
 ·rename_i hcond;have Z:spanN bc l+1<l.length:=by
   unfold dF at hcond;simp only[aaa,aaj]at hcond;exact hcond.1.1.2
  unfold dx;split
  ·simp
  ·split
   ·simp
   ·split<;>simp <;>omega
 ·unfold bM;split
  ·simp
  ·split
   ·simp;omega
   ·split<;>simp <;>omega
theorem GD(G:0<l.length)(J:br (l.getD 0 0)=true):(eO l).1<=l.length∧((eO l).2=0->0<(eO l).1):=by
 have h1:=mH br l;have h2:0<spanN br l:=yu G J;unfold eO;simp only;split
 ·simp
 ·split
  ·simp
  ·simp;omega
theorem IG(G:0<l.length):(tokenT l).2.1<=l.length∧((tokenT l).2.2=0->0<(tokenT l).2.1):=by
 unfold tokenT;simp only;split
 ·simp
 split
 ·exact KG G ‹_›
 split
 ·exact GD G ‹_›
 split
 ·have :=zM l.tail 1;simp only[List.length_tail]at this;exact⟨by simp only;omega,λh=>by have :=this.2 h;simp only;omega⟩
 split
 ·simp;omega
 split
 ·simp;omega
 ·simp
theorem Gq{c:UInt8}(h:k<l.length)(G:l[k]=c)(J:ct c=true):aU false (l.drop k) n=aU false (l.drop<|k+1) (n+1):=by rw[aam h,G];simp[aU,J]
theorem JS{c:UInt8}(h:k<l.length)(J:l[k]=c)(G:c.toNat=35):aU false (l.drop k) n=aU true (l.drop k) n:=by
 rw[aam h,J];have h1:ct c=false:=by simp[ct,G]
 have h2:be c=true:=by simp[be,eu,G]
 simp[aU,h1,h2,G]
theorem GC{c:UInt8}(h:k<l.length)(G:l[k]=c)(J:ct c=false)(O:¬c.toNat=35):aU false (l.drop k) n=(n,none):=by rw[aam h,G];simp[aU,J,O]
theorem Ii{c:UInt8}(h:k<l.length)(J:l[k]=c)(G:c.toNat=10):aU true (l.drop k) n=aU false (l.drop k) n:=by
 rw[aam h,J];have h1:ct c=true:=by simp[ct,G]
 simp[aU,h1,G]
theorem Mh{c:UInt8}(h:k<l.length)(J:l[k]=c)(G:¬c.toNat=10)(O:be c=false):aU true (l.drop k) n=(n,some n):=by rw[aam h,J];simp[aU,G,O]
theorem Nr{c:UInt8}(h:k<l.length)(J:l[k]=c)(G:¬c.toNat=10)(O:be c=true):aU true (l.drop k) n=aU true (l.drop<|k+1) (n+1):=by rw[aam h,J];simp[aU,G,O]
theorem yT(b:Bool)(h:l.length<=k):aU b (l.drop k) n=(n,none):=by rw[List.drop_of_length_le h];cases b<;>rfl
variable{b:Nat}
theorem LW{f:Nat}{pos:Nat}{acc:List TokZ}(h:aU false l 0=(n,some b)):scanT (f+1) l pos acc=⟨[],[],pos+b,1⟩:=by simp[scanT,h]
theorem Lw{f:Nat}{pos:Nat}{acc:List TokZ}(h:aU false l 0=(n,none))(G:n=l.length):scanT (f+1) l pos acc=⟨acc,l,0,0⟩:=by simp[scanT,h,G]
theorem Kj{f:Nat}{pos e:Nat}{acc:List TokZ}(h:aU false l 0=(n,none))(G:¬n=l.length)(ht:tokenT (l.drop n)=(k,m,e))(J:¬e=0):
  scanT (f+1) l pos acc=⟨[],[],pos+n+m,e⟩:=by
 simp[scanT,h,G,ht,J]
theorem Mb{f:Nat}{pos:Nat}{acc:List TokZ}(h:aU false l 0=(n,none))(G:¬n=l.length)(ht:tokenT (l.drop n)=(k,m,0)):
  scanT (f+1) l pos acc=scanT f (l.drop<|n+m) (pos+n+m) (acc++[⟨k,l.take n,(l.drop n).take m⟩]):=by
 simp[scanT,h,G,ht]
end Go.Proofs.YthnohcipianijaaGreatDoor.Lx
namespace Go.Proofs.YthnohcipianijaaGreatDoor.Sx
open Lx
inductive Tree where
 |node (kind:Int) (text:List UInt8) (leads:List (List UInt8)) (kids:List Tree)
abbrev YT:=List Tree
def Tree.kind:Tree->Int|.node k _ _ _=>k
def Tree.text:Tree->YB|.node _ s _ _=>s
def Tree.leads:Tree->List YB|.node _ _ l _=>l
def Tree.kids:Tree->YT|.node _ _ _ k=>k
def rF:Tree:=.node 0 [] [] []
def PC:TokZ:=⟨0,[],[]⟩
structure PS where
 toks:List TokZ
 off:Nat
 size:Nat
 failed:Nat
 place:Nat
def cn(s:PS):TokZ:=s.toks.headD PC
def zz(e:Nat)(s:PS):PS:=if s.failed=0 then⟨[],s.off,s.size,e,s.off⟩else⟨[],s.off,s.size,s.failed,s.place⟩
def eV(s:PS):PS:=
 match s.toks with
 |[]=>s
 |[_]=>⟨[],s.size,s.size,s.failed,s.place⟩
 |t::u::r=>⟨u::r,s.off+(t.text.length+u.lead.length),s.size,s.failed,s.place⟩
def gz(x:YB)(s:PS):YB×PS:=if(cn s).text=x then((cn s).lead,eV s)else([],zz 2 s)
def uY(k o:Int)(s:PS):YB×YB×PS:=
 if(cn s).kind=0∨((cn s).kind≠k∧(cn s).kind≠o)then([],[],zz 2 s)else((cn s).text,(cn s).lead,eV s)
def Ot:YB:=[109,111,100,117,108,101]
def NI:YB:=[100,101,102]
def NR:YB:=[116,121,112,101]
def Ro:YB:=[108,101,116]
def wIn:YB:=[105,110]
def wIf:YB:=[105,102]
def Sr:YB:=[116,104,101,110]
def SL:YB:=[101,108,115,101]
def Of:YB:=[116,114,117,101]
def Kw:YB:=[102,97,108,115,101]
def Ty:YB:=[73,110,116]
def SX:YB:=[84,101,120,116]
def SQ:YB:=[66,111,111,108]
def St(x:YB):Bool:=x==[43]||x==[45]||x==[42]||x==[60]||x==[61,61]
def Ho(t:TokZ):Bool:=
 t.kind==5||t.kind==6||t.kind==1||t.kind==3||t.text==Ro||t.text==wIf||t.text==Of||t.text==Kw||t.text==[63]||t.text==[91]||t.text==[40]
def BS:Nat->PS->Tree×PS
 |0,s=>(rF,s)
 | n+1,s=>
  if(cn s).text=Ty then(.node 5 [] [(cn s).lead] [],eV s)
  else if(cn s).text=SX then(.node 6 [] [(cn s).lead] [],eV s)
  else if(cn s).text=SQ then(.node 7 [] [(cn s).lead] [],eV s)
  else if(cn s).text=[91]then
   (.node 8 [] [(cn s).lead,(gz [93] (BS n<|eV s).2).1] [(BS n<|eV s).1],(gz [93] (BS n<|eV s).2).2)
  else(.node 9 (uY 2 4 s).1 [(uY 2 4 s).2.1] [],(uY 2 4 s).2.2)
def Lj(n:Nat)(s0:PS):Tree×PS:=
 let a:=gz NR s0
 let b:=uY 2 2 a.2
 let c:=gz [61] b.2.2
 let t:=BS n c.2
 (.node 3 b.1 [a.1,b.2.1,c.1] [t.1],t.2)
def QP(n:Nat)(s0:PS):Tree×PS:=
 let b:=uY 1 1 s0
 let c:=gz [58] b.2.2
 let t:=BS n c.2
 (.node 4 b.1 [b.2.1,c.1] [t.1],t.2)
def commaF(item:PS->Tree×PS)(most:Nat)(beg:TokZ->Bool):Nat->List YB->YT->PS->List YB×YT×PS
 |0,cs,ks,s=>(cs,ks,s)
 | m+1,cs,ks,s=>
  if(cn s).text=[44]then
   let s2:=if ks.length=most∧beg (cn<|eV s)=true then zz 3 (eV s)else eV s
   commaF item most beg m (cs++[(cn s).lead]) (ks++[(item s2).1]) (item s2).2
  else(cs,ks,s)
def Tr(E:PS->Tree×PS)(s:PS):Tree×PS:=(.node 17 [] [] [(E s).1],(E s).2)
def Rc(item:PS->Tree×PS)(most:Nat)(beg:TokZ->Bool)(s:PS):List YB×YT×PS:=
 if(cn s).text=[41]then([],[],s)else commaF item most beg ((item s).2.toks.length+1) [] [(item s).1] (item s).2
def Ta(E:PS->Tree×PS)(s0:PS):Tree×PS:=
 if(cn s0).kind=1∧¬(cn<|eV s0).text=[40]then(.node 12 (cn s0).text [(cn s0).lead] [],eV s0)
 else
  let a:=gz [40]<|eV s0
  let r:=Rc (Tr E) 8 Ho a.2
  let z:=gz [41] r.2.2
  (.node 16 (cn s0).text ([(cn s0).lead,a.1,z.1]++r.1) r.2.1,z.2)
def So(E:PS->Tree×PS)(s0:PS):Tree×PS:=
 let a:=gz [91] s0
 let r:=commaF E 16 Ho ((E a.2).2.toks.length+1) [] [(E a.2).1] (E a.2).2
 let z:=gz [93] r.2.2
 (.node 18 [] ([a.1,z.1]++r.1) r.2.1,z.2)
def RF(E:PS->Tree×PS)(s0:PS):Tree×PS:=
 let e:=E<|eV s0
 let z:=gz [41] e.2
 (.node 22 [] [(cn s0).lead,z.1] [e.1],z.2)
def DA(E:PS->Tree×PS)(s:PS):Tree×PS:=
 let t:=cn s
 if t.kind=1∨t.kind=3 then Ta E s
 else if t.text=Of then(.node 13 [] [t.lead] [],eV s)
 else if t.text=Kw then(.node 14 [] [t.lead] [],eV s)
 else if t.text=[63]then(.node 15 [] [t.lead] [],eV s)
 else if t.text=[91]then So E s
 else if t.text=[40]then RF E s
 else if t.kind=5 then(.node 10 t.text [t.lead] [],eV s)
 else if t.kind=6 then(.node 11 t.text [t.lead] [],eV s)
 else(rF,zz 2 s)
def Qb(U:PS->Tree×PS):Nat->Tree->PS->Tree×PS
 |0,t,s=>(t,s)
 |m+1,t,s=>
  if St (cn s).text=true then Qb U m (.node 21 (cn s).text [(cn s).lead] [t,(U<|eV s).1]) (U<|eV s).2
  else(t,s)
def SY(E:PS->Tree×PS)(s0:PS):Tree×PS:=
 let b:=uY 1 1<|eV s0
 let c:=gz [61] b.2.2
 let x:=E c.2
 let d:=gz wIn x.2
 let y:=E d.2
 (.node 20 b.1 [(cn s0).lead,b.2.1,c.1,d.1] [x.1,y.1],y.2)
def ifF(E:PS->Tree×PS)(s0:PS):Tree×PS:=
 let x:=E<|eV s0
 let c:=gz Sr x.2
 let y:=E c.2
 let d:=gz SL y.2
 let z:=E d.2
 (.node 19 [] [(cn s0).lead,c.1,d.1] [x.1,y.1,z.1],z.2)
def Sl(E:PS->Tree×PS)(s:PS):Tree×PS:=
 if(cn s).text=Ro then SY E s
 else if(cn s).text=wIf then ifF E s
 else Qb (DA E) ((DA E s).2.toks.length+1) (DA E s).1 (DA E s).2
def Og:Nat->PS->Tree×PS
 |0,s=>(rF,s)
 |n+1,s=>Sl (Og n) s
def CS(n:Nat)(s0:PS):Tree×PS:=
 let a:=gz NI s0
 let b:=uY 1 1 a.2
 let c:=gz [40] b.2.2
 let r:=Rc (QP n) 8 (λt=>t.kind==1) c.2
 let d:=gz [41] r.2.2
 let e:=gz [58] d.2
 let t:=BS n e.2
 let g:=gz [61] t.2
 let x:=Og n g.2
 (.node 2 b.1 ([a.1,b.2.1,c.1,d.1,e.1,g.1]++r.1) (r.2.1++[t.1,x.1]),x.2)
def AR(n:Nat):Nat->YT->PS->YT×PS
 |0,ks,s=>(ks,s)
 |m+1,ks,s=>
  if s.toks=[]then(ks,s)
  else if¬(cn s).text=NI∧¬(cn s).text=NR then AR n m ks (zz 2 s)
  else if ks.length=40 then AR n m ks (zz 3 s)
  else if(cn s).text=NI then AR n m (ks++[(CS n s).1]) (CS n s).2
  else AR n m (ks++[(Lj n s).1]) (Lj n s).2
def SA(n:Nat)(s0:PS):Tree×PS:=
 let a:=gz Ot s0
 let b:=uY 2 2 a.2
 let r:=AR n (b.2.2.toks.length+2) [] b.2.2
 (.node 1 b.1 [a.1,b.2.1,[]] r.1,r.2)
mutual
def depthT:Tree->Nat
 |.node _ _ _ ks=>depthsT ks+1
def depthsT:YT->Nat
 |[]=>0
 |t::r=>max (depthT t)<|depthsT r
end
def RC(toks:List TokZ)(size:Nat):PS:=⟨toks,match toks with|[]=>size|t::_=>t.lead.length,size,0,0⟩
def QO(l:YB):Tree×Nat×Nat:=
 let r:=je l
 if¬r.err=0 then(rF,r.place,r.err)
 else
  let f:=SA (r.toks.length+1)<|RC r.toks l.length
  if¬f.2.failed=0 then(rF,f.2.place,f.2.failed)
  else if 40<depthT f.1 then(rF,0,4)
  else(.node f.1.kind f.1.text (f.1.leads.set 2 r.tail) f.1.kids,0,0)
end Go.Proofs.YthnohcipianijaaGreatDoor.Sx
namespace Go.Proofs.YthnohcipianijaaGreatDoor
open _root_.Go.Proofs.Tryz
open Go.RowKit Lx Sx
abbrev sM(l:YB):Value:=.string ⟨l.toArray⟩
def RowIn(S:Nat->Prop)(w:World)(size:Nat)(A:Option Addr)(n:Nat)(xs:List Value):Prop:=
 xs.length=n*size∧(0<n->∃b off,A=some ⟨b,off,none⟩∧S b∧b<w.heap.size∧∀j,j<n*size->w.cell? ⟨b,off+j,none⟩=xs[j]?)
mutual
def TreeIs(S:Nat->Prop)(w:World):Tree->List Value->Prop
 |.node k s ls ks,c=>∃A m B n,c=[.int .i64 k,sM s,.slice A ls.length m,.slice B ks.length n]∧ls.length<=m∧m<=maxLen∧ks.length<=n∧n<=maxLen∧
  RowIn S w 1 A ls.length (ls.map sM)∧∃cs,KidsAre S w ks cs∧RowIn S w 4 B ks.length cs
def KidsAre(S:Nat->Prop)(w:World):YT->List Value->Prop
 |[],cs=>cs=[]
 |t::r,cs=>∃c d,cs=c++d∧TreeIs S w t c∧KidsAre S w r d
end
variable{A:Option Addr}
variable{n:Nat}{xs:List Value}
variable{m:Nat}
section
variable{S S':Nat->Prop}{w w':World}
theorem RowIn.none_{size:Nat}:RowIn S w size A 0 []:=⟨by simp,λh=>absurd h<|by omega⟩
theorem RowIn.keep{size:Nat}(h:RowIn S w size A n xs)(J:∀b,S b->S' b)(O:∀b,S b->b<w.heap.size->w'.heap[b]?=w.heap[b]?):RowIn S' w' size A n xs:=by
 refine⟨h.1,λZ=>?_⟩;obtain⟨b,off,e,hs,hb,hc⟩:=h.2 Z;have G:=O b hs hb;refine⟨b,off,e,J b hs,?_,λj hj=>?_⟩
 ·rcases Nat.lt_or_ge b w'.heap.size with h1|h1
  ·exact h1
  ·rw[Array.getElem?_eq_none h1,Array.getElem?_eq_getElem hb]at G;cases G
 ·rw[<-hc j hj];exact World.cell?_of_block (a:=⟨b,off+j,none⟩) G
theorem TreeIs.four{t:Tree}{c:List Value}(h:TreeIs S w t c):c.length=4:=by cases t;simp only[TreeIs]at h;obtain⟨A,m,B,n,e,_⟩:=h;rw[e];rfl
abbrev Any:Nat->Prop:=λ_=>True
theorem Ov{k:Int}{s:YB}{ls:List YB}{ks:YT}{A B:Option Addr}{cs:List Value}(h1:ls.length<=m)(h2:m<=maxLen)(G:ks.length<=n)(J:n<=maxLen)
  (O:RowIn S w 1 A ls.length<|ls.map sM) (Z:KidsAre S w ks cs) (h7:RowIn S w 4 B ks.length cs):TreeIs S w (.node k s ls ks) [.int .i64 k,sM s,.slice A ls.length m,.slice B ks.length n]:=by
 simp only[TreeIs];exact⟨A,m,B,n,I,h1,h2,G,J,O,cs,Z,h7⟩
theorem TreeIs.one{t:Tree}{c:List Value}(h:TreeIs S w t c):c.all (·.oneCell')=true:=by cases t;simp only[TreeIs]at h;obtain⟨A,m,B,n,e,_⟩:=h;rw[e];rfl
end
open Go.RowKit
inductive V where
 |int (k:IntKind) (n:Int)
 |bool (b:Bool)
 |str (l:List UInt8)
 |nilp
 |nils
 |raw (x:Value)
 |ptr (id off:Nat)
 |el (id sz i off:Nat)
 |sl (id:Nat)
 |box (cs:List V) (off:Nat)
 |row (sz:Nat) (els:List V)
 |agg (cs:List V)
 |tup (vs:List V)
 |clo (fid:FuncId) (cs:List V)
 |lk (els:List (List V))
 |np (id:Nat)
abbrev qi(n:Int):V:=.int .i64 n
inductive Ob where
 |free
 |gone
 |var (t:TypeId) (cs:List V)
 |row (e:TypeId) (sz:Nat) (els:List V)
 |ext (bs:List Nat) (Φ:World->Prop)
 |mp (kt et:TypeId) (ks vs:List V)
abbrev ρ0:Nat->Option Value:=λ_=>none
section
variable(S:Nat->Prop)(w:World)
mutual
def VRel(ρ:Nat->Option Value):V->Value->Prop
 |.int k n,x=>x=.int k n
 |.bool b,x=>x=.bool b
 |.str l,x=>x=.string ⟨l.toArray⟩
 |.nilp,x=>x=.pointer none
 |.nils,x=>x=.slice none 0 0
 |.raw y,x=>x=y∧y.oneCell'=true
 |.ptr id o,x=>∃b,ρ id=some (.pointer<|some ⟨b,0,none⟩)∧x=.pointer (some ⟨b,o,none⟩)
 |.el id sz i o,x=>∃b n c,ρ id=some (.slice (some ⟨b,0,none⟩) n c)∧x=.pointer (some ⟨b,i*sz+o,none⟩)
 |.sl id,x=>ρ id=some x∧x.oneCell'=true
 |.box cs o,x=>∃b off xs,x=.pointer (some ⟨b,off+o,none⟩)∧S b∧b<w.heap.size∧LRel ρ0 cs xs∧∀j,j<xs.length->w.cell? ⟨b,off+j,none⟩=xs[j]?
 |.row sz els,x=>∃A c xs,x=.slice A els.length c∧els.length<=c∧c<=maxLen∧CRel ρ0 sz els xs∧RowIn S w sz A els.length xs
 |.agg cs,x=>∃xs,x=.agg xs.toArray∧LRel ρ cs xs
 |.tup cs,x=>∃xs,x=.tuple xs.toArray∧LRel ρ cs xs
 |.clo fid cs,x=>∃xs,x=.func (.func fid) #[] xs.toArray∧LRel ρ cs xs
 |.lk els,x=>KRel els x
 |.np id,x=>x=.pointer none∨∃b,ρ id=some (.pointer<|some ⟨b,0,none⟩)∧x=.pointer (some ⟨b,0,none⟩)
def LRel(ρ:Nat->Option Value):List V->List Value->Prop
 |[],xs=>xs=[]
 |v::r,xs=>∃x ys,xs=x::ys∧VRel ρ v x∧LRel ρ r ys
def KRel:List (List V)->Value->Prop
 |[],x=>x=.pointer none
 |cs::r,x=>∃b off xs y,x=.pointer (some ⟨b,off,none⟩)∧S b∧b<w.heap.size∧LRel ρ0 cs xs∧KRel r y∧y.oneCell'=true∧∀j,j<xs.length+1->w.cell? ⟨b,off+j,none⟩=(xs++[y])[j]?
def CRel(ρ:Nat->Option Value)(sz:Nat):List V->List Value->Prop
 |[],xs=>xs=[]
 |v::r,xs=>∃x ys,xs=x.cells.toList++ys∧(x.cells.size=sz∧x.cells.toList.all (·.oneCell')=true)∧VRel ρ v x∧CRel ρ sz r ys
end
end
structure Up (S S':Nat->Prop) (w w':World) (ρ ρ':Nat->Option Value):Prop where
 s:∀b,S b->S' b
 blk:∀b,S b->b<w.heap.size->w'.heap[b]?=w.heap[b]?
 r:∀i x,ρ i=some x->ρ' i=some x
variable{b:Nat}
variable{i:Nat}
variable{ρ ρ':Nat->Option Value}
section
variable{S S':Nat->Prop}{w w':World}
section
variable{ρ ρ':Nat->Option Value}
theorem Up.refl:Up S S w w ρ ρ:=⟨λ_ h=>h,λ_ _ _=>rfl,λ_ _ h=>h⟩
theorem Up.lt(u:Up S S' w w' ρ ρ')(hs:S b)(hb:b<w.heap.size):b<w'.heap.size:=by
 have G:=u.blk b hs hb;rcases Nat.lt_or_ge b w'.heap.size with h1|h1
 ·exact h1
 ·rw[Array.getElem?_eq_none h1,Array.getElem?_eq_getElem hb]at G;cases G
theorem Up.cell(u:Up S S' w w' ρ ρ')(hs:S b)(hb:b<w.heap.size):w'.cell? ⟨b,i,none⟩=w.cell? ⟨b,i,none⟩:=
 World.cell?_of_block (a:=⟨b,i,none⟩) (u.blk b hs hb)
end
theorem Up.z(u:Up S S' w w' ρ ρ'):Up S S' w w' ρ0 ρ0:=⟨u.s,u.blk,λ_ _ h=>h⟩
mutual
theorem VRel.up{ρ ρ':Nat->Option Value}(u:Up S S' w w' ρ ρ'):∀{v:V} {x:Value},VRel S w ρ v x->VRel S' w' ρ' v x
 |.int _ _,x,h=>by simp only[VRel]at h⊢;exact h
 |.bool _,x,h=>by simp only[VRel]at h⊢;exact h
 |.str _,x,h=>by simp only[VRel]at h⊢;exact h
 |.nilp,x,h=>by simp only[VRel]at h⊢;exact h
 |.nils,x,h=>by simp only[VRel]at h⊢;exact h
 |.raw _,x,h=>by simp only[VRel]at h⊢;exact h
 |.ptr id o,x,h=>by simp only[VRel]at h⊢;obtain⟨b,h1,h2⟩:=h;exact⟨b,u.r _ _ h1,h2⟩
 |.el id sz i o,x,h=>by simp only[VRel]at h⊢;obtain⟨b,n,c,h1,h2⟩:=h;exact⟨b,n,c,u.r _ _ h1,h2⟩
 |.sl id,x,h=>by simp only[VRel]at h⊢;exact⟨u.r _ _ h.1,h.2⟩
 |.box cs o,x,h=>by
  simp only[VRel]at h⊢;obtain⟨b,off,xs,h1,h2,h3,h4,h5⟩:=h;exact⟨b,off,xs,h1,u.s b h2,u.lt h2 h3,LRel.up u.z h4,λj hj=>(u.cell h2 h3).trans<|h5 j hj⟩
 |.row sz els,x,h=>by simp only[VRel]at h⊢;obtain⟨A,c,xs,h1,h2,h3,h4,h5⟩:=h;exact⟨A,c,xs,h1,h2,h3,CRel.up u.z h4,h5.keep u.s u.blk⟩
 |.agg cs,x,h=>by simp only[VRel]at h⊢;obtain⟨xs,h1,h2⟩:=h;exact⟨xs,h1,LRel.up u h2⟩
 |.tup cs,x,h=>by simp only[VRel]at h⊢;obtain⟨xs,h1,h2⟩:=h;exact⟨xs,h1,LRel.up u h2⟩
 |.clo fid cs,x,h=>by simp only[VRel]at h⊢;obtain⟨xs,h1,h2⟩:=h;exact⟨xs,h1,LRel.up u h2⟩
 |.lk els,x,h=>by simp only[VRel]at h⊢;exact KRel.up u h
 |.np id,x,h=>by simp only[VRel]at h⊢;exact h.imp_right λ⟨b,h1,h2⟩=>⟨b,u.r _ _ h1,h2⟩
theorem KRel.up{ρ ρ':Nat->Option Value}(u:Up S S' w w' ρ ρ'):∀{els:List<|List V} {x:Value},KRel S w els x->KRel S' w' els x
 |[],x,h=>by simp only[KRel]at h⊢;exact h
 |cs::r,x,h=>by
  simp only[KRel]at h⊢;obtain⟨b,off,xs,y,h1,h2,h3,h4,h5,h6,h7⟩:=h;exact⟨b,off,xs,y,h1,u.s b h2,u.lt h2 h3,LRel.up u.z h4,KRel.up u h5,h6,λj hj=>(u.cell h2 h3).trans<|h7 j hj⟩
theorem LRel.up{ρ ρ':Nat->Option Value}(u:Up S S' w w' ρ ρ'):∀{v:List V} {x:List Value},LRel S w ρ v x->LRel S' w' ρ' v x
 |[],x,h=>by simp only[LRel]at h⊢;exact h
 |v::r,x,h=>by simp only[LRel]at h⊢;obtain⟨y,ys,h1,h2,h3⟩:=h;exact⟨y,ys,h1,VRel.up u h2,LRel.up u h3⟩
theorem CRel.up{ρ ρ':Nat->Option Value}(u:Up S S' w w' ρ ρ'){sz:Nat}:∀{v:List V} {x:List Value},CRel S w ρ sz v x->CRel S' w' ρ' sz v x
 |[],x,h=>by simp only[CRel]at h⊢;exact h
 |v::r,x,h=>by simp only[CRel]at h⊢;obtain⟨y,ys,h1,h2,h3,h4⟩:=h;exact⟨y,ys,h1,h2,VRel.up u h3,CRel.up u h4⟩
end
end
section
variable(S:Nat->Prop)(w:World)(ρ:Nat->Option Value)
def own(id:Nat):Ob->Nat->Prop
 |.free,_=>False
 |.gone,_=>False
 |.var _ _,b=>ρ id=some (.pointer<|some ⟨b,0,none⟩)
 |.row _ _ _,b=>∃v,ρ id=some v∧v.ownBlock=some b
 |.ext bs _,b=>b∈bs
 |.mp _ _ _ _,b=>ρ id=some (.map<|some b)
def kx(id:Nat):Ob->Prop
 |.free=>ρ id=none
 |.gone=>True
 |.var t cs=>∃b xs,ρ id=some (.pointer<|some ⟨b,0,none⟩)∧Blk w b t xs∧LRel S w ρ cs xs
 |.row e sz els=>∃v xs,ρ id=some v∧w.ownsRow 0 e sz v els.length xs∧CRel S w ρ sz els xs
 |.ext bs Φ=>Φ w∧(∀b,b∈bs->b<w.heap.size)∧∀w',(∀b,b∈bs->w'.heap[b]?=w.heap[b]?)->Φ w'
 |.mp _ _ ks vs=>∃b es clock,ρ id=some (.map<|some b)∧w.heap[b]?=some (.map es clock)∧LRel S w ρ0 ks (es.toList.map (·.key))∧LRel S w ρ0 vs (es.toList.map (·.val))
def ze:List (Nat×List V):=[(0,[.int .i64 5,.int .i64 0]),(1,[.int .i64 6,.int .i64 0]),(2,[.int .i64 7,.int .i64 0])]
structure SOk:Prop where
 lt:∀b,S b->b<w.heap.size
 gl:∀p∈ze,VRel S w ρ0 (.box p.2 0) (.pointer (some ⟨p.1,0,none⟩))
structure HRel (h:Nat->Ob):Prop where
 ob:∀id,kx S w ρ id (h id)
 sep:∀id b,own ρ id (h id) b->¬S b
 dis:∀i j b,own ρ i (h i) b->own ρ j (h j) b->i=j
 slt:SOk S w
end
instance slt_fun {S:Nat->Prop} {w:World}:CoeFun (SOk S w) (λ_=>∀b,S b->b<w.heap.size):=⟨SOk.lt⟩
variable{S:Nat->Prop}{w':World}
theorem SOk.up{S':Nat->Prop}{w:World}(h:SOk S w)(u:Up S S' w w' ρ ρ')(G:∀b,S' b->b<w'.heap.size):SOk S' w':=⟨G,λp J=>VRel.up u.z<|h.gl p J⟩
variable{base sz:Nat}
section
variable{S S':Nat->Prop}{w w':World}{ρ ρ':Nat->Option Value}{h h':Nat->Ob}
theorem Ek{e:Nat}{v:Value}(G:w.ownsRow base e sz v n xs)(J:∀b,v.ownBlock=some b->w'.heap[b]?=w.heap[b]?):w'.ownsRow base e sz v n xs:=by
 refine⟨G.1,?_⟩;rcases G.2 with O|⟨g,cap,cur,rfl,hb,Z,h4⟩
 ·exact .inl O
 ·exact .inr ⟨g,cap,cur,I,hb,(J g I).trans Z,h4⟩
theorem gv{id:Nat}{o:Ob}(J:kx S w ρ id o)(hb:own ρ id o b):b<w.heap.size:=by
 cases o with
 |free=>exact hb.elim
 |gone=>exact hb.elim
 |var t cs=>
  obtain⟨O,xs,h1,h2,_⟩:=J;simp only[own]at hb;rw[h1]at hb;simp only[aad,Value.pointer.injEq,Addr.mk.injEq,and_true]at hb;subst hb;exact h2.lt
 |row e sz els=>
  obtain⟨v,xs,h1,h2,_⟩:=J;obtain⟨v',G,Z⟩:=hb;rw[h1]at G;simp only[aad]at G;subst G;exact(h2.lt b Z).2
 |ext bs Φ=>exact J.2.1 b hb
 |mp kt et ks vs=>
  obtain⟨O,es,ck,h1,h2,_⟩:=J;simp only[own]at hb;rw[h1]at hb;simp only[aad,Value.map.injEq]at hb;subst hb;rcases Nat.lt_or_ge O w.heap.size with G|G
  ·exact G
  ·rw[Array.getElem?_eq_none G]at h2;cases h2
theorem kx.up{id:Nat}{o:Ob}(u:Up S S' w w' ρ ρ')(hf:o=.free->ρ' id=none)(ho:kx S w ρ id o)(J:∀b,own ρ id o b->w'.heap[b]?=w.heap[b]?):kx S' w' ρ' id o:=by
 cases o with
 |free=>exact hf rfl
 |gone=>trivial
 |var t cs=>
  obtain⟨O,xs,h1,h2,G⟩:=ho;exact⟨O,xs,u.r _ _ h1,(J O h1).trans h2,LRel.up u G⟩
 |row e sz els=>
  obtain⟨v,xs,h1,h2,G⟩:=ho;exact⟨v,xs,u.r _ _ h1,Ek h2 λb hb=>J b ⟨v,h1,hb⟩,CRel.up u G⟩
 |mp kt et ks vs=>
  obtain⟨O,es,ck,h1,h2,G,Z⟩:=ho;exact⟨O,es,ck,u.r _ _ h1,(J O h1).trans h2,LRel.up u.z G,LRel.up u.z Z⟩
 |ext bs Φ=>
  obtain⟨h1,h2,G⟩:=ho;refine⟨G _ J,λb hb=>?_,λw'' h'=>G w'' λb hb=>(h' b hb).trans<|J b hb⟩;have hh:=J b hb;rcases Nat.lt_or_ge b w'.heap.size with Z|Z
  ·exact Z
  ·rw[Array.getElem?_eq_none Z,Array.getElem?_eq_getElem<|h2 b hb]at hh;cases hh
theorem LR{id:Nat}{o:Ob}(hr:∀i x,ρ i=some x->ρ' i=some x)(G:kx S w ρ id o)(hb:own ρ' id o b):own ρ id o b:=by
 cases o with
 |free=>exact hb
 |gone=>exact hb
 |var t cs=>
  obtain⟨Z,xs,h1,h2,O⟩:=G;have :=hr _ _ h1;simp only[own]at hb⊢;rw[this]at hb;rw[h1];exact hb
 |row e sz els=>
  obtain⟨v,xs,h1,h2,O⟩:=G;obtain⟨v',J,h5⟩:=hb;rw[hr _ _ h1]at J;simp only[aad]at J;subst J;exact⟨v,h1,h5⟩
 |ext bs Φ=>exact hb
 |mp kt et ks vs=>
  obtain⟨Z,es,ck,h1,h2,O⟩:=G;have :=hr _ _ h1;simp only[own]at hb⊢;rw[this]at hb;rw[h1];exact hb
theorem LRel.length:∀{vs:List V} {xs:List Value},LRel S w ρ vs xs->xs.length=vs.length
 |[],xs,h=>by simp only[LRel]at h;simp[h]
 |v::r,xs,h=>by simp only[LRel]at h;obtain⟨x,ys,rfl,_,G⟩:=h;simp[LRel.length G]
theorem LRel.get:∀{vs:List V} {xs:List Value} {i:Nat} {v:V},LRel S w ρ vs xs->vs[i]?=some v->∃x,xs[i]?=some x∧VRel S w ρ v x
 |[],xs,i,v,h,hi=>by simp at hi
 |u::r,xs,0,v,h,hi=>by simp only[LRel]at h;obtain⟨x,ys,rfl,h2,G⟩:=h;simp only[List.getElem?_cons_zero,aad]at hi;subst hi;exact⟨x,by simp,h2⟩
 |u::r,xs,i+1,v,h,hi=>by simp only[LRel]at h;obtain⟨x,ys,rfl,h2,G⟩:=h;simp only[List.getElem?_cons_succ]at hi⊢;exact LRel.get G hi
theorem LRel.set:∀{vs:List V} {xs:List Value} {i:Nat} {v:V} {x:Value},LRel S w ρ vs xs->VRel S w ρ v x->LRel S w ρ (vs.set i v) (xs.set i x)
 |[],xs,i,v,x,h,hx=>by simp only[LRel]at h;subst h;simp[LRel]
 |u::r,xs,0,v,x,h,hx=>by simp only[LRel]at h;obtain⟨y,ys,rfl,h2,G⟩:=h;exact⟨x,ys,by simp,hx,G⟩
 |u::r,xs,i+1,v,x,h,hx=>by simp only[LRel]at h;obtain⟨y,ys,rfl,h2,G⟩:=h;exact⟨y,ys.set i x,by simp,h2,LRel.set G hx⟩
theorem LRel.append:∀{vs us:List V} {xs ys:List Value},LRel S w ρ vs xs->LRel S w ρ us ys->LRel S w ρ (vs++us) (xs++ys)
 |[],us,xs,ys,h,G=>by simp only[LRel]at h;subst h;simpa using G
 |v::r,us,xs,ys,h,G=>by simp only[LRel]at h;obtain⟨y,zs,rfl,h2,J⟩:=h;exact⟨y,zs++ys,by simp,h2,LRel.append J G⟩
theorem LRel.drop:∀{vs:List V} {xs:List Value} (n:Nat),LRel S w ρ vs xs->LRel S w ρ (vs.drop n) (xs.drop n)
 |vs,xs,0,h=>by simpa using h
 |[],xs,n+1,h=>by simp only[LRel]at h;subst h;simp[LRel]
 |v::r,xs,n+1,h=>by simp only[LRel]at h;obtain⟨y,zs,rfl,h2,G⟩:=h;simpa using LRel.drop n G
theorem LRel.take:∀{vs:List V} {xs:List Value} (n:Nat),LRel S w ρ vs xs->LRel S w ρ (vs.take n) (xs.take n)
 |vs,xs,0,h=>by simp[LRel]
 |[],xs,n+1,h=>by simp only[LRel]at h;subst h;simp[LRel]
 |v::r,xs,n+1,h=>by simp only[LRel]at h;obtain⟨y,zs,rfl,h2,G⟩:=h;exact⟨y,zs.take n,by simp,h2,LRel.take n G⟩
theorem CRel.length{sz:Nat}:∀{vs:List V} {xs:List Value},CRel S w ρ sz vs xs->xs.length=vs.length*sz
 |[],xs,h=>by simp only[CRel]at h;simp[h]
 |v::r,xs,h=>by simp only[CRel]at h;obtain⟨x,ys,rfl,⟨h2,_⟩,J,G⟩:=h;have :=CRel.length G;simp[this,h2,Nat.add_mul];omega
theorem CRel.get{sz:Nat}:∀{vs:List V} {xs:List Value} {i:Nat} {v:V},CRel S w ρ sz vs xs->vs[i]?=some v->∃x,VRel S w ρ v x∧x.cells.size=sz∧∀j,j<sz->xs[i*sz+j]?=x.cells.toList[j]?
 |[],xs,i,v,h,hi=>by simp at hi
 |u::r,xs,0,v,h,hi=>by simp only[CRel]at h;obtain⟨x,ys,rfl,⟨h2,_⟩,G,J⟩:=h;simp only[List.getElem?_cons_zero,aad]at hi;subst hi;exact⟨x,G,h2,λj O=>by rw[List.getElem?_append_left (by simp;omega)];simp⟩
 |u::r,xs,i+1,v,h,hi=>by
  simp only[CRel]at h;obtain⟨x,ys,rfl,⟨h2,_⟩,G,J⟩:=h;simp only[List.getElem?_cons_succ]at hi;obtain⟨y,Z,g2,g3⟩:=CRel.get J hi;refine⟨y,Z,g2,λj O=>?_⟩;rw[List.getElem?_append_right (by simp[h2,Nat.add_mul];omega),<-g3 j O]
  congr 1
  simp[h2,Nat.add_mul];omega
theorem CRel.append{sz:Nat}:∀{vs us:List V} {xs ys:List Value},CRel S w ρ sz vs xs->CRel S w ρ sz us ys->CRel S w ρ sz (vs++us) (xs++ys)
 |[],us,xs,ys,h,G=>by simp only[CRel]at h;subst h;simpa using G
 |v::r,us,xs,ys,h,G=>by simp only[CRel]at h;obtain⟨y,zs,rfl,h2,J,O⟩:=h;exact⟨y,zs++ys,by simp,h2,J,CRel.append O G⟩
theorem CRel.drop{sz:Nat}:∀{vs:List V} {xs:List Value} (n:Nat),CRel S w ρ sz vs xs->CRel S w ρ sz (vs.drop n) (xs.drop<|n*sz)
 |vs,xs,0,h=>by simpa using h
 |[],xs,n+1,h=>by simp only[CRel]at h;subst h;simp[CRel]
 | v::r,xs,n+1,h=>by
  simp only[CRel]at h;obtain⟨y,zs,rfl,⟨h2,_⟩,h3,h4⟩:=h;have :=CRel.drop n h4;have e:(y.cells.toList++zs).drop ((n+1)*sz)=zs.drop (n*sz):=by
   rw[List.drop_append,List.drop_of_length_le<|by simp[h2,Nat.add_mul]];simp[h2,Nat.add_mul]
  rw[e];simpa using this
theorem CRel.take{sz:Nat}:∀{vs:List V} {xs:List Value} (n:Nat),CRel S w ρ sz vs xs->CRel S w ρ sz (vs.take n) (xs.take<|n*sz)
 |vs,xs,0,h=>by simp[CRel]
 |[],xs,n+1,h=>by simp only[CRel]at h;subst h;simp[CRel]
 | v::r,xs,n+1,h=>by
  simp only[CRel]at h;obtain⟨y,zs,rfl,⟨h2,h1⟩,h3,h4⟩:=h;have :=CRel.take n h4;have e:(y.cells.toList++zs).take ((n+1)*sz)=y.cells.toList++zs.take (n*sz):=by
   rw[List.take_append,List.take_of_length_le<|by simp[h2,Nat.add_mul]]
   congr 2
   simp[h2,Nat.add_mul]
  rw[e];exact⟨y,_,I,⟨h2,h1⟩,h3,this⟩
theorem CRel.ones{sz:Nat}:∀{vs:List V} {xs:List Value},CRel S w ρ sz vs xs->∀u∈xs,u.oneCell'=true
 |[],xs,h=>by simp only[CRel]at h;subst h;simp
 |v::r,xs,h=>by
  simp only[CRel]at h;obtain⟨x,ys,rfl,⟨h2,h1⟩,O,G⟩:=h;intro u J;rcases List.mem_append.1 J with h|h
  ·exact List.all_eq_true.1 h1 u h
  ·exact CRel.ones G u h
def V.one:V->Bool
 |.agg _=>false
 |.tup _=>false
 |_=>true
theorem VRel.one{v:V}{x:Value}(hv:VRel S w ρ v x)(h1:v.one=true):x.oneCell'=true:=by
 cases v with
 |int _ _=>simp only[VRel]at hv;subst hv;rfl
 |bool _=>simp only[VRel]at hv;subst hv;rfl
 |str _=>simp only[VRel]at hv;subst hv;rfl
 |nilp=>simp only[VRel]at hv;subst hv;rfl
 |nils=>simp only[VRel]at hv;subst hv;rfl
 |np id=>simp only[VRel]at hv;rcases hv with rfl|⟨b,_,rfl⟩<;>rfl
 |raw y=>simp only[VRel]at hv;obtain⟨rfl,h⟩:=hv;exact h
 |ptr id o=>simp only[VRel]at hv;obtain⟨b,_,rfl⟩:=hv;rfl
 |el id sz i o=>simp only[VRel]at hv;obtain⟨b,n,c,_,rfl⟩:=hv;rfl
 |sl id=>simp only[VRel]at hv;exact hv.2
 |box cs o=>simp only[VRel]at hv;obtain⟨b,off,xs,rfl,_⟩:=hv;rfl
 |row sz els=>simp only[VRel]at hv;obtain⟨A,c,xs,rfl,_⟩:=hv;rfl
 |agg cs=>cases h1
 |tup cs=>cases h1
 |clo fid cs=>simp only[VRel]at hv;obtain⟨xs,rfl,_⟩:=hv;rfl
 |lk els=>
  simp only[VRel]at hv;cases els with
  |nil=>simp only[KRel]at hv;subst hv;rfl
  |cons c r=>simp only[KRel]at hv;obtain⟨b,off,xs,y,rfl,_⟩:=hv;rfl
theorem up0:Up S S w w ρ0 ρ:=⟨λ_ h=>h,λ_ _ _=>rfl,λ_ _ h=>by cases h⟩
def V.cells:V->List V
 |.agg cs=>cs
 |v=>[v]
theorem VRel.cells{v:V}{x:Value}(hv:VRel S w ρ v x):LRel S w ρ v.cells x.cells.toList:=by
 have one:∀{u:V},u.cells=[u]->VRel S w ρ u x->x.cells=#[x]->LRel S w ρ u.cells x.cells.toList:=λh1 h2 G=>by rw[h1,G];exact⟨x,[],rfl,h2,rfl⟩
 cases v with
 |agg cs=>
  simp only[VRel]at hv;obtain⟨xs,rfl,h⟩:=hv;exact h
 |tup cs=>
  refine one I hv ?_;simp only[VRel]at hv;obtain⟨xs,rfl,h⟩:=hv;rfl
 |_=>exact one rfl hv<|KA<|hv.one rfl
end
mutual
def V.pure:V->Bool
 |.ptr _ _=>false
 |.el _ _ _ _=>false
 |.sl _=>false
 |.np _=>false
 |.agg cs=>pureL cs
 |.tup cs=>pureL cs
 |.clo _ cs=>pureL cs
 |.int _ _=>true
 |.bool _=>true
 |.str _=>true
 |.nilp=>true
 |.nils=>true
 |.raw _=>true
 |.box _ _=>true
 |.row _ _=>true
 |.lk _=>true
def pureL:List V->Bool
 |[]=>true
 |v::r=>match v.pure with
  |true=>pureL r
  |false=>false
end
section
variable{S:Nat->Prop}{w:World}{ρ ρ':Nat->Option Value}
theorem BB{v:V}{r:List V}(h:pureL (v::r)=true):v.pure=true∧pureL r=true:=by
 simp only[pureL]at h;split at h
 ·exact⟨‹_›,h⟩
 ·cases h
mutual
theorem VRel.pure:∀{v:V} {x:Value},v.pure=true->VRel S w ρ v x->VRel S w ρ' v x
 |.int _ _,x,_,h=>by simp only[VRel]at h⊢;exact h
 |.bool _,x,_,h=>by simp only[VRel]at h⊢;exact h
 |.str _,x,_,h=>by simp only[VRel]at h⊢;exact h
 |.nilp,x,_,h=>by simp only[VRel]at h⊢;exact h
 |.nils,x,_,h=>by simp only[VRel]at h⊢;exact h
 |.raw _,x,_,h=>by simp only[VRel]at h⊢;exact h
 |.ptr id o,x,hp,h=>by cases hp
 |.el id sz i o,x,hp,h=>by cases hp
 |.sl id,x,hp,h=>by cases hp
 |.np id,x,hp,h=>by cases hp
 |.box cs o,x,_,h=>by simp only[VRel]at h⊢;exact h
 |.row sz els,x,_,h=>by simp only[VRel]at h⊢;exact h
 |.agg cs,x,hp,h=>by simp only[VRel]at h⊢;obtain⟨xs,h1,h2⟩:=h;exact⟨xs,h1,LRel.pure (by simpa only[V.pure]using hp) h2⟩
 |.tup cs,x,hp,h=>by simp only[VRel]at h⊢;obtain⟨xs,h1,h2⟩:=h;exact⟨xs,h1,LRel.pure (by simpa only[V.pure]using hp) h2⟩
 |.lk _,x,_,h=>by simp only[VRel]at h⊢;exact h
 |.clo fid cs,x,hp,h=>by simp only[VRel]at h⊢;obtain⟨xs,h1,h2⟩:=h;exact⟨xs,h1,LRel.pure (by simpa only[V.pure]using hp) h2⟩
theorem LRel.pure:∀{v:List V} {x:List Value},pureL v=true->LRel S w ρ v x->LRel S w ρ' v x
 |[],x,_,h=>by simp only[LRel]at h⊢;exact h
 |v::r,x,hp,h=>by simp only[LRel]at h⊢;obtain⟨y,ys,h1,h2,h3⟩:=h;have hp':=BB hp;exact⟨y,ys,h1,VRel.pure hp'.1 h2,LRel.pure hp'.2 h3⟩
end
theorem CRel.pure{sz:Nat}:∀{v:List V} {x:List Value},pureL v=true->CRel S w ρ sz v x->CRel S w ρ' sz v x
 |[],x,_,h=>by simp only[CRel]at h⊢;exact h
 |v::r,x,J,h=>by simp only[CRel]at h⊢;obtain⟨y,ys,h1,h2,O,Z⟩:=h;have G:=BB J;exact⟨y,ys,h1,h2,VRel.pure G.1 O,CRel.pure G.2 Z⟩
end
theorem Dn(l:YB)(a b:Nat):(ByteArray.mk l.toArray).extract a b=⟨((l.drop a).take<|b-a).toArray⟩:=Lx.AA l a b
def Agree(S:Nat->Prop)(w w':World):Prop:=∀b,S b->w'.heap[b]?=w.heap[b]?
abbrev fA(a:Act):Nat->Option Value:=λi=>a.tmps[i]?
def Opd(S:Nat->Prop)(w:World)(ρ:Nat->Option Value)(a:Act)(x:Operand)(v:V):Prop:=∃y,aR (fA a) x=some y∧VRel S w ρ v y
def Yld(P:Program)(S:Nat->Prop)(w:World)(ρ:Nat->Option Value)(a:Act)(ty:TypeId)(op:Op)(v:V):Prop:=∃x,VRel S w ρ v x∧∀w',Agree S w w'->Runs P a ty op w' (.value x) w'
variable{x:Operand}
variable{cs:List V}
variable{t:TypeId}
variable{k:Nat}
variable{j:Nat}
variable{f:Nat->Option Value}
variable{u:TypeId}
variable{e:TypeId}
variable{els:List V}
variable{l:YB}
variable{ps:List (Nat×Operand)}
section
variable{P:Program}{S:Nat->Prop}{w:World}{ρ:Nat->Option Value}{a:Act}{n:Nat}{ty:TypeId}
theorem PR{v:V}(fr:Fr a n<|fA a)(hx:Opd S w ρ a x v):Yld P S w ρ a ty (.move x) v:=by obtain⟨y,h1,h2⟩:=hx;exact⟨y,h2,λw' _=>Pj fr h1⟩
theorem NC{v:V}(fr:Fr a n<|fA a)(hx:Opd S w ρ a x v):Yld P S w ρ a ty (.assign x) v:=by obtain⟨y,h1,h2⟩:=hx;exact⟨y,h2,λw' _=>LU fr h1⟩
theorem Pm{c y:Operand}{v:V}(fr:Fr a n<|fA a)(G:Opd S w ρ a c<|.bool true)(hx:Opd S w ρ a x v):Yld P S w ρ a ty (.pick c x y) v:=by obtain⟨b,h1,h2⟩:=G;obtain⟨z,J,O⟩:=hx;simp only[VRel]at h2;subst h2;exact⟨z,O,λw' _=>ME fr h1 J⟩
theorem OL{c y:Operand}{v:V}(fr:Fr a n<|fA a)(G:Opd S w ρ a c<|.bool false)(hx:Opd S w ρ a y v):Yld P S w ρ a ty (.pick c x y) v:=by obtain⟨b,h1,h2⟩:=G;obtain⟨z,J,O⟩:=hx;simp only[VRel]at h2;subst h2;exact⟨z,O,λw' _=>Nt fr h1 J⟩
theorem QE{id o:Nat}(fr:Fr a n<|fA a)(hx:Opd S w ρ a x<|.ptr id o):Yld P S w ρ a ty (.nilCheck x) (.ptr id o):=by obtain⟨y,h1,h2⟩:=hx;refine⟨y,h2,λw' _=>?_⟩;simp only[VRel]at h2;obtain⟨b,_,rfl⟩:=h2;exact FN fr h1
theorem Rl{id o:Nat}(fr:Fr a n<|fA a)(hx:Opd S w ρ a x<|.el id sz i o):Yld P S w ρ a ty (.nilCheck x) (.el id sz i o):=by obtain⟨y,h1,h2⟩:=hx;refine⟨y,h2,λw' _=>?_⟩;simp only[VRel]at h2;obtain⟨b,_,_,_,rfl⟩:=h2;exact FN fr h1
theorem Qc{o:Nat}(fr:Fr a n<|fA a)(hx:Opd S w ρ a x<|.box cs o):Yld P S w ρ a ty (.nilCheck x) (.box cs o):=by obtain⟨y,h1,h2⟩:=hx;refine⟨y,h2,λw' _=>?_⟩;simp only[VRel]at h2;obtain⟨b,off,xs,rfl,_⟩:=h2;exact FN fr h1
theorem Sz{vs:List V}{v:V}(fr:Fr a n<|fA a)(hx:Opd S w ρ a x<|.tup vs)(hi:vs[i]?=some v):Yld P S w ρ a ty (.extract x i) v:=by
 obtain⟨y,h1,h2⟩:=hx;simp only[VRel]at h2;obtain⟨xs,rfl,G⟩:=h2;obtain⟨z,J,O⟩:=G.get hi;exact⟨z,O,λw' _=>IT fr h1<|by simpa using J⟩
theorem Se{b:Bool}(fr:Fr a n<|fA a)(hx:Opd S w ρ a x<|.bool b):Yld P S w ρ a ty (.unOp .not t x) (.bool !b):=by obtain⟨y,h1,h2⟩:=hx;simp only[VRel]at h2;subst h2;exact⟨_,by simp only[VRel],λw' _=>RT fr h1 rfl⟩
theorem SK{id o:Nat}(fr:Fr a n<|fA a)(hx:Opd S w ρ a x<|.ptr id o)(G:qh P t i=some k):Yld P S w ρ a ty (.fieldAddr t x i) (.ptr id<|o+k):=by obtain⟨y,h1,h2⟩:=hx;simp only[VRel]at h2;obtain⟨b,J,rfl⟩:=h2;exact⟨_,by simp only[VRel];exact⟨b,J,rfl⟩,λw' _=>Ik fr h1 G rfl⟩
theorem SN{id o:Nat}(fr:Fr a n<|fA a)(hx:Opd S w ρ a x<|.el id sz j o)(G:qh P t i=some k):Yld P S w ρ a ty (.fieldAddr t x i) (.el id sz j<|o+k):=by
 obtain⟨y,h1,h2⟩:=hx;simp only[VRel]at h2;obtain⟨b,m,c,J,rfl⟩:=h2;exact⟨_,by simp only[VRel];exact⟨b,m,c,J,rfl⟩,λw' _=>Ik fr h1 G<|aav _ _ _⟩
theorem SE{o:Nat}(fr:Fr a n<|fA a)(hx:Opd S w ρ a x<|.box cs o)(G:qh P t i=some k):Yld P S w ρ a ty (.fieldAddr t x i) (.box cs<|o+k):=by
 obtain⟨y,h1,h2⟩:=hx;simp only[VRel]at h2;obtain⟨b,off,xs,rfl,J⟩:=h2;exact⟨_,by simp only[VRel];exact⟨b,off,xs,rfl,J⟩,λw' _=>Ik fr h1 G<|aav _ _ _⟩
theorem Tw{v:V}(fr:Fr a n<|fA a)(hx:Opd S w ρ a x<|.agg cs)(G:tY P t i=some k)(hv:cs[k]?=some v):Yld P S w ρ a ty (.field t x i) v:=by obtain⟨y,h1,h2⟩:=hx;simp only[VRel]at h2;obtain⟨xs,rfl,J⟩:=h2;obtain⟨z,O,Z⟩:=J.get hv;exact⟨z,Z,λw' _=>Sd fr h1 G O⟩
def ua(P:Program)(t:TypeId)(i:Nat):Option (Nat×Nat):=match P.underlying t with
 |some (.struct fs)=>match fs[i]? with
  |some fl=>match mR P fl.type with
   |some m=>some (fl.offset,m)
   |none=>none
  |none=>none
 |_=>none
theorem Rp{cs:List Value}(h:Fr a n f)(hx:aR f x=some (.agg cs.toArray))(G:ua P t i=some (k,m)):Runs P a ty (.field t x i) w (.value<|.agg ((cs.drop k).take m).toArray) w:=by
 refine EW h hx λw=>?_;unfold ua at G;split at G
 ·rename_i fs J;split at G
  ·rename_i fl O;split at G
   ·rename_i m' hs;simp only[aad,Prod.mk.injEq]at G;obtain⟨rfl,rfl⟩:=G;have Z:(isAgg fl.type).run P w=.ok true w∧(sizeOf fl.type).run P w=.ok m' w:=by
     unfold mR at hs;cases J:P.underlying fl.type with
     |none=>rw[J]at hs;cases hs
     |some d=>
      rw[J]at hs;cases d<;>first|cases hs|(obtain⟨i,hi,hs⟩:=Option.map_eq_some_iff.1 hs;simp[isAgg,run_underlying J,sizeOf,typeInfo,hi,hs])
    simp[Instr.field,run_underlying J,O,part,Z.1,Z.2,asAgg]
   ·cases G
  ·cases G
 ·cases G
theorem Sm(fr:Fr a n<|fA a)(hx:Opd S w ρ a x<|.agg cs)(G:ua P t i=some (k,m)):Yld P S w ρ a ty (.field t x i) (.agg<|(cs.drop k).take m):=by obtain⟨y,h1,h2⟩:=hx;simp only[VRel]at h2;obtain⟨xs,rfl,J⟩:=h2;exact⟨_,by simp only[VRel];exact⟨_,rfl,(J.drop k).take m⟩,λw' _=>Rp fr h1 G⟩
section
variable{t u:TypeId}{x y:Operand}{k:IntKind}{m l:Int}
theorem bj(h:Opd S w ρ a x<|.int k m):aR (fA a) x=some (.int k m):=by obtain⟨y,h1,h2⟩:=h;simp only[VRel]at h2;subst h2;exact h1
theorem rO{b:Bool}(h:Opd S w ρ a x<|.bool b):aR (fA a) x=some (.bool b):=by obtain⟨y,h1,h2⟩:=h;simp only[VRel]at h2;subst h2;exact h1
theorem kR{s:YB}(h:Opd S w ρ a x<|.str s):aR (fA a) x=some (.string ⟨s.toArray⟩):=by obtain⟨y,h1,h2⟩:=h;simp only[VRel]at h2;subst h2;exact h1
variable(fr:Fr a n (fA a))(hx:Opd S w ρ a x (.int k m))(hy:Opd S w ρ a y (.int k l))
include fr hx hy
theorem SS:Yld P S w ρ a ty (.binOp .eql t x y u) (.bool<|m==l):=⟨_,by simp only[VRel],λw' _=>RB fr (bj hx) (bj hy) rfl⟩
theorem Sj:Yld P S w ρ a ty (.binOp .neq t x y u) (.bool<|m !=l):=⟨_,by simp only[VRel],λw' _=>Rh fr (bj hx) (bj hy) rfl⟩
theorem Sw:Yld P S w ρ a ty (.binOp .lss t x y u) (.bool<|decide<|m<l):=⟨_,by simp only[VRel],λw' _=>QJ fr (bj hx) (bj hy) rfl⟩
theorem SR:Yld P S w ρ a ty (.binOp .leq t x y u) (.bool<|decide<|m<=l):=⟨_,by simp only[VRel],λw' _=>PO fr (bj hx) (bj hy) rfl⟩
theorem Sf:Yld P S w ρ a ty (.binOp .gtr t x y u) (.bool<|decide<|l<m):=⟨_,by simp only[VRel],λw' _=>RX fr (bj hx) (bj hy) rfl⟩
theorem SO:Yld P S w ρ a ty (.binOp .geq t x y u) (.bool<|decide<|l<=m):=⟨_,by simp only[VRel],λw' _=>Re fr (bj hx) (bj hy) rfl⟩
end
section
variable{t u:TypeId}{x y:Operand}{m l:Int}(fr:Fr a n (fA a))(hx:Opd S w ρ a x (.int .i64 m))(hy:Opd S w ρ a y (.int .i64 l))
include fr hx hy
theorem PN:Yld P S w ρ a ty (.call {callee:=.builtin .max,args:=#[x,y],argTypes:=#[t,u]}) (.int .i64<|max m l):=⟨_,by simp only[VRel],λw' _=>OX fr (bj hx)<|bj hy⟩
end
theorem Sy{y:Operand}{m l:Bool}(fr:Fr a n<|fA a)(ht:P.underlying t=some .bool)(hx:Opd S w ρ a x<|.bool m)(hy:Opd S w ρ a y<|.bool l):Yld P S w ρ a ty (.binOp .eql t x y u) (.bool<|m==l):=
 ⟨_,by simp only[VRel],λw' _=>Qh ht fr (rO hx) (rO hy) rfl⟩
theorem PZ{y:Operand}{m l c:Bool}(ht:P.underlying t=some .bool)(h:Fr a n f)(hx:aR f x=some (.bool m))(hy:aR f y=some (.bool l))(G:(m !=l)=c):Runs P a ty (.binOp .neq t x y u) w (.value<|.bool c) w:=λ_ _ _ _=>by subst G;simp only[execOp,h.eval hx,h.eval hy];simp[go_sem,eqGuard,ht,bne]
theorem SH{y:Operand}{m l:Bool}(fr:Fr a n<|fA a)(ht:P.underlying t=some .bool)(hx:Opd S w ρ a x<|.bool m)(hy:Opd S w ρ a y<|.bool l):Yld P S w ρ a ty (.binOp .neq t x y u) (.bool<|m !=l):=
 ⟨_,by simp only[VRel],λw' _=>PZ ht fr (rO hx) (rO hy) rfl⟩
section
variable{t u:TypeId}{x y:Operand}{m l:YB}(fr:Fr a n (fA a))(hx:Opd S w ρ a x (.str m))(hy:Opd S w ρ a y (.str l))
include fr hx hy
theorem SD:Yld P S w ρ a ty (.binOp .eql t x y u) (.bool<|m==l):=⟨_,by simp only[VRel],λw' _=>QF fr (kR hx) (kR hy) rfl⟩
theorem SJ:Yld P S w ρ a ty (.binOp .neq t x y u) (.bool<|m !=l):=⟨_,by simp only[VRel],λw' _=>RY fr (kR hx) (kR hy) rfl⟩
end
theorem LS{m:YB}(fr:Fr a n<|fA a)(ht:P.underlying t=some .string)(hx:Opd S w ρ a x<|.str m):Yld P S w ρ a ty (.call {callee:=.builtin .len,args:=#[x],argTypes:=#[t]}) (.int .i64 m.length):=
 ⟨_,by simp only[VRel],λw' _=>Oz fr ht<|kR hx⟩
theorem Qs(fr:Fr a n<|fA a)(ht:P.underlying t=some (.slice e))(hx:Opd S w ρ a x .nils):Yld P S w ρ a ty (.call {callee:=.builtin .len,args:=#[x],argTypes:=#[t]}) (.int .i64 0):=by obtain⟨y,h1,h2⟩:=hx;simp only[VRel]at h2;subst h2;exact⟨.int .i64 (0:Nat),by simp only[VRel];rfl,λw' _=>Fx fr ht h1⟩
theorem Ly(fr:Fr a n<|fA a)(ht:P.underlying t=some (.slice e))(hx:Opd S w ρ a x<|.row sz els):Yld P S w ρ a ty (.call {callee:=.builtin .len,args:=#[x],argTypes:=#[t]}) (.int .i64 els.length):=by obtain⟨y,h1,h2⟩:=hx;simp only[VRel]at h2;obtain⟨A,c,xs,rfl,_⟩:=h2;exact⟨_,by simp only[VRel],λw' _=>Fx fr ht h1⟩
theorem gU{e:Nat}{v:Value}(h:w.ownsRow base e sz v k xs):∃A c,v=.slice A k c∧k<=c∧c<=maxLen:=by
 rcases h.2 with⟨rfl,rfl⟩|⟨g,cap,cur,rfl,_,_,G,J,_⟩
 ·exact⟨none,0,rfl,aaf _,by decide⟩
 ·exact⟨_,cap,I,G,J⟩
theorem KR{h:Nat->Ob}{O:TypeId}{id:Nat}(hr:HRel S w ρ h)(Z:h id=.row O sz els)(fr:Fr a n<|fA a)(ht:P.underlying t=some (.slice e))(hx:Opd S w ρ a x<|.sl id):Yld P S w ρ a ty (.call {callee:=.builtin .len,args:=#[x],argTypes:=#[t]}) (.int .i64 els.length):=by obtain⟨y,h1,h2⟩:=hx;simp only[VRel]at h2;have G:=hr.ob id;rw[Z]at G;obtain⟨v,xs,J,h5,h6⟩:=G;rw[h2.1]at J;cases J;obtain⟨A,c,rfl,_⟩:=gU h5;exact⟨_,by simp only[VRel],λw' _=>Fx fr ht h1⟩
theorem p_idxR{y:Operand}{v:V}(fr:Fr a n<|fA a)(ht:P.underlying t=some (.slice e))(O:gc P e=some sz)(hx:Opd S w ρ a x<|.row sz els)(hy:Opd S w ρ a y<|.int .i64 (i:Int))(hi:els[i]?=some v):
  Yld P S w ρ a ty (.indexAddr t x y) (.box v.cells 0):=by
 obtain⟨y',h1,h2⟩:=hx;simp only[VRel]at h2;obtain⟨A,c,xs,rfl,h3,h4,Z,h6⟩:=h2;have G:i<els.length:=by
  rcases Nat.lt_or_ge i els.length with h|h
  ·exact h
  ·rw[List.getElem?_eq_none h]at hi;cases hi
 obtain⟨b,off,rfl,hS,hb,hc⟩:=h6.2 (by omega);obtain⟨z,g1,g2,g3⟩:=Z.get hi;have hcell:∀j,j<sz->w.cell? ⟨b,off+i*sz+j,none⟩=z.cells.toList[j]?:=λj J=>by rw[<-g3 j J,aav];refine hc _ ?_;have :(i+1)*sz<=els.length*sz:=Nat.mul_le_mul_right _ G;rw[Nat.add_mul,Nat.one_mul]at this;omega
 refine⟨_,?_,λw' _=>DN fr ht O h1 (bj hy) I G I⟩;simp only[VRel];refine⟨b,off+i*sz,_,by simp,hS,hb,g1.cells,λj J=>?_⟩;exact hcell j (by simp at J;omega)
theorem p_idxO{h:Nat->Ob}{O:TypeId}{y:Operand}{id:Nat}(hr:HRel S w ρ h)(Z:h id=.row O sz els)(fr:Fr a n<|fA a)(ht:P.underlying t=some (.slice e))(hz:gc P e=some sz)(hx:Opd S w ρ a x<|.sl id)(hy:Opd S w ρ a y<|.int .i64 (i:Int))(hi:i<els.length):
  Yld P S w ρ a ty (.indexAddr t x y) (.el id sz i 0):=by
 obtain⟨y',h1,h2⟩:=hx;simp only[VRel]at h2;have G:=hr.ob id;rw[Z]at G;obtain⟨v,xs,J,h5,h6⟩:=G;rw[h2.1]at J;cases J;obtain⟨g,cap,rfl,_⟩:=h5.form (by omega);exact⟨_,by simp only[VRel];exact⟨g,_,_,h2.1,rfl⟩,λw' _=>DN fr ht hz h1 (bj hy) rfl hi<|by simp⟩
theorem Pl{y:Operand}{c:UInt8}(h:Fr a n f)(ht:P.underlying t=some .string)(hx:aR f x=some (.string ⟨l.toArray⟩))(hy:aR f y=some (.int .i64 (i:Int)))(hi:l[i]?=some c):Runs P a ty (.index t x y) w (.value<|.int .u8 c.toNat) w:=λ_ _ _ _=>by
 simp only[execOp,h.eval hx,h.eval hy];have hb:(ByteArray.mk l.toArray)[i]?=some c:=by
  obtain⟨G,J⟩:=List.getElem?_eq_some_iff.1 hi;have :i<(ByteArray.mk l.toArray).size:=by simpa[ByteArray.size]using G
  rw[getElem?_pos (ByteArray.mk l.toArray) i this];simpa[ByteArray.getElem_eq_getElem_data]using J
 simp[Instr.index,asIntOf,run_underlying ht,hb]
theorem Qt{y:Operand}{c:UInt8}(fr:Fr a n<|fA a)(ht:P.underlying t=some .string)(hx:Opd S w ρ a x<|.str l)(hy:Opd S w ρ a y<|.int .i64 (i:Int))(hi:l[i]?=some c):Yld P S w ρ a ty (.index t x y) (.int .u8 c.toNat):=
 ⟨_,by simp only[VRel],λw' _=>Pl fr ht (kR hx) (bj hy) hi⟩
theorem QW{lo hi:Option Operand}{i j:Nat}(h:Fr a n f)(ht:P.underlying t=some .string)(hx:aR f x=some (.string ⟨l.toArray⟩))
  (G:(lo=none∧i=0)∨∃y,lo=some y∧aR f y=some (.int .i64 (i:Int))) (J:(hi=none∧j=l.length)∨∃y,hi=some y∧aR f y=some (.int .i64 (j:Int))) (Z:i<=j) (hj:j<=l.length):
  Runs P a ty (.slice t x lo hi none) w (.value<|.string ⟨((l.drop i).take<|j-i).toArray⟩) w:=λ_ _ _ _=>by
 have hs:(ByteArray.mk l.toArray).size=l.length:=by simp[ByteArray.size]
 rw[<-Dn];rcases G with⟨rfl,rfl⟩|⟨y,rfl,hy⟩<;>rcases J with⟨rfl,rfl⟩|⟨z,rfl,O⟩
 ·simp only[execOp,h.eval hx,Option.map_none];simp[Instr.sliceAt,Instr.slice,run_underlying ht,Instr.sliceBounds,hs];rw[Dn];simp
 ·simp only[execOp,h.eval hx,h.eval O,Option.map_none,Option.map_some];simp[Instr.sliceAt,Instr.slice,run_underlying ht,Instr.sliceBounds,hs,run_sliceBound _ .i64 (j:Int) l.length _ (by omega)<|by omega]
 ·simp only[execOp,h.eval hx,h.eval hy,Option.map_none,Option.map_some];simp[Instr.sliceAt,Instr.slice,run_underlying ht,Instr.sliceBounds,hs,run_sliceBound _ .i64 (i:Int) l.length _ (by omega)<|by omega]
 ·simp only[execOp,h.eval hx,h.eval hy,h.eval O,Option.map_some];simp[Instr.sliceAt,Instr.slice,run_underlying ht,Instr.sliceBounds,hs,run_sliceBound _ .i64 (j:Int) l.length _ (by omega) (by omega),run_sliceBound _ .i64 (i:Int) j _ (by omega)<|by omega]
theorem NO{lo hi:Option Operand}{i j:Nat}(fr:Fr a n<|fA a)(ht:P.underlying t=some .string)(hx:Opd S w ρ a x<|.str l)
  (G:(lo=none∧i=0)∨∃y,lo=some y∧Opd S w ρ a y (.int .i64 (i:Int))) (J:(hi=none∧j=l.length)∨∃y,hi=some y∧Opd S w ρ a y (.int .i64 (j:Int))) (O:i<=j) (Z:j<=l.length):
  Yld P S w ρ a ty (.slice t x lo hi none) (.str<|(l.drop i).take<|j-i):=
 ⟨_,by simp only[VRel],λw' _=>QW fr ht (kR hx) (G.imp id λ⟨y,e,h⟩=>⟨y,e,bj h⟩) (J.imp id λ⟨y,e,h⟩=>⟨y,e,bj h⟩) O Z⟩
theorem LJ{lo hi:Option Operand}{c i j:Nat}(h:Fr a n f)(ht:P.underlying t=some (.slice e))(hz:gc P e=some sz)(hx:aR f x=some (.slice A m c))
  (O:(lo=none∧i=0)∨∃y,lo=some y∧aR f y=some (.int .i64 (i:Int))) (Z:(hi=none∧j=m)∨∃y,hi=some y∧aR f y=some (.int .i64 (j:Int))) (hij:i<=j) (hj:j<=m) (hm:m<=c):
  Runs P a ty (.slice t x lo hi none) w (.value (.slice (if c=i then A else A.map (·.add (i*sz))) (j-i)<|c-i)) w:=λ_ _ _ _=>by
 obtain⟨inf,hi1,hs⟩:=Option.map_eq_some_iff.1 (show(P.info? e).map (·.size)=some sz from hz);have G:(sizeOf e).run P w=.ok sz w:=by simp[sizeOf,typeInfo,hi1,hs]
 rcases O with⟨rfl,rfl⟩|⟨y,rfl,hy⟩<;>rcases Z with⟨rfl,rfl⟩|⟨z,rfl,J⟩
 ·simp only[execOp,h.eval hx,Option.map_none];simp[Instr.sliceAt,Instr.slice,run_underlying ht,Instr.sliceBounds,G]
 ·simp only[execOp,h.eval hx,h.eval J,Option.map_none,Option.map_some];simp[Instr.sliceAt,Instr.slice,run_underlying ht,Instr.sliceBounds,G,run_sliceBound _ .i64 (j:Int) c _ (by omega)<|by omega]
 ·simp only[execOp,h.eval hx,h.eval hy,Option.map_none,Option.map_some];simp[Instr.sliceAt,Instr.slice,run_underlying ht,Instr.sliceBounds,G,run_sliceBound _ .i64 (i:Int) j _ (by omega)<|by omega]
 ·simp only[execOp,h.eval hx,h.eval hy,h.eval J,Option.map_some];simp[Instr.sliceAt,Instr.slice,run_underlying ht,Instr.sliceBounds,G,run_sliceBound _ .i64 (j:Int) c _ (by omega) (by omega),run_sliceBound _ .i64 (i:Int) j _ (by omega)<|by omega]
theorem Lf{c:Nat}(hr:RowIn S w sz A m xs)(G:i<=j)(J:j<=m)(hm:m<=c):RowIn S w sz (if c=i then A else A.map (·.add (i*sz))) (j-i) ((xs.drop<|i*sz).take<|(j-i)*sz):=by
 have h1:(j-i)*sz+i*sz=j*sz:=by rw[<-Nat.add_mul];congr 1;omega
 have h2:j*sz<=m*sz:=Nat.mul_le_mul_right _ J;refine⟨by simp[hr.1];omega,λhn=>?_⟩;obtain⟨b,off,rfl,O,hb,Z⟩:=hr.2 (by omega);rw[if_neg<|by omega];refine⟨b,off+i*sz,by simp[rU],O,hb,λk hk=>?_⟩;rw[aav,Z _ (by omega),List.getElem?_take,if_pos hk,List.getElem?_drop]
theorem Oj{lo hi:Option Operand}{i j:Nat}(fr:Fr a n<|fA a)(ht:P.underlying t=some (.slice e))(hz:gc P e=some sz)(hx:Opd S w ρ a x<|.row sz els)
  (J:(lo=none∧i=0)∨∃y,lo=some y∧Opd S w ρ a y (.int .i64 (i:Int))) (O:(hi=none∧j=els.length)∨∃y,hi=some y∧Opd S w ρ a y (.int .i64 (j:Int))) (G:i<=j) (Z:j<=els.length):
  Yld P S w ρ a ty (.slice t x lo hi none) (.row sz<|(els.drop i).take<|j-i):=by
 obtain⟨y,h1,h2⟩:=hx;simp only[VRel]at h2;obtain⟨A,c,xs,rfl,h3,h4,h5,h6⟩:=h2;refine⟨_,?_,λw' _=>LJ fr ht hz h1 (J.imp id λ⟨y,e,h⟩=>⟨y,e,bj h⟩) (O.imp id λ⟨y,e,h⟩=>⟨y,e,bj h⟩) G Z h3⟩;simp only[VRel];have e:((els.drop i).take<|j-i).length=j-i:=by simp;omega
 rw[e];exact⟨_,_,_,I,by omega,by omega,(h5.drop i).take<|j-i,Lf h6 G Z h3⟩
theorem OI{o:Nat}{v:V}(fr:Fr a n<|fA a)(ht:fy P t=true)(hx:Opd S w ρ a x<|.box cs o)(hv:cs[o]?=some v):Yld P S w ρ a ty (.load t x) v:=by
 obtain⟨y,h1,h2⟩:=hx;simp only[VRel]at h2;obtain⟨b,off,xs,rfl,O,hb,Z,h4⟩:=h2;obtain⟨z,G,h6⟩:=Z.get hv;have J:o<xs.length:=by
  rcases Nat.lt_or_ge o xs.length with h|h
  ·exact h
  ·rw[List.getElem?_eq_none h]at G;cases G
 exact⟨z,h6.up up0,λw' hA=>Ce fr h1 ht<|(World.cell?_of_block (a:=⟨b,off+o,none⟩)<|hA b O).trans<|(h4 o J).trans G⟩
theorem MJ{o:Nat}(fr:Fr a n<|fA a)(ht:mR P t=some m)(hx:Opd S w ρ a x<|.box cs o)(hl:o+m<=cs.length):Yld P S w ρ a ty (.load t x) (.agg<|(cs.drop o).take m):=by
 obtain⟨y,h1,h2⟩:=hx;simp only[VRel]at h2;obtain⟨b,off,xs,rfl,O,hb,G,Z⟩:=h2;have J:=G.length;refine⟨.agg ((xs.drop o).take m).toArray,by simp only[VRel];exact⟨_,rfl,((G.drop o).take m).up up0⟩,λw' hA=>As fr h1 ht (by simp;omega) λj hj=>?_⟩;rw[World.cell?_of_block (a:=⟨b,off+o+j,none⟩)<|hA b O,aav,Z _ (by omega),List.getElem?_take,if_pos hj,List.getElem?_drop]
def uZ(cs:List V)(o:Nat)(ps:List V):List V:=cs.take o++ps++cs.drop (o+ps.length)
def uM(place:Nat->Option (Nat×Nat)):List V->List (Nat×V)->Option (List V)
 |cs,[]=>some cs
 |cs,(i,v)::r=>match place i with
  |some (o,sz)=>match Nat.beq v.cells.length sz&&Nat.ble (o+sz) cs.length with
   |true=>uM place (uZ cs o v.cells) r
   |false=>none
  |none=>none
def kH(S:Nat->Prop)(w:World)(ρ:Nat->Option Value):List (Nat×V)->List (Nat×Value)->Prop
 |[],ys=>ys=[]
 |(i,v)::r,ys=>∃x zs,ys=(i,x)::zs∧VRel S w ρ v x∧kH S w ρ r zs
theorem BK{place pl:Nat->Option (Nat×Nat)}(hpl:∀i p,place i=some p->pl i=some p):∀{vs:List<|Nat×V} {ys:List<|Nat×Value} {cs cs':List V} {xs:List Value},kH S w ρ vs ys->LRel S w ρ cs xs->uM place cs vs=some cs'->∃xs',Instr.fill pl xs.toArray ys=some xs'.toArray∧LRel S w ρ cs' xs'
 |[],ys,cs,cs',xs,hp,hl,hf=>by simp only[kH]at hp;subst hp;simp only[uM,aad]at hf;subst hf;exact⟨xs,I,hl⟩
 | (i,v)::r,ys,cs,cs',xs,hp,hl,hf=>by
  simp only[kH]at hp;obtain⟨x,zs,rfl,hx,hr⟩:=hp;simp only[uM]at hf;split at hf
  ·rename_i o sz hpi;split at hf
   ·rename_i hc;simp only[aaa,Nat.beq_eq,Nat.ble_eq]at hc;have hcl:=hx.cells.length;simp only[Array.length_toList]at hcl;have hlen:=hl.length;have hl':LRel S w ρ (uZ cs o v.cells) (xs.take o++x.cells.toList++xs.drop (o+x.cells.size)):=by
     unfold uZ;rw[hcl];exact((hl.take o).append hx.cells).append<|hl.drop _
    obtain⟨xs',h1,h2⟩:=BK hpl hr hl' hf;refine⟨xs',?_,h2⟩;simp only[Instr.fill,hpl i _ hpi];rw[if_neg (by simp;omega),<-h1]
    congr 1
    have hfs:=yo o x.cells.toList 0 xs (by simp;omega);simp only[Nat.add_zero,Array.length_toList]at hfs;rw[<-hfs,<-Array.foldl_toList,Array.toList_zipIdx]
   ·cases hf
  ·cases hf
def zx(P:Program)(t:TypeId):Option (List<|Nat×Nat):=match P.underlying t with
 |some (.struct fs)=>fs.toList.mapM λfl=>(gc P fl.type).map λs=>(fl.offset,s)
 |_=>none
theorem Bh:∀{fs:List Field} {ps:List<|Nat×Nat},(fs.mapM λfl=>(gc P fl.type).map λs=>(fl.offset,s))=some ps->(fs.mapM (m:=Sem) λfl=>do pure (fl.offset,<-sizeOf fl.type)).run P w=.ok ps w
 |[],ps,h=>by simp at h;subst h;simp
 |fl::r,ps,h=>by
  simp only[List.mapM_cons]at h;obtain⟨p,h1,h⟩:=Option.bind_eq_some_iff.1 h;obtain⟨qs,h2,h⟩:=Option.bind_eq_some_iff.1 h;simp only[Option.pure_def,aad]at h;subst h;obtain⟨s,G,J⟩:=Option.map_eq_some_iff.1 h1;obtain⟨inf,O,Z⟩:=Option.map_eq_some_iff.1 (show(P.info? fl.type).map (·.size)=some s from G);have ih:=Bh h2;have h7:(sizeOf fl.type).run P w=.ok s w:=by simp[sizeOf,typeInfo,O,Z]
  subst J;simp only[List.mapM_cons];simp[h7];simp at ih;simp[ih]
theorem Pf{vs:List<|Nat×V}{ys:List<|Nat×Value}{pl:List<|Nat×Nat}{z:List Value}{zv cs:List V}{place:Nat->Option (Nat×Nat)}(fr:Fr a n<|fA a)(hps:gr (fA a) ps=some ys)(hpr:kH S w ρ vs ys)(hz:rp P t=some z)(hzv:LRel S w ρ zv z)
  (hpl:zx P t=some pl) (hplace:∀i p,place i=some p->pl[i]?=some p) (hf:uM place zv vs=some cs):Yld P S w ρ a ty (.build t ps.toArray) (.agg cs):=by
 obtain⟨xs,h1,h2⟩:=BK (pl:=λi=>pl.toArray[i]?) (λi p h=>by simpa using hplace i p h) hpr hzv hf;refine⟨.agg xs.toArray,by simp only[VRel];exact⟨xs,rfl,h2⟩,λw' _=>Em fr hps λw=>?_⟩;unfold rp at hz;obtain⟨z0,hz1,hz2⟩:=Option.map_eq_some_iff.1 hz;obtain⟨inf,hi,hiz⟩:=Option.bind_eq_some_iff.1 hz1;have ez:z0.cells=z.toArray:=by rw[<-hz2]
 unfold zx at hpl;cases hu:P.underlying t with
 |none=>rw[hu]at hpl;cases hpl
 | some d=>
  rw[hu]at hpl;cases d with
  | struct fs=>
   have hm:=Bh (w:=w) hpl;have hm':(fs.mapM (m:=Sem) λfl=>do pure (fl.offset,<-sizeOf fl.type)).run P w=.ok pl.toArray w:=by
    have e:fs.mapM (m:=Sem) (λfl=>do pure (fl.offset,<-sizeOf fl.type))=List.toArray<$>fs.toList.mapM (m:=Sem) (λfl=>do pure (fl.offset,<-sizeOf fl.type)):=by rw[<-List.mapM_toArray]
    rw[e];simp at hm;simp[hm]
   simp only[Instr.build];simp at hm';simp[zeroValue,typeInfo,hi,hiz,run_underlying hu,hm',ez];simp at h1;rw[h1];simp
  |_=>cases hpl
theorem Nh{vs:List<|Nat×V}{ys:List<|Nat×Value}{sz len:Nat}{e:TypeId}{z:List Value}{zv cs:List V}(fr:Fr a n<|fA a)(G:gr (fA a) ps=some ys)(J:kH S w ρ vs ys)(hz:rp P t=some z)(O:LRel S w ρ zv z)
  (ht:P.underlying t=some (.array len e)) (he:gc P e=some sz) (hf:uM (λi=>some (i*sz,sz)) zv vs=some cs):Yld P S w ρ a ty (.build t ps.toArray) (.agg cs):=by
 obtain⟨xs,h1,h2⟩:=BK (pl:=λi=>some (i*sz,sz)) (λi p h=>h) J O hf;refine⟨.agg xs.toArray,by simp only[VRel];exact⟨xs,rfl,h2⟩,λw' _=>Em fr G λw=>?_⟩;unfold rp at hz;obtain⟨z0,Z,hz2⟩:=Option.map_eq_some_iff.1 hz;obtain⟨inf,hi,hiz⟩:=Option.bind_eq_some_iff.1 Z;have ez:z0.cells=z.toArray:=by rw[<-hz2]
 obtain⟨inf',h5,h6⟩:=Option.map_eq_some_iff.1 (show(P.info? e).map (·.size)=some sz from he);have h7:(sizeOf e).run P w=.ok sz w:=by simp[sizeOf,typeInfo,h5,h6]
 simp only[Instr.build];simp[zeroValue,typeInfo,hi,hiz,run_underlying ht,h7,ez];rw[h1];simp
end
structure ChgP (X:Nat->Prop) (w w':World):Prop where
 os:w'.os=w.os
 tape:w'.tape=w.tape
 output:w'.output=w.output
 size:w.heap.size<=w'.heap.size
 block:∀k,k<w.heap.size->¬X k->w'.heap[k]?=w.heap[k]?
theorem ChgP.refl(X:Nat->Prop)(w:World):ChgP X w w:=⟨rfl,rfl,rfl,aaf _,λ_ _ _=>rfl⟩
variable{X:Nat->Prop}{w1:World}
theorem ChgP.trans{Y:Nat->Prop}{w w2:World}(h:ChgP X w w1)(k:ChgP Y w1 w2)(J:∀b,Y b->X b∨w.heap.size<=b):ChgP X w w2:=
 ⟨k.os.trans h.os,k.tape.trans h.tape,k.output.trans h.output,aao h.size k.size,λb hb G=>by
  rw[k.block b (aaz hb h.size) (λO=>by rcases J b O with h1|h1;exact G h1;omega),h.block b hb G]⟩
theorem ChgP.mono{Y:Nat->Prop}{w:World}(h:ChgP X w w1)(G:∀b,X b->Y b):ChgP Y w w1:=⟨h.os,h.tape,h.output,h.size,λb hb J=>h.block b hb λO=>J<|G b O⟩
theorem ChgP.of{X:YN}{w:World}(h:Chg X w w1):ChgP (·∈X) w w1:=⟨h.os,h.tape,h.output,h.size,h.block⟩
theorem ChgP.of0{w:World}(h:Chg [] w w1):ChgP X w w1:=(ChgP.of h).mono (λb hb=>by simp at hb)
def bQ(h:Nat->Ob)(id:Nat)(o:Ob):Nat->Ob:=λi=>match Nat.beq i id with|true=>o|false=>h i
def dS(ρ:Nat->Option Value)(id:Nat)(x:Value):Nat->Option Value:=λi=>match Nat.beq i id with|true=>some x|false=>ρ i
theorem bD(h:Nat->Ob)(id:Nat)(o:Ob):bQ h id o id=o:=by simp[bQ]
theorem co(h:Nat->Ob){id:Nat}(o:Ob)(hi:i≠id):bQ h id o i=h i:=by
 unfold bQ;split
 ·rename_i hb;exact absurd (aag hb) hi
 ·rfl
theorem bb(ρ:Nat->Option Value)(id:Nat)(x:Value):dS ρ id x id=some x:=by simp[dS]
theorem rB(ρ:Nat->Option Value){id:Nat}(x:Value)(hi:i≠id):dS ρ id x i=ρ i:=by
 unfold dS;split
 ·rename_i hb;exact absurd (aag hb) hi
 ·rfl
structure Eff (S:Nat->Prop) (w w':World) (ρ ρ':Nat->Option Value) (h h':Nat->Ob) (X:Nat->Prop):Prop where
 hr:HRel S w' ρ' h'
 up:Up S S w w' ρ ρ'
 chg:ChgP (λb=>∃id,X id∧own ρ id (h id) b) w w'
 new:∀id b,own ρ' id (h' id) b->(∃j,own ρ j (h j) b)∨w.heap.size<=b
def Does (P:Program) (S:Nat->Prop) (w:World) (ρ:Nat->Option Value) (h:Nat->Ob) (a:Act) (ty:TypeId) (op:Op) (v:Option V) (h':Nat->Ob) (X:Nat->Prop):Prop:=
  ∃ nx w' ρ',Runs P a ty op w nx w'∧Eff S w w' ρ ρ' h h' X∧match v with
    |some v=>∃x,nx=.value x∧VRel S w' ρ' v x
    |none=>nx=.skip
variable{nid:Nat}
variable{tb:TypeId}
variable{v0:V}
section
variable{P:Program}{S:Nat->Prop}{w w':World}{ρ ρ':Nat->Option Value}{h h':Nat->Ob}{a:Act}{n:Nat}{ty:TypeId}
theorem Eff.refl(hr:HRel S w ρ h):Eff S w w ρ ρ h h X:=⟨hr,Up.refl,ChgP.refl _ _,λid b hb=>.inl ⟨id,hb⟩⟩
theorem Eo{Y:Nat->Prop}(k src:Nat)(hr:HRel S w ρ h)(hc:ChgP X w w')(hρ:∀i x,ρ i=some x->ρ' i=some x)(hX:∀b,X b->∃id,Y id∧own ρ id (h id) b)
  (hk:kx S w' ρ' k<|h' k) (hkb:∀b,own ρ' k (h' k) b->w.heap.size<=b∨own ρ src (h src) b) (hsrc:src≠k->h' src=.gone)
  (hi:∀i,i≠k->h' i=.gone∨(h' i=h i∧(h i=.free->ρ' i=none)∧∀b,own ρ i (h i) b->¬X b)):Eff S w w' ρ ρ' h h' Y:=by
 have hnS:∀b,S b->¬X b:=λb hb hx=>by obtain⟨id,_,ho⟩:=hX b hx;exact hr.sep id b ho hb
 have up:Up S S w w' ρ ρ':=⟨λ_ h=>h,λb hb hlt=>hc.block b hlt<|hnS b hb,hρ⟩;have back:∀i b,i≠k->own ρ' i (h' i) b->own ρ i (h i) b:=λi b G hb=>by
  rcases hi i G with e|⟨e,_,_⟩
  ·rw[e]at hb;exact hb.elim
  ·rw[e]at hb;exact LR hρ (hr.ob i) hb
 refine⟨⟨λi=>?_,λi b hb=>?_,λi j b O Z=>?_,hr.slt.up up λb hb=>aaz (hr.slt b hb) hc.size⟩,up,hc.mono hX,λi b hb=>?_⟩
 ·by_cases G:i=k
  ·subst G;exact hk
  ·rcases hi i G with e|⟨e,hf,hb⟩
   ·rw[e];trivial
   ·rw[e];exact(hr.ob i).up up hf λb hob=>hc.block b (gv (hr.ob i) hob)<|hb b hob
 ·by_cases G:i=k
  ·subst G;rcases hkb b hb with h1|h1
   ·intro hS;have :=hr.slt b hS;omega
   ·exact hr.sep src b h1
  ·exact hr.sep i b<|back i b G hb
 ·by_cases G:i=k
  ·by_cases J:j=k
   ·rw[G,J]
   ·subst G;have h1:=back j b J Z;rcases hkb b O with h2|h2
    ·have :=gv (hr.ob j) h1;omega
    ·have h3:=hr.dis src j b h2 h1;subst h3;rw[hsrc J]at Z;exact Z.elim
  ·by_cases J:j=k
   ·subst J;have h1:=back i b G O;rcases hkb b Z with h2|h2
    ·have :=gv (hr.ob i) h1;omega
    ·have h3:=hr.dis src i b h2 h1;subst h3;rw[hsrc G]at O;exact O.elim
   ·exact hr.dis i j b (back i b G O)<|back j b J Z
 ·by_cases G:i=k
  ·subst G;rcases hkb b hb with h1|h1
   ·exact .inr h1
   ·exact .inl ⟨src,h1⟩
  ·exact .inl ⟨i,back i b G hb⟩
theorem eff_new{x:Value}{o:Ob}(hr:HRel S w ρ h)(hf:h nid=.free)(O:Chg [] w w')(Z:kx S w' (dS ρ nid x) nid o)(hb:∀b,own (dS ρ nid x) nid o b->w.heap.size<=b):Eff S w w' ρ (dS ρ nid x) h (bQ h nid o) (λ_=>False):=by
 have hn:ρ nid=none:=by have :=hr.ob nid;rw[hf]at this;exact this
 refine Eo (X:=λ_=>False) nid nid hr (ChgP.of0 O) (λi y hy=>?_) (λb hb=>hb.elim) (by rw[bD];exact Z) (λb G=>by rw[bD]at G;exact .inl<|hb b G) (λh=>absurd I h)
  (λi hi=>.inr ⟨co _ _ hi,λJ=>?_,λb _ hx=>hx⟩)
 ·have :i≠nid:=λe=>by subst e;rw[hn]at hy;cases hy
  rw[rB _ _ this];exact hy
 ·rw[rB _ _ hi];have :=hr.ob i;rw[J]at this;exact this
theorem zw{id:Nat}{o:Ob}{X:YN}(hr:HRel S w ρ h)(Z:Chg X w w')(O:∀b,b∈X->own ρ id (h id) b)(hk:kx S w' ρ id o)(hb:∀b,own ρ id o b->own ρ id (h id) b):Eff S w w' ρ ρ h (bQ h id o) (·=id):=by
 refine Eo (X:=(·∈X)) id id hr (ChgP.of Z) (λi y hy=>hy) (λb hb=>⟨id,I,O b hb⟩) (by rw[bD];exact hk) (λb G=>by rw[bD]at G;exact .inr<|hb b G) (λh=>absurd I h)
  (λi hi=>.inr ⟨co _ _ hi,λJ=>?_,λb G hx=>hi<|hr.dis i id b G<|O b hx⟩)
 have :=hr.ob i;rw[J]at this;exact this
theorem FR{id:Nat}{x:Value}{o:Ob}{X:YN}(hr:HRel S w ρ h)(hf:h nid=.free)(hid:h id≠.free)(hc:Chg X w w')(hX:∀b,b∈X->own ρ id (h id) b)(hk:kx S w' (dS ρ nid x) nid o)(hb:∀b,own (dS ρ nid x) nid o b->own ρ id (h id) b∨w.heap.size<=b):
  Eff S w w' ρ (dS ρ nid x) h (bQ (bQ h id .gone) nid o) (·=id):=by
 have hn:ρ nid=none:=by have :=hr.ob nid;rw[hf]at this;exact this
 have O:id≠nid:=λe=>by subst e;exact hid hf
 refine Eo (X:=(·∈X)) nid id hr (ChgP.of hc) (λi y hy=>?_) (λb hb=>⟨id,I,hX b hb⟩) (by rw[bD];exact hk) (λb G=>by rw[bD]at G;exact(hb b G).symm) (λ_=>by rw[co _ _ O,bD])
  (λi hi=>?_)
 ·have :i≠nid:=λe=>by subst e;rw[hn]at hy;cases hy
  rw[rB _ _ this];exact hy
 ·rw[co _ _ hi];by_cases J:i=id
  ·subst J;exact .inl<|bD _ _ _
  ·refine .inr ⟨co _ _ J,λZ=>?_,λb G hx=>J<|hr.dis i id b G<|hX b hx⟩;rw[rB _ _ hi];have :=hr.ob i;rw[Z]at this;exact this
theorem Bb{x:Value}(hr:HRel S w ρ h)(hf:h nid=.free)(J:Chg [] w w'):Up S S w w' ρ (dS ρ nid x):=by
 have O:ρ nid=none:=by have :=hr.ob nid;rw[hf]at this;exact this
 refine⟨λ_ h=>h,λb hb G=>J.block b G (by simp),λi y hy=>?_⟩;have :i≠nid:=λe=>by subst e;rw[O]at hy;cases hy
 rw[rB _ _ this];exact hy
theorem ub{id:Nat}(hr:HRel S w ρ h)(G:h id=.var t cs):∃b xs,ρ id=some (.pointer<|some ⟨b,0,none⟩)∧Blk w b t xs∧LRel S w ρ cs xs:=by have :=hr.ob id;rw[G]at this;exact this
theorem jK{id:Nat}(hr:HRel S w ρ h)(G:h id=.row e sz els):∃v xs,ρ id=some v∧w.ownsRow 0 e sz v els.length xs∧CRel S w ρ sz els xs:=by have :=hr.ob id;rw[G]at this;exact this
theorem BG{id o:Nat}(hx:Opd S w ρ a x<|.ptr id o)(hb:ρ id=some (.pointer<|some ⟨b,0,none⟩)):aR (fA a) x=some (.pointer<|some ⟨b,o,none⟩):=by obtain⟨y,h1,h2⟩:=hx;simp only[VRel]at h2;obtain⟨J,G,rfl⟩:=h2;rw[hb]at G;simp only[aad,Value.pointer.injEq,Addr.mk.injEq,and_true]at G;subst G;exact h1
theorem GR{id o:Nat}{v:V}(hr:HRel S w ρ h)(fr:Fr a n<|fA a)(hx:Opd S w ρ a x<|.ptr id o)(G:h id=.var tb cs)(ht:fy P t=true)(hv:cs[o]?=some v):
  ∃b y,ρ id=some (.pointer<|some ⟨b,0,none⟩)∧w.cell? ⟨b,o,none⟩=some y∧VRel S w ρ v y∧∀w',w'.cell? ⟨b,o,none⟩=some y->Runs P a ty (.load t x) w' (.value y) w':=by
 obtain⟨b,xs,h1,h2,J⟩:=ub hr G;obtain⟨y,O,Z⟩:=J.get hv;exact⟨b,y,h1,by rw[h2.cell,O],Z,λw' hc=>Ce fr (BG hx h1) ht hc⟩
theorem Qe{id o:Nat}{v:V}(hr:HRel S w ρ h)(fr:Fr a n<|fA a)(hx:Opd S w ρ a x<|.ptr id o)(G:h id=.var tb cs)(ht:fy P t=true)(hv:cs[o]?=some v):Does P S w ρ h a ty (.load t x) (some v) h (λ_=>False):=by obtain⟨b,y,h1,h2,J,O⟩:=GR (P:=P) (ty:=ty) hr fr hx G ht hv;exact⟨_,w,ρ,O w h2,Eff.refl hr,y,I,J⟩
theorem Ez{id o:Nat}(hr:HRel S w ρ h)(fr:Fr a n<|fA a)(hx:Opd S w ρ a x<|.ptr id o)(O:h id=.var tb cs)(ht:mR P t=some m)(hl:o+m<=cs.length):
  ∃b ys,ρ id=some (.pointer<|some ⟨b,0,none⟩)∧(∀j,j<m->w.cell? ⟨b,o+j,none⟩=ys[j]?)∧LRel S w ρ ((cs.drop o).take m) ys∧∀w',(∀j,j<m->w'.cell? ⟨b,o+j,none⟩=ys[j]?)->Runs P a ty (.load t x) w' (.value<|.agg ys.toArray) w':=by
 obtain⟨b,xs,h1,h2,G⟩:=ub hr O;have J:=G.length;refine⟨b,(xs.drop o).take m,h1,λj Z=>?_,(G.drop o).take m,λw' hc=>As fr (BG hx h1) ht (by simp;omega) hc⟩;rw[h2.cell,List.getElem?_take,if_pos Z,List.getElem?_drop]
theorem Ow{id o:Nat}(hr:HRel S w ρ h)(fr:Fr a n<|fA a)(hx:Opd S w ρ a x<|.ptr id o)(G:h id=.var tb cs)(ht:mR P t=some m)(J:o+m<=cs.length):Does P S w ρ h a ty (.load t x) (some<|.agg<|(cs.drop o).take m) h (λ_=>False):=by obtain⟨b,ys,h1,h2,O,Z⟩:=Ez (P:=P) (ty:=ty) hr fr hx G ht J;exact⟨_,w,ρ,Z w h2,Eff.refl hr,_,rfl,by simp only[VRel];exact⟨ys,rfl,O⟩⟩
theorem DM{id o:Nat}{v:Value}(hx:Opd S w ρ a x<|.el id sz i o)(hb:ρ id=some v):∃b m c,v=.slice (some ⟨b,0,none⟩) m c∧aR (fA a) x=some (.pointer<|some ⟨b,i*sz+o,none⟩):=by obtain⟨y,h1,h2⟩:=hx;simp only[VRel]at h2;obtain⟨J,m,c,G,rfl⟩:=h2;rw[hb]at G;cases G;exact⟨J,m,c,I,h1⟩
theorem xk{e c:Nat}(J:w.ownsRow base e sz (.slice (some ⟨b,0,none⟩) m c) k xs)(O:j<k*sz):w.cell? ⟨b,j,none⟩=xs[j]?:=by
 rcases J.2 with⟨Z,_⟩|⟨g,cap,cur,hv,hb,hg,h4,h5,h6,h7⟩
 ·cases Z
 ·injection hv with G _ hv2
  injection G with G
  injection G with G
  subst G;rw[<-h7];simp[World.cell?,hg,List.getElem?_take,O]
theorem DQ{id o:Nat}{v:V}(hr:HRel S w ρ h)(fr:Fr a n<|fA a)(hx:Opd S w ρ a x<|.el id sz i o)(ho:h id=.row e sz els)(ht:fy P t=true)(hi:els[i]?=some v0)(hv:v0.cells[o]?=some v):
  ∃b u y,ρ id=some u∧u.ownBlock=some b∧w.cell? ⟨b,i*sz+o,none⟩=some y∧VRel S w ρ v y∧∀w',w'.cell? ⟨b,i*sz+o,none⟩=some y->Runs P a ty (.load t x) w' (.value y) w':=by
 obtain⟨u,xs,h1,h2,h3⟩:=jK hr ho;obtain⟨b,m,c,rfl,G⟩:=DM hx h1;obtain⟨z,g1,g2,g3⟩:=h3.get hi;obtain⟨y,Z,h5⟩:=g1.cells.get hv;have J:o<sz:=by have :=(List.getElem?_eq_some_iff.1 Z).1;simp at this;omega
 have O:i<els.length:=(List.getElem?_eq_some_iff.1 hi).1;have :(i+1)*sz<=els.length*sz:=Nat.mul_le_mul_right _ O;rw[Nat.add_mul,Nat.one_mul]at this;exact⟨b,_,y,h1,I,by rw[xk h2 (by omega),g3 o J,Z],h5,λw' hc=>Ce fr G ht hc⟩
theorem Hb{id o:Nat}{v:V}(hr:HRel S w ρ h)(fr:Fr a n<|fA a)(hx:Opd S w ρ a x<|.el id sz i o)(G:h id=.row e sz els)(ht:fy P t=true)(hi:els[i]?=some v0)(hv:v0.cells[o]?=some v):Does P S w ρ h a ty (.load t x) (some v) h (λ_=>False):=by obtain⟨b,u,y,h1,_,h2,J,O⟩:=DQ (P:=P) (ty:=ty) hr fr hx G ht hi hv;exact⟨_,w,ρ,O w h2,Eff.refl hr,y,I,J⟩
theorem CK{id o:Nat}(hr:HRel S w ρ h)(fr:Fr a n<|fA a)(hx:Opd S w ρ a x<|.el id sz i o)(ho:h id=.row e sz els)(ht:mR P t=some m)(hi:els[i]?=some v0)(hl:o+m<=v0.cells.length):
  ∃b u ys,ρ id=some u∧u.ownBlock=some b∧(∀j,j<m->w.cell? ⟨b,i*sz+o+j,none⟩=ys[j]?)∧LRel S w ρ ((v0.cells.drop o).take m) ys∧∀w',(∀j,j<m->w'.cell? ⟨b,i*sz+o+j,none⟩=ys[j]?)->Runs P a ty (.load t x) w' (.value<|.agg ys.toArray) w':=by
 obtain⟨u,xs,h1,h2,h3⟩:=jK hr ho;obtain⟨b,k,c,rfl,J⟩:=DM hx h1;obtain⟨z,Z,g2,g3⟩:=h3.get hi;have G:=Z.cells.length;simp only[Array.length_toList]at G;have O:i<els.length:=(List.getElem?_eq_some_iff.1 hi).1;have :(i+1)*sz<=els.length*sz:=Nat.mul_le_mul_right _ O;rw[Nat.add_mul,Nat.one_mul]at this;refine⟨b,_,(z.cells.toList.drop o).take m,h1,rfl,λj hj=>?_,(Z.cells.drop o).take m,λw' hc=>As fr J ht (by simp;omega) hc⟩;rw[xk h2 (by omega),aav,g3 _ (by omega),List.getElem?_take,if_pos hj,List.getElem?_drop]
theorem FP{id o:Nat}(hr:HRel S w ρ h)(fr:Fr a n<|fA a)(hx:Opd S w ρ a x<|.el id sz i o)(G:h id=.row e sz els)(ht:mR P t=some m)(hi:els[i]?=some v0)(J:o+m<=v0.cells.length):Does P S w ρ h a ty (.load t x) (some<|.agg<|(v0.cells.drop o).take m) h (λ_=>False):=by obtain⟨b,u,ys,h1,_,h2,O,Z⟩:=CK (P:=P) (ty:=ty) hr fr hx G ht hi J;exact⟨_,w,ρ,Z w h2,Eff.refl hr,_,rfl,by simp only[VRel];exact⟨ys,rfl,O⟩⟩
theorem Pz{z:List Value}{zv:List V}(hr:HRel S w ρ h)(hf:h nid=.free)(O:rp P t=some z)(G:∀S w ρ,LRel S w ρ zv z):Does P S w ρ h a ty (.alloc t) (some<|.ptr nid 0) (bQ h nid<|.var t zv) (λ_=>False):=by
 obtain⟨w',b,h1,h2,Z,h4,h5⟩:=NF (P:=P) z O a w ty;refine⟨_,w',dS ρ nid<|.pointer<|some ⟨b,0,none⟩,h1,eff_new hr hf Z ⟨b,z,bb _ _ _,h2,G _ _ _⟩ λb' J=>?_,_,I,?_⟩
 ·simp only[own,bb,aad,Value.pointer.injEq,Addr.mk.injEq,and_true]at J;omega
 ·simp only[VRel];exact⟨b,bb _ _ _,rfl⟩
theorem SU{v:V}(hr:HRel S w ρ h)(fr:Fr a n<|fA a)(hf:h nid=.free)(hx:Opd S w ρ a x v):Does P S w ρ h a ty (.box t x) (some<|.ptr nid 0) (bQ h nid<|.var t v.cells) (λ_=>False):=by
 obtain⟨y,O,Z⟩:=hx;obtain⟨w',b,h1,h2,J,h4,h5⟩:=QM (P:=P) (t:=t) (cs:=y.cells.toList) fr O (by simp) w ty;refine⟨_,w',dS ρ nid<|.pointer<|some ⟨b,0,none⟩,h1,eff_new hr hf J ⟨b,_,bb _ _ _,h2,Z.cells.up<|Bb hr hf J⟩ λb' G=>?_,_,I,?_⟩
 ·simp only[own,bb,aad,Value.pointer.injEq,Addr.mk.injEq,and_true]at G;omega
 ·simp only[VRel];exact⟨b,bb _ _ _,rfl⟩
theorem CO{y:Operand}{o:Nat}{v:Value}{cs:List Value}(h:Fr a n f)(hx:aR f x=some (.pointer<|some ⟨b,o,none⟩))(hy:aR f y=some v)(hz:gc P t=some m)(hv:v.cells.size=m)(hone:v.cells.toList.all (·.oneCell')=true)(hb:Blk w b tb cs)(hm:o+m<=cs.length)(ty:TypeId):
  ∃w',Runs P a ty (.store t x y) w .skip w'∧Blk w' b tb (cs.take o++v.cells.toList++cs.drop (o+m))∧Chg [b] w w':=by
 obtain⟨i,hi,hs⟩:=Option.map_eq_some_iff.1 (show(P.info? t).map (·.size)=some m from hz);have key:∀(l:List Value) (j:Nat) (w:World) (cs:List Value),Blk w b tb cs->o+j+l.length<=cs.length->l.all (·.oneCell')=true->∃w',(storeCells ⟨b,o,none⟩ l j).run P w=.ok () w'∧Blk w' b tb (cs.take (o+j)++l++cs.drop (o+j+l.length))∧Chg [b] w w':=by
  intro l
  induction l with
  |nil=>intro j w cs hb hj _;exact⟨w,by simp[storeCells],by simpa using hb,Chg.refl _ _⟩
  | cons c r ih=>
   intro j w cs hb hj hone;simp only[List.all_cons,aaa]at hone;simp only[aac]at hj;have ho:o+j<cs.length:=by omega
   have hc:w.cell? ⟨b,o+j,none⟩=some cs[o+j]:=by rw[hb.cell];simp[ho]
   have hfz:=hb.frozen<|o+j;have ha:(⟨b,o,none⟩:Addr).add j=⟨b,o+j,none⟩:=rU b o j;obtain⟨w2,h1,h2,h3⟩:=ih (j+1) (w.setCell ⟨b,o+j,none⟩ c) (cs.set (o+j) c) (hb.set (o+j) c) (by simp;omega) hone.2;refine⟨w2,?_,?_,(Chg.set w b (o+j) c).trans h3 λx hx=>.inl hx⟩
   ·simp only[storeCells,ha];have hst:=run_store P w ⟨b,o+j,none⟩ c .plain hone.1;simp[hst,stored,hc,hfz];exact h1
   ·have e1:(cs.set (o+j) c).take (o+(j+1))=cs.take (o+j)++[c]:=by
     rw[<-aav,List.take_succ_eq_append_getElem (by simpa using ho),List.take_set_of_le<|aaf _];simp
    have e2:(cs.set (o+j) c).drop (o+(j+1)+r.length)=cs.drop (o+j+(r.length+1)):=by
     rw[List.drop_set_of_lt<|by omega];congr 1;omega
    rw[e1,e2]at h2;simpa using h2
 obtain⟨w1,h1,h2,h3⟩:=key v.cells.toList 0 w cs hb (by simp;omega) hone;refine⟨w1,λ_ _ _ _=>?_,by simpa[hv]using h2,h3⟩;simp only[execOp,h.eval hx,h.eval hy];simp[Instr.storeAt,Instr.sureAddr,storeVar,sizeOf,typeInfo,hi,hs,hv,h1]
theorem wd:∀{vs:List V} {xs:List Value},LRel S w ρ vs xs->vs.all V.one=true->xs.all (·.oneCell')=true
 |[],xs,G,h1=>by simp only[LRel]at G;subst G;rfl
 |v::r,xs,G,h1=>by simp only[LRel]at G;obtain⟨x,ys,rfl,h2,J⟩:=G;simp only[List.all_cons,aaa]at h1⊢;exact⟨h2.one h1.1,wd J h1.2⟩
theorem Lv{X:YN}{id:Nat}(hr:HRel S w ρ h)(J:Chg X w w')(O:∀b,b∈X->own ρ id (h id) b):Up S S w w' ρ ρ:=
 ⟨λ_ h=>h,λb hb G=>J.block b G λhx=>hr.sep id b (O b hx) hb,λ_ _ h=>h⟩
theorem Pc{y:Operand}{id o:Nat}{v:V}(hr:HRel S w ρ h)(fr:Fr a n<|fA a)(hx:Opd S w ρ a x<|.ptr id o)(hy:Opd S w ρ a y v)(O:h id=.var tb cs)(hz:gc P t=some m)(hv:v.cells.length=m)(h1:v.cells.all V.one=true)(hm:o+m<=cs.length):
  Does P S w ρ h a ty (.store t x y) none (bQ h id<|.var tb<|uZ cs o v.cells) (·=id):=by
 obtain⟨b,xs,Z,g2,g3⟩:=ub hr O;obtain⟨z,k1,k2⟩:=hy;have G:=k2.cells.length;simp only[Array.length_toList]at G;obtain⟨w',r1,r2,r3⟩:=CO (P:=P) (t:=t) (m:=m) fr (BG hx Z) k1 hz (by omega) (wd k2.cells h1) g2 (by have :=g3.length;omega) ty;have hX:∀c,c∈[b]->own ρ id (h id) c:=λc J=>by simp at J;subst J;rw[O];exact Z
 have u:=Lv hr r3 hX;refine⟨_,w',ρ,r1,zw hr r3 hX ⟨b,_,Z,r2,?_⟩ (λc J=>by rw[O];exact J),I⟩;unfold uZ;rw[hv];exact(((g3.take o).append k2.cells).append<|g3.drop _).up u
theorem CRel.set{sz:Nat}:∀{vs:List V} {xs:List Value} {i:Nat} {v:V} {x:Value},CRel S w ρ sz vs xs->i<vs.length->VRel S w ρ v x->x.cells.size=sz->x.cells.toList.all (·.oneCell')=true->CRel S w ρ sz (vs.set i v) (xs.take (i*sz)++x.cells.toList++xs.drop (i*sz+sz))
 |[],xs,i,v,x,hc,hi,hx,hs,h1=>by simp at hi
 |u::r,xs,0,v,x,hc,hi,hx,hs,h1=>by simp only[CRel]at hc;obtain⟨y,ys,rfl,⟨h2,h2'⟩,h3,h4⟩:=hc;refine⟨x,ys,?_,⟨hs,h1⟩,hx,h4⟩;simp[h2,List.drop_append]
 | u::r,xs,i+1,v,x,hc,hi,hx,hs,h1=>by
  simp only[CRel]at hc;obtain⟨y,ys,rfl,⟨h2,h2'⟩,h3,h4⟩:=hc;have ih:=CRel.set (i:=i) h4 (by simpa using hi) hx hs h1;refine⟨y,_,?_,⟨h2,h2'⟩,h3,ih⟩;have e1:(y.cells.toList++ys).take ((i+1)*sz)=y.cells.toList++ys.take (i*sz):=by
   rw[List.take_append,List.take_of_length_le<|by simp[h2,Nat.add_mul]]
   congr 2
   simp[h2,Nat.add_mul]
  have e2:(y.cells.toList++ys).drop ((i+1)*sz+sz)=ys.drop (i*sz+sz):=by
   rw[List.drop_append,List.drop_of_length_le<|by simp[h2,Nat.add_mul]];simp[h2,Nat.add_mul]
  rw[e1,e2];simp
def V.over(v0:V)(o:Nat)(ps:List V):V:=match v0 with
 |.agg cs=>.agg<|uZ cs o ps
 |v0=>match ps with
  |[p]=>p
  |_=>v0
theorem AB{y:Operand}{id o:Nat}{v:V}(hr:HRel S w ρ h)(fr:Fr a n<|fA a)(hx:Opd S w ρ a x<|.el id sz i o)(hy:Opd S w ρ a y v)(ho:h id=.row e sz els)(hz:gc P t=some m)(hi:els[i]?=some v0)(hv:v.cells.length=m)(h1:v.cells.all V.one=true)(hm:o+m<=v0.cells.length)
  (hv0:(∃cs,v0=.agg cs)∨(v0.cells=[v0]∧v.cells=[v])):Does P S w ρ h a ty (.store t x y) none (bQ h id<|.row e sz<|els.set i<|v0.over o v.cells) (·=id):=by
 obtain⟨u,xs,g1,g2,g3⟩:=jK hr ho;obtain⟨b,k,c,rfl,hx'⟩:=DM hx g1;obtain⟨z,k1,k2⟩:=hy;have hlen:=k2.cells.length;simp only[Array.length_toList]at hlen;obtain⟨z0,q1,q2,q3⟩:=g3.get hi;have hle:i<els.length:=(List.getElem?_eq_some_iff.1 hi).1;have hmul:(i+1)*sz<=els.length*sz:=Nat.mul_le_mul_right _ hle;rw[Nat.add_mul,Nat.one_mul]at hmul;have hl0:=q1.cells.length;simp only[Array.length_toList]at hl0;have hxl:=g3.length;rcases g2.2 with⟨hc,_⟩|⟨g,cap,cur,hv1,hb,hg,h4,h5,h6,h7⟩
 ·cases hc
 ·injection hv1 with hv2 hv3 hv4
  injection hv2 with hv2
  injection hv2 with hv2
  subst hv2 hv3 hv4;have hcap:els.length*sz<=c*sz:=Nat.mul_le_mul_right _ h4;have hB:Blk w b e cur.toList:=by unfold Blk;rw[hg]
  obtain⟨w',r1,r2,r3⟩:=CO (P:=P) (t:=t) (m:=m) fr hx' k1 hz (by omega) (wd k2.cells h1) hB (by simp;omega) ty;have hX:∀d,d∈[b]->own ρ id (h id) d:=λd hd=>by simp at hd;subst hd;rw[ho];exact⟨_,g1,rfl⟩
  have up:=Lv hr r3 hX;have hnew:∃q,VRel S w ρ (v0.over o v.cells) q∧q.cells.toList=z0.cells.toList.take o++z.cells.toList++z0.cells.toList.drop (o+m):=by
   rcases hv0 with⟨cs,rfl⟩|⟨e1,e2⟩
   ·refine⟨.agg (z0.cells.toList.take o++z.cells.toList++z0.cells.toList.drop (o+m)).toArray,?_,by simp[Value.cells]⟩;simp only[V.over,VRel];refine⟨_,I,?_⟩;unfold uZ;rw[hv];exact((q1.cells.take o).append k2.cells).append<|q1.cells.drop _
   ·have :v0.over o v.cells=v:=by
     rw[e2];cases v0 with
     |agg cs=>
      simp only[V.cells]at e1;have hs:=congrArg SizeOf.sizeOf e1;simp at hs;omega
     |_=>rfl
    rw[this];refine⟨z,k2,?_⟩;rw[e1]at hm hl0;rw[e2]at hv;simp at hm hl0 hv;subst hv;obtain rfl:o=0:=by omega
    rw[List.drop_of_length_le (l:=z0.cells.toList)<|by simp[hl0]];simp
  obtain⟨q,hn1,hn2⟩:=hnew;have hsz':q.cells.size=sz:=by have :=congrArg List.length hn2;simp only[Array.length_toList,aab,aak,aal]at this;rw[this];omega
  have hones:(z0.cells.toList.take o++z.cells.toList++z0.cells.toList.drop (o+m)).all (·.oneCell')=true:=by
   have hall:z0.cells.toList.all (·.oneCell')=true:=by
    have h0:∀j,j<sz->∃u,z0.cells.toList[j]?=some u∧u.oneCell'=true:=λj hj=>by
     have hq:=q3 j hj;have :i*sz+j<xs.length:=by omega
     refine⟨xs[i*sz+j],?_,g3.ones _<|List.getElem_mem _⟩;rw[<-hq];simp[this]
    rw[List.all_eq_true];intro u hu;obtain⟨j,hj,rfl⟩:=aat hu;obtain⟨u',e1,e2⟩:=h0 j (by simp at hj;omega);rw[List.getElem?_eq_getElem hj]at e1;cases e1;exact e2
   have hall2:=wd k2.cells h1;rw[List.all_eq_true]at hall hall2⊢;intro u hu;simp only[aai]at hu;rcases hu with(hu|hu)|hu
   ·exact hall u<|List.mem_of_mem_take hu
   ·exact hall2 u hu
   ·exact hall u<|List.mem_of_mem_drop hu
  have hset:=CRel.set (i:=i) g3 hle hn1 hsz' (by rw[hn2];exact hones);rw[hn2]at hset;have hcur:cur.toList.take (els.length*sz)=xs:=h7;have e9:xs.take (i*sz)++(z0.cells.toList.take o++z.cells.toList++z0.cells.toList.drop (o+m))++xs.drop (i*sz+sz)=xs.take (i*sz+o)++z.cells.toList++xs.drop (i*sz+o+m):=by
   apply List.ext_getElem?;intro j;have hz0:∀j,j<sz->z0.cells.toList[j]?=xs[i*sz+j]?:=λj hj=>(q3 j hj).symm;have L1:(xs.take<|i*sz).length=i*sz:=by simp;omega
   have L2:(z0.cells.toList.take o).length=o:=by simp;omega
   have L3:z.cells.toList.length=m:=by simp;omega
   have L4:(z0.cells.toList.drop<|o+m).length=sz-(o+m):=by simp;omega
   have L5:(xs.take<|i*sz+o).length=i*sz+o:=by simp;omega
   simp only[List.getElem?_append,L1,L2,L3,L4,L5,aab,List.getElem?_take,List.getElem?_drop];by_cases c1:j<i*sz
   ·simp[c1,show j<i*sz+(o+m+(sz-(o+m))) by omega,show j<i*sz+o+m by omega,show j<i*sz+o by omega]
   ·by_cases c2:j<i*sz+o
    ·simp[c1,c2,show j<i*sz+(o+m+(sz-(o+m))) by omega,show j<i*sz+o+m by omega,show j-i*sz<o+m by omega,show j-i*sz<o by omega];have :=hz0 (j-i*sz) (by omega);simp at this;rw[this];congr 1;omega
    ·by_cases c3:j<i*sz+o+m
     ·simp[c1,c2,c3,show j<i*sz+(o+m+(sz-(o+m))) by omega,show j-i*sz<o+m by omega,show¬j-i*sz<o by omega]
      congr 1;omega
     ·by_cases c4:j<i*sz+sz
      ·simp[c1,c2,c3,show j<i*sz+(o+m+(sz-(o+m))) by omega,show¬j-i*sz<o+m by omega];rw[show o+m+(j-i*sz-(o+m))=j-i*sz by omega];have :=hz0 (j-i*sz) (by omega);simp at this;rw[this];congr 1;omega
      ·simp[c1,c2,c3,show¬j<i*sz+(o+m+(sz-(o+m))) by omega]
       congr 1;omega
  rw[e9]at hset;refine⟨_,w',ρ,r1,zw hr r3 hX ⟨_,_,g1,⟨?_,.inr ⟨b,c,(cur.toList.take (i*sz+o)++z.cells.toList++cur.toList.drop (i*sz+o+m)).toArray,?_,hb,r2,by simpa using h4,h5,?_,I⟩⟩,?_⟩ (λd hd=>by rw[ho];exact hd),I⟩
  ·simp;omega
  ·simp
  ·simp;omega
  ·have e10:List.take ((els.set i<|v0.over o v.cells).length*sz) (cur.toList.take (i*sz+o)++z.cells.toList++cur.toList.drop (i*sz+o+m)).toArray.toList=xs.take (i*sz+o)++z.cells.toList++xs.drop (i*sz+o+m):=by
    simp only[List.length_set];rw[<-hcur];apply List.ext_getElem?;intro j;have K1:(cur.toList.take<|i*sz+o).length=i*sz+o:=by simp;omega
    have K2:(List.take (i*sz+o)<|List.take (els.length*sz) cur.toList).length=i*sz+o:=by simp;omega
    simp only[List.getElem?_take,List.getElem?_append,K1,K2,aab,Array.length_toList,List.getElem?_drop];by_cases c0:j<els.length*sz
    ·by_cases c1:j<i*sz+o
     ·simp[c0,c1,show j<i*sz+o+z.cells.size by omega]
     ·by_cases c2:j<i*sz+o+z.cells.size
      ·simp[c0,c1,c2]
      ·simp[c0,c1,c2,show i*sz+o+m+(j-(i*sz+o+z.cells.size))<els.length*sz by omega]
    ·simp[c0,show¬j<i*sz+o+z.cells.size by omega,show¬i*sz+o+m+(j-(i*sz+o+z.cells.size))<els.length*sz by omega]
   rw[e10];exact hset.up up
end
section
variable{P:Program}{S:Nat->Prop}{w w':World}{ρ ρ':Nat->Option Value}{h h':Nat->Ob}{a:Act}{n:Nat}{ty:TypeId}
def mO(sz:Nat):Nat->List (Nat×V)->Option (List V)
 |_,[]=>some []
 |i,(j,v)::r=>match Nat.beq i j&&Nat.beq v.cells.length sz&&v.cells.all V.one with
  |true=>match mO sz (i+1) r with
   |some vs=>some<|v::vs
   |none=>none
  |false=>none
theorem vc{sz:Nat}:∀{vs:List<|Nat×V} {ys:List<|Nat×Value} {i:Nat} {els:List V},kH S w ρ vs ys->mO sz i vs=some els->
  ys.map (·.1)=(List.range' i els.length)∧(ys.all λp=>p.2.cells.size==sz)=true∧CRel S w ρ sz els (ys.flatMap λp=>p.2.cells.toList)
 |[],ys,i,els,hp,hr=>by simp only[kH]at hp;subst hp;simp only[mO,aad]at hr;subst hr;simp[CRel]
 | (j,v)::r,ys,i,els,hp,hr=>by
  simp only[kH]at hp;obtain⟨x,zs,rfl,hx,hq⟩:=hp;simp only[mO]at hr;split at hr
  ·rename_i hc;simp only[aaa,Nat.beq_eq]at hc;split at hr
   ·rename_i vs hvs;simp only[aad]at hr;subst hr;obtain⟨h1,h2,h3⟩:=vc hq hvs;have hl:=hx.cells.length;simp only[Array.length_toList]at hl;refine⟨?_,?_,?_⟩
    ·simp[h1,hc.1.1,List.range'_succ]
    ·simp only[List.all_cons,h2,Bool.and_true,aap];rw[hl,hc.1.2]
    ·simp only[List.flatMap_cons];exact⟨x,_,I,⟨by rw[hl,hc.1.2],wd hx.cells hc.2⟩,hx,h3⟩
   ·cases hr
  ·cases hr
theorem MO{vs:List<|Nat×V}{ys:List<|Nat×Value}{m:Nat}{z:List Value}{els:List V}(hr:HRel S w ρ h)(fr:Fr a n<|fA a)(hf:h nid=.free)(G:gr (fA a) ps=some ys)(Z:kH S w ρ vs ys)(ht:P.underlying t=some (.slice e))(hz:gc P e=some sz)(hzero:rp P e=some z)
  (hp:mO sz 0 vs=some els) (hl:els.length=m) (hsm:Nat.ble (m*sz) 16777216=true) (hm:Nat.ble m 16777216=true):Does P S w ρ h a ty (.buildSlice t m ps.toArray) (some<|.sl nid) (bQ h nid<|.row e sz els) (λ_=>False):=by
 obtain⟨h1,h2,h3⟩:=vc Z hp;have J:ps.map (·.1)=List.range m:=by
  have :ps.map (·.1)=ys.map (·.1):=by rw[<-fr.parts G];simp
  rw[this,h1,hl,List.range_eq_range']
 obtain⟨w',b,g1,g2,g3,g4,g5⟩:=Cu (P:=P) (t:=t) (m:=m) fr G ht hz hzero J h2 hsm rfl w ty;have O:=h3.length;have hmm:m<=16777216:=Nat.le_of_ble_eq_true hm;have own:=Br (base:=0) g2 (aar _) (m:=m) (size:=sz) (by rw[O,hl]) (by simp only[Nat.ble_eq,maxLen];omega);refine⟨_,w',dS ρ nid<|.slice (some ⟨b,0,none⟩) m m,g1,eff_new hr hf g3 ⟨_,_,bb _ _ _,by rw[hl];exact own,h3.up<|Bb hr hf g3⟩ λb' hb'=>?_,_,I,?_⟩
 ·obtain⟨v,e1,e2⟩:=hb';rw[bb]at e1;cases e1;simp[Value.ownBlock]at e2;omega
 ·simp only[VRel];exact⟨bb _ _ _,rfl⟩
theorem Ds{z:List Value}(hz:0<z.length):∀m,(madeCells z.toArray<|m*z.length).toList=(List.replicate m z).flatten:=by
 intro m;apply List.ext_getElem?;intro j;have hl:((List.replicate m z).flatten).length=m*z.length:=by simp
 by_cases hj:j<m*z.length
 ·have hlt:j%z.length<z.length:=Nat.mod_lt _ hz;have h1:(madeCells z.toArray<|m*z.length).toList[j]?=some z[j%z.length]:=by
   simp[madeCells,hj,hlt]
  rw[h1];have key:∀(m j:Nat),j<m*z.length->((List.replicate m z).flatten)[j]?=some (z[j%z.length]'(Nat.mod_lt _ hz)):=by
   intro m
   induction m with
   |zero=>intro j hj;simp at hj
   | succ m ih=>
    intro j hj;simp only[List.replicate_succ,List.flatten_cons];by_cases hc:j<z.length
    ·rw[List.getElem?_append_left hc];simp[Nat.mod_eq_of_lt hc,hc]
    ·rw[List.getElem?_append_right (by omega),ih (j-z.length) (by rw[Nat.add_mul]at hj;omega)]
     congr 1
     have :(j-z.length)%z.length=j%z.length:=by
      conv=>rhs;rw[show j=(j-z.length)+z.length by omega]
      simp
     simp[this]
  exact(key m j hj).symm
 ·rw[List.getElem?_eq_none (by simp[madeCells];omega),List.getElem?_eq_none (by rw[hl];omega)]
theorem DP{sz:Nat}{zv:V}{z:Value}(G:z.cells.size=sz)(h1:z.cells.toList.all (·.oneCell')=true)(hv:VRel S w ρ zv z):∀m,CRel S w ρ sz (List.replicate m zv) ((List.replicate m z.cells.toList).flatten)
 |0=>by simp[CRel]
 |m+1=>by simp only[List.replicate_succ,List.flatten_cons];exact⟨z,_,I,⟨G,h1⟩,hv,DP G h1 hv m⟩
theorem LN{y:Operand}{sz by_:Nat}{z:Value}{zv:V}(hr:HRel S w ρ h)(fr:Fr a n<|fA a)(hf:h nid=.free)(hx:Opd S w ρ a x<|.int .i64 (m:Int))(hy:Opd S w ρ a y<|.int .i64 (m:Int))(ht:P.underlying t=some (.slice e))
  (hi:(P.info? e).map (λi=>(i.zero,i.size,i.bytes))=some (some z,sz,by_)) (hzs:z.cells.size=sz) (hsz:0<sz) (h1:z.cells.toList.all (·.oneCell')=true) (O:∀S w ρ,VRel S w ρ zv z) (hb:by_*m<=281474976710656) (hm:m<=maxLen):
  Does P S w ρ h a ty (.makeSlice t x y) (some<|.sl nid) (bQ h nid<|.row e sz<|List.replicate m zv) (λ_=>False):=by
 have Z:m<=9223372036854775807:=by simp only[maxLen]at hm;omega
 have hcs:madeCells z.cells (m*sz)=(List.replicate m z.cells.toList).flatten.toArray:=by rw[<-Ds (by simp;omega)];simp[hzs]
 obtain⟨w',b,g1,g2,g3,g4,g5⟩:=OM (P:=P) fr (bj hx) (bj hy) ht hi (by simpa using hb) (by simpa using Z) hcs w ty;have J:=DP (S:=S) (w:=w) (ρ:=ρ) hzs h1 (O _ _ _) m;have G:=J.length;simp only[List.length_replicate]at G;have own:=Br (base:=0) g2 (aar _) (m:=m) (size:=sz) G (by simpa using hm);refine⟨_,w',dS ρ nid<|.slice (some ⟨b,0,none⟩) m m,g1,eff_new hr hf g3 ⟨_,_,bb _ _ _,by simpa using own,J.up<|Bb hr hf g3⟩ λb' hb'=>?_,_,I,?_⟩
 ·obtain⟨v,e1,e2⟩:=hb';rw[bb]at e1;cases e1;simp[Value.ownBlock]at e2;omega
 ·simp only[VRel];exact⟨bb _ _ _,rfl⟩
theorem AM{c d:Nat}{B:Option Addr}(ht:P.underlying t=some (.slice e))(J:gc P e=some sz)(O:k<=c):(Builtin.append_ #[t,t] ty #[.slice A k c,.slice B 0 d]).run P w=.ok (.slice A k c) w:=by
 obtain⟨inf,hi,hs⟩:=Option.map_eq_some_iff.1 (show(P.info? e).map (·.size)=some sz from J);have G:(sizeOf e).run P w=.ok sz w:=by simp[sizeOf,typeInfo,hi,hs]
 cases A<;>cases B<;>simp[Builtin.append_,run_underlying ht,G,Builtin.lenOf,Builtin.firstCells,O,loadCells,loadCellsFrom,storeCells]
def vW(S:Nat->Prop)(w:World)(ρ:Nat->Option Value)(sz:Nat)(els:List V)(y:Value):Prop:=
 ∃A c xs,y=.slice A els.length c∧CRel S w ρ sz els xs∧(0<els.length->∃b off,A=some ⟨b,off,none⟩∧∀j,j<els.length*sz->w.cell? ⟨b,off+j,none⟩=xs[j]?)
theorem Pw{y:Value}(hy:VRel S w ρ (.row sz els) y):vW S w ρ sz els y:=by simp only[VRel]at hy;obtain⟨A,c,xs,rfl,h3,h4,G,J⟩:=hy;exact⟨A,c,xs,rfl,G.up up0,λO=>by obtain⟨b,off,e,_,_,Z⟩:=J.2 O;exact⟨b,off,e,Z⟩⟩
theorem Mu{y:Value}(hy:VRel S w ρ .nils y):vW S w ρ sz [] y:=by simp only[VRel]at hy;subst hy;exact⟨none,0,[],rfl,by simp[CRel],λG=>by simp at G⟩
theorem OA{id:Nat}{y:Value}(hr:HRel S w ρ h)(J:h id=.row e sz els)(hy:VRel S w ρ (.sl id) y):vW S w ρ sz els y:=by
 simp only[VRel]at hy;obtain⟨v,xs,h1,h2,O⟩:=jK hr J;rw[hy.1]at h1;cases h1;obtain⟨A,c,rfl,_⟩:=gU h2;refine⟨A,c,xs,I,O,λZ=>?_⟩;obtain⟨g,cap,hv,_⟩:=h2.form Z;injection hv with G _ hv2
 subst G;exact⟨g,0,I,λj hj=>by rw[Nat.zero_add];exact xk h2 hj⟩
theorem BC{y:Operand}{by_:Nat}{z u v:Value}{news:List V}(fr:Fr a n<|fA a)(hx:aR (fA a) x=some u)(hy:aR (fA a) y=some v)(hu:w.ownsRow 0 e sz u els.length xs)(Z:CRel S w ρ sz els xs)(hv:vW S w ρ sz news v)(ht:P.underlying t=some (.slice e))
  (hi:(P.info? e).map (λi=>(i.zero,i.size,i.bytes))=some (some z,sz,by_)) (hzs:z.cells.size=sz) (hsz:0<sz) (h63:els.length+news.length<=maxLen) (hby:(els.length+news.length)*by_<=140737488355328):
  ∃O w' ys,Runs P a ty (.call {callee:=.builtin .append,args:=#[x,y],argTypes:=#[t,t]}) w (.value O) w'∧w'.ownsRow 0 e sz O (els.length+news.length) ys∧CRel S w ρ sz (els++news) ys∧Chg u.ownBlock.toList w w'∧(O.ownBlock=u.ownBlock∨O.ownBlock=some w.heap.size):=by
 obtain⟨A,c,ns,rfl,G,hcell⟩:=hv;have hsize:gc P e=some sz:=by obtain⟨i0,hi0,J⟩:=Option.map_eq_some_iff.1 hi;simp only[Prod.mk.injEq]at J;simp[gc,hi0,J.2.1]
 by_cases hn:news=[]
 ·subst hn;simp only[CRel]at G;subst G;obtain⟨B,d,rfl,hd,_⟩:=gU hu;refine⟨.slice B els.length d,w,xs,λ_ _ _ _=>?_,by simpa using hu,by simpa using Z,Chg.refl _ _,.inl I⟩;simp only[execOp,resolve,invoke,builtin,List.map_toArray,aan,aaC,fr.eval hx,fr.eval hy];have :=AM (P:=P) (w:=w) (ty:=ty) (A:=B) (B:=A) (d:=c) ht hsize hd;simp only[aae];simp[this]
 ·have hpos:0<news.length:=List.length_pos_iff.2 hn;obtain⟨b,off,rfl,hc⟩:=hcell hpos;obtain⟨i0,hi0,J⟩:=Option.map_eq_some_iff.1 hi;simp only[Prod.mk.injEq]at J;obtain⟨hz,hs,hbb⟩:=J;obtain⟨O,w',hrun,h2,h3,_,h5⟩:=run_append_own_at (P:=P) w 0 t ty e i0 z sz by_ ht hi0 hz hs hbb hzs hsz u els.length xs hu ⟨b,off,none⟩ news.length c ns G.length
   (λj q hq=>by have hj:j<ns.length:=(List.getElem?_eq_some_iff.1 hq).1;rw[rU,hc j (by rw[<-G.length];exact hj)];exact hq) G.ones h63 hby (aar _)
  refine⟨O,w',xs++ns,λ_ _ _ _=>?_,h2,Z.append G,Chg.grown h3,h5⟩;simp only[execOp,resolve,invoke,builtin,List.map_toArray,aan,aaC,fr.eval hx,fr.eval hy];simp[hrun]
theorem Cd{e:Nat}{v:Value}(hv:w.ownsRow base e sz v k xs):v.oneCell'=true:=by obtain⟨A,c,rfl,_⟩:=gU hv;rfl
section
variable{t e:TypeId}{x y:Operand}{sz by_ nid:Nat}{z v:Value}{els news:List V}(hr:HRel S w ρ h)(fr:Fr a n (fA a))(hf:h nid=.free)(hy:aR (fA a) y=some v)(hv:vW S w ρ sz news v)(ht:P.underlying t=some (.slice e))
    (hi:(P.info? e).map (λi=>(i.zero,i.size,i.bytes))=some (some z,sz,by_)) (hzs:z.cells.size=sz) (hsz:0<sz)
include hr fr hf hy hv ht hi hzs hsz
theorem Ew{id:Nat}(hx:Opd S w ρ a x<|.sl id)(J:h id=.row e sz els)(Z:els.length+news.length<=maxLen)(hby:(els.length+news.length)*by_<=140737488355328):
  Does P S w ρ h a ty (.call {callee:=.builtin .append,args:=#[x,y],argTypes:=#[t,t]}) (some<|.sl nid) (bQ (bQ h id .gone) nid<|.row e sz<|els++news) (·=id):=by
 obtain⟨u,k1,O⟩:=hx;simp only[VRel]at O;obtain⟨u',xs,h1,h2,h3⟩:=jK hr J;rw[O.1]at h1;cases h1;obtain⟨v',w',ys,g1,g2,g3,g4,G⟩:=BC (P:=P) (ty:=ty) fr k1 hy h2 h3 hv ht hi hzs hsz Z hby;have hX:∀b,b∈u.ownBlock.toList->own ρ id (h id) b:=λb hb=>by simp at hb;rw[J];exact⟨u,O.1,hb⟩
 have hn:ρ nid=none:=by have :=hr.ob nid;rw[hf]at this;exact this
 have up:Up S S w w' ρ (dS ρ nid v'):=by
  refine⟨λ_ h=>h,λb hb hlt=>g4.block b hlt λhc=>hr.sep id b (hX b hc) hb,λi q hq=>?_⟩;have :i≠nid:=λe=>by subst e;rw[hn]at hq;cases hq
  rw[rB _ _ this];exact hq
 refine⟨_,w',dS ρ nid v',g1,FR hr hf (by rw[J];simp) g4 hX ⟨v',ys,bb _ _ _,by simpa using g2,g3.up up⟩ λb hb=>?_,_,rfl,?_⟩
 ·obtain⟨q,e1,e2⟩:=hb;rw[bb]at e1;cases e1;rcases G with G|G
  ·exact .inl (by rw[J];exact⟨u,O.1,by rw[<-G];exact e2⟩)
  ·rw[G]at e2;simp at e2;exact .inr (by omega)
 ·simp only[VRel];exact⟨bb _ _ _,Cd g2⟩
theorem Lz(hx:Opd S w ρ a x .nils)(O:news.length<=maxLen)(Z:news.length*by_<=140737488355328):
  Does P S w ρ h a ty (.call {callee:=.builtin .append,args:=#[x,y],argTypes:=#[t,t]}) (some<|.sl nid) (bQ h nid<|.row e sz news) (λ_=>False):=by
 obtain⟨u,k1,k2⟩:=hx;simp only[VRel]at k2;subst k2;obtain⟨v',w',ys,g1,g2,g3,g4,G⟩:=BC (P:=P) (ty:=ty) (els:=[]) (xs:=[]) fr k1 hy (World.ownsRow_nil w 0 e sz) (by simp[CRel]) hv ht hi hzs hsz (by simpa using O) (by simpa using Z);have up:=Bb (x:=v') hr hf g4;simp only[aae,Nat.zero_add,aax]at g2 g3;refine⟨_,w',dS ρ nid v',g1,eff_new hr hf g4 ⟨v',ys,bb _ _ _,g2,g3.up up⟩ λb hb=>?_,_,I,?_⟩
 ·obtain⟨q,e1,J⟩:=hb;rw[bb]at e1;cases e1;rcases G with G|G
  ·rw[G]at J;cases J
  ·rw[G]at J;simp at J;omega
 ·simp only[VRel];exact⟨bb _ _ _,Cd g2⟩
end
theorem GZ{y:Operand}{id:Nat}(hr:HRel S w ρ h)(fr:Fr a n<|fA a)(hf:h nid=.free)(hx:Opd S w ρ a x<|.sl id)(hy:Opd S w ρ a y<|.int .i64 (k:Int))(ho:h id=.row e sz els)(ht:P.underlying t=some (.slice e))(hz:gc P e=some sz)(hk:k<=els.length):
  Does P S w ρ h a ty (.slice t x none (some y) none) (some<|.sl nid) (bQ (bQ h id .gone) nid<|.row e sz<|els.take k) (·=id):=by
 obtain⟨u,k1,k2⟩:=hx;simp only[VRel]at k2;obtain⟨u',xs,h1,h2,h3⟩:=jK hr ho;rw[k2.1]at h1;cases h1;obtain⟨A,c,rfl,hc,hcm⟩:=gU h2;have G:=LJ (P:=P) (w:=w) (ty:=ty) (lo:=none) (hi:=some y) (i:=0) (j:=k) fr ht hz k1 (.inl ⟨rfl,rfl⟩) (.inr ⟨y,rfl,bj hy⟩) (aar _) hk hc;have eA:(if c=0 then A else A.map (·.add (0*sz)))=A:=by
  split
  ·rfl
  ·cases A with
   |none=>rfl
   |some ad=>simp[Addr.add]
 rw[eA]at G;simp only[Nat.sub_zero]at G;have hn:ρ nid=none:=by have :=hr.ob nid;rw[hf]at this;exact this
 have up:Up S S w w ρ (dS ρ nid<|.slice A k c):=by
  refine⟨λ_ h=>h,λb hb hlt=>I,λi q hq=>?_⟩;have :i≠nid:=λe=>by subst e;rw[hn]at hq;cases hq
  rw[rB _ _ this];exact hq
 have Z:(els.take k).length=k:=by simp;omega
 have own':w.ownsRow 0 e sz (.slice A k c) k (xs.take<|k*sz):=by
  have J:k*sz<=els.length*sz:=Nat.mul_le_mul_right _ hk;refine⟨by rw[aak,h2.1,Nat.min_eq_left J],?_⟩;rcases h2.2 with⟨h0,h0'⟩|⟨g,cap,cur,hv,q1,q2,q3,q4,q5,q6⟩
  ·injection h0 with O e2 e3
   subst O e3;exact .inl ⟨by rw[show k=0 by omega],by omega⟩
  ·injection hv with O e2 e3
   subst O e3;refine .inr ⟨g,c,cur,I,q1,q2,by omega,q4,q5,?_⟩;rw[<-q6,List.take_take,Nat.min_eq_left J]
 refine⟨_,w,dS ρ nid<|.slice A k c,G,FR (X:=[]) hr hf (by rw[ho];simp) (Chg.refl _ _) (by simp) ⟨_,_,bb _ _ _,by rw[Z];exact own',(h3.take k).up up⟩ λb hb=>?_,_,rfl,?_⟩
 ·obtain⟨q,O,e2⟩:=hb;rw[bb]at O;cases O;exact .inl (by rw[ho];exact⟨_,k2.1,by cases A<;>simp[Value.ownBlock]at e2⊢;exact e2⟩)
 ·simp only[VRel];exact⟨bb _ _ _,rfl⟩
theorem fE{id:Nat}(hr:HRel S w ρ h):HRel (λb=>S b∨own ρ id (h id) b) w ρ (bQ h id .gone)∧Up S (λb=>S b∨own ρ id (h id) b) w w ρ ρ:=by
 have up:Up S (λb=>S b∨own ρ id (h id) b) w w ρ ρ:=⟨λ_ h=>.inl h,λ_ _ _=>rfl,λ_ _ h=>h⟩;have back:∀i b,own ρ i (bQ h id .gone i) b->i≠id∧own ρ i (h i) b:=λi b hb=>by
  by_cases hi:i=id
  ·subst hi;rw[bD]at hb;exact hb.elim
  ·rw[co _ _ hi]at hb;exact⟨hi,hb⟩
 refine⟨⟨λi=>?_,λi b hb=>?_,λi j b G J=>hr.dis i j b (back i b G).2 (back j b J).2,hr.slt.up up λb hb=>?_⟩,up⟩
 ·by_cases hi:i=id
  ·subst hi;rw[bD];trivial
  ·rw[co _ _ hi];refine(hr.ob i).up up (λhf=>?_) λ_ _=>I;have :=hr.ob i;rw[hf]at this;exact this
 ·obtain⟨h1,h2⟩:=back i b hb;rintro(O|O)
  ·exact hr.sep i b h2 O
  ·exact h1<|hr.dis i id b h2 O
 ·rcases hb with hb|hb
  ·exact hr.slt b hb
  ·exact gv (hr.ob id) hb
theorem tm{id:Nat}{x:Value}(hr:HRel S w ρ h)(O:h id=.row e sz els)(hp:pureL els=true)(hx:VRel S w ρ (.sl id) x):VRel (λb=>S b∨own ρ id (h id) b) w ρ (.row sz els) x:=by
 simp only[VRel]at hx;obtain⟨v,xs,h1,h2,Z⟩:=jK hr O;rw[hx.1]at h1;cases h1;obtain⟨A,c,rfl,hc,G⟩:=gU h2;simp only[VRel];refine⟨A,c,xs,I,hc,G,(Z.up (fE hr).2).pure hp,Z.length,λhn=>?_⟩;obtain⟨g,cap,hv,_,J⟩:=h2.form hn;injection hv with e1 e2 e3
 subst e1 e3;exact⟨g,0,I,.inr (by rw[O];exact⟨_,hx.1,I⟩),J,λj hj=>by rw[Nat.zero_add];exact xk h2 hj⟩
theorem IZ{id o:Nat}{x:Value}(hr:HRel S w ρ h)(J:h id=.var t cs)(O:pureL cs=true)(hx:VRel S w ρ (.ptr id o) x):VRel (λb=>S b∨own ρ id (h id) b) w ρ (.box cs o) x:=by simp only[VRel]at hx;obtain⟨b,xs,h1,h2,Z⟩:=ub hr J;obtain⟨b',G,rfl⟩:=hx;rw[h1]at G;simp only[aad,Value.pointer.injEq,Addr.mk.injEq,and_true]at G;subst G;simp only[VRel];exact⟨b,0,xs,by simp,.inr (by rw[J];exact h1),h2.lt,(Z.up (fE hr).2).pure O,λj hj=>by rw[Nat.zero_add,h2.cell]⟩
end
abbrev Fm:=List (Option V)
def Fm.get:Fm->Nat->Option V
 |[],_=>none
 |x::_,0=>x
 |_::r,i+1=>Fm.get r i
def Fm.put{α:Type}:Fm->Nat->Option V->(Fm->α)->α
 |[],_,_,c=>c []
 |_::r,0,v,c=>c<|v::r
 |x::r,i+1,v,c=>Fm.put r i v λG=>c<|x::G
variable{α:Type}
def Fm.puto(F:Fm)(d:Option Tmp)(v:Option V)(c:Fm->α):α:=match d with
 |some d=>F.put d v c
 |none=>c F
def hZ(n:Nat)(c:Nat->α):α:=match n with
 |0=>c 0
 |m+1=>c<|Nat.succ m
def Ih(n:Int)(c:Int->α):α:=match n with
 |.ofNat m=>hZ m λm=>c<|.ofNat m
 |.negSucc m=>hZ m λm=>c<|.negSucc m
def listK{α β:Type}:List β->(List β->α)->α
 |[],c=>c []
 |x::r,c=>listK r λG=>c<|x::G
theorem dY(n:Nat)(c:Nat->α):hZ n c=c n:=by cases n<;>rfl
theorem Hx(n:Int)(c:Int->α):Ih n c=c n:=by cases n<;>simp[Ih,dY]
theorem dl{α β:Type}:∀(l:List β) (c:List β->α),listK l c=c l
 |[],c=>rfl
 |x::r,c=>by simp[listK,dl r]
theorem Fm.get_eq:∀(F:Fm) (i:Nat),F.get i=(F[i]?).bind id
 |[],i=>by simp[Fm.get]
 |x::r,0=>by simp[Fm.get]
 |x::r,i+1=>by simp[Fm.get,Fm.get_eq r i]
theorem Fm.put_eq{α:Type}:∀(F:Fm) (i:Nat) (v:Option V) (c:Fm->α),F.put i v c=c (F.set i v)
 |[],i,v,c=>by simp[Fm.put]
 |x::r,0,v,c=>by simp[Fm.put]
 |x::r,i+1,v,c=>by simp[Fm.put,Fm.put_eq r i]
def Fm.seto(F:Fm)(d:Option Tmp)(v:Option V):Fm:=match d with
 |some d=>F.set d v
 |none=>F
theorem Fm.puto_eq(F:Fm)(d:Option Tmp)(v:Option V)(c:Fm->α):F.puto d v c=c (F.seto d v):=by
 cases d with
 |none=>rfl
 |some d=>exact Fm.put_eq F d v c
inductive TK where
 |sc
 |bool
 |str
 |sl (e:TypeId)
 |struct (fs:List (Nat×Nat×Bool))
 |arr (len:Nat) (e:TypeId)
structure TD where
 size:Nat
 bytes:Nat
 zero:V
 kind:TK
structure Tab where
 frc:Bool
 ty:TypeId->Option TD
 fn:FuncId->Option Func
 nat:FuncId->List V->Option V
 keep:FuncId->Bool
def Ke:Value->V->Bool
 |.int k n,.int k' m=>k==k'&&n==m
 |.bool b,.bool c=>b==c
 |.string s,.str l=>s.data.toList==l
 |.pointer none,.nilp=>true
 |.slice none 0 0,.nils=>true
 |.map none,.raw (.map none)=>true
 |_,_=>false
def JW:List Value->List V->Bool
 |[],[]=>true
 |x::r,v::q=>Ke x v&&JW r q
 |_,_=>false
def zEq:Value->V->Bool
 |.agg cs,.agg vs=>JW cs.toList vs
 |x,v=>Ke x v
def wy(P:Program)(t:TypeId):Nat->List (Nat×Nat×Bool)->Bool
 |_,[]=>true
 |i,(o,s,b)::r=>(match b with
  |true=>tY P t i==some o
  |false=>ua P t i==some (o,s))&&qh P t i==some o&&wy P t (i+1) r
def oJ(P:Program)(t:TypeId)(size:Nat):TK->Bool
 |.sc=>fy P t
 |.bool=>fy P t&&match P.underlying t with|some .bool=>true|_=>false
 |.str=>fy P t&&match P.underlying t with|some .string=>true|_=>false
 |.sl e=>fy P t&&match P.underlying t with|some (.slice G)=>e==G|_=>false
 |.struct fs=>mR P t==some size&&zx P t==some (fs.map λp=>(p.1,p.2.1))&&wy P t 0 fs
 |.arr len e=>mR P t==some size&&match P.underlying t with|some (.array len' G)=>len==len'&&e==G|_=>false
def tdB(P:Program)(t:TypeId)(d:TD):Bool:=
 match P.info? t with
 |some inf=>match inf.zero with
  |some z=>inf.size==d.size&&inf.bytes==d.bytes&&zEq z d.zero&&z.cells.size==d.size&&oJ P t d.size d.kind&&z.cells.toList.all (·.oneCell')
  |none=>false
 |none=>false
structure TdOk (P:Program) (t:TypeId) (d:TD):Prop where
 size:gc P t=some d.size
 info:∃z:Value,(P.info? t).map (λi=>(i.zero,i.size,i.bytes))=some (some z,d.size,d.bytes)∧(∀S w ρ,VRel S w ρ d.zero z)∧z.cells.size=d.size∧z.cells.toList.all (·.oneCell')=true
 kind:oJ P t d.size d.kind=true
theorem GT{w:World}{x:Value}{v:V}(h:Ke x v=true):VRel S w ρ v x:=by
 unfold Ke at h;split at h
 ·simp only[aaa,aap]at h;simp only[VRel];rw[h.1,h.2]
 ·simp only[aap]at h;simp only[VRel];rw[h]
 ·simp only[aap]at h;simp only[VRel];rw[<-h]
 ·simp only[VRel]
 ·simp only[VRel]
 ·simp only[VRel];exact⟨trivial,rfl⟩
 ·cases h
theorem Hu{S:Nat->Prop}{w:World}{ρ:Nat->Option Value}:∀{xs:List Value} {vs:List V},JW xs vs=true->LRel S w ρ vs xs
 |[],[],h=>by simp[LRel]
 |x::r,v::q,h=>by simp only[JW,aaa]at h;exact⟨x,r,I,GT h.1,Hu h.2⟩
 |[],_::_,h=>by cases h
 |_::_,[],h=>by cases h
theorem Eg{w:World}{x:Value}{v:V}(h:zEq x v=true):VRel S w ρ v x:=by
 unfold zEq at h;split at h
 ·simp only[VRel];exact⟨_,rfl,Hu h⟩
 ·exact GT h
variable{P:Program}{d:TD}
theorem Qo(h:tdB P t d=true):TdOk P t d:=by
 unfold tdB at h;split at h
 ·rename_i inf hi;split at h
  ·rename_i z G;simp only[aaa,aap]at h;obtain⟨⟨⟨⟨⟨h1,h2⟩,J⟩,O⟩,Z⟩,h6⟩:=h;exact⟨by simp[gc,hi,h1],⟨z,by simp[hi,G,h1,h2],λS w ρ=>Eg J,O,h6⟩,Z⟩
  ·cases h
 ·cases h
theorem TdOk.zeroT(h:TdOk P t d):∃z,rp P t=some z∧∀S w ρ,LRel S w ρ d.zero.cells z:=by obtain⟨z,h1,h2,_⟩:=h.info;obtain⟨J,hi0,G⟩:=Option.map_eq_some_iff.1 h1;simp only[Prod.mk.injEq]at G;exact⟨z.cells.toList,by unfold Go.Proofs.YthnohcipianijaaGreatDoor.rp;simp[hi0,G.1],λS w ρ=>(h2 S w ρ).cells⟩
def TD.agg(d:TD):Bool:=match d.kind with
 |.struct _=>true
 |.arr _ _=>true
 |_=>false
theorem TdOk.sc(h:TdOk P t d)(O:d.agg=false):fy P t=true:=by
 have G:=h.kind;unfold TD.agg at O;cases J:d.kind with
 |sc=>rw[J]at G;exact G
 |bool=>rw[J]at G;simp only[oJ,aaa]at G;exact G.1
 |str=>rw[J]at G;simp only[oJ,aaa]at G;exact G.1
 |sl e=>rw[J]at G;simp only[oJ,aaa]at G;exact G.1
 |struct fs=>rw[J]at O;cases O
 |arr _ _=>rw[J]at O;cases O
theorem TdOk.ag(h:TdOk P t d)(J:d.agg=true):mR P t=some d.size:=by
 have G:=h.kind;unfold TD.agg at J;cases O:d.kind with
 |struct fs=>rw[O]at G;simp only[oJ,aaa,aap]at G;exact G.1.1
 |arr _ _=>rw[O]at G;simp only[oJ,aaa,aap]at G;exact G.1
 |_=>rw[O]at J;cases J
theorem TdOk.bool(h:TdOk P t d)(J:d.kind=.bool):P.underlying t=some .bool:=by
 have G:=h.kind;rw[J]at G;simp only[oJ,aaa]at G;have :=G.2;split at this
 ·assumption
 ·cases this
theorem TdOk.str(h:TdOk P t d)(J:d.kind=.str):P.underlying t=some .string:=by
 have G:=h.kind;rw[J]at G;simp only[oJ,aaa]at G;have :=G.2;split at this
 ·assumption
 ·cases this
theorem TdOk.sl(h:TdOk P t d)(J:d.kind=.sl e):P.underlying t=some (.slice e):=by
 have G:=h.kind;rw[J]at G;simp only[oJ,aaa]at G;have :=G.2;split at this
 ·rename_i Z O;simp only[aap]at this;rw[this];exact O
 ·cases this
theorem TdOk.arr(h:TdOk P t d)(J:d.kind=.arr n e):P.underlying t=some (.array n e):=by
 have G:=h.kind;rw[J]at G;simp only[oJ,aaa]at G;have :=G.2;split at this
 ·rename_i Z e' O;simp only[aaa,aap]at this;rw[this.1,this.2];exact O
 ·cases this
theorem AT{P:Program}{t:TypeId}:∀{fs:List<|Nat×Nat×Bool} {k:Nat},wy P t k fs=true->∀i o s b,fs[i]?=some (o,s,b)->qh P t (k+i)=some o∧(b=true->tY P t (k+i)=some o)∧(b=false->ua P t (k+i)=some (o,s))
 |[],k,h,i,o,s,b,hi=>by simp at hi
 |(o',s',G)::r,k,h,0,o,s,b,hi=>by
  simp only[List.getElem?_cons_zero,aad,Prod.mk.injEq]at hi;obtain⟨rfl,rfl,rfl⟩:=hi;simp only[wy,aaa,aap]at h;refine⟨h.1.2,λhb=>?_,λhb=>?_⟩
  ·subst hb;have :=h.1.1;simpa using this
  ·subst hb;have :=h.1.1;simpa using this
 |(o',s',G)::r,k,h,i+1,o,s,b,hi=>by simp only[wy,aaa]at h;have :=AT h.2 i o s b (by simpa using hi);rw[show k+1+i=k+(i+1) by omega]at this;exact this
theorem TdOk.fields{fs:List<|Nat×Nat×Bool}(h:TdOk P t d)(J:d.kind=.struct fs):zx P t=some (fs.map λp=>(p.1,p.2.1))∧∀i o s b,fs[i]?=some (o,s,b)->qh P t i=some o∧(b=true->tY P t i=some o)∧(b=false->ua P t i=some (o,s)):=by
 have G:=h.kind;rw[J]at G;simp only[oJ,aaa,aap]at G;refine⟨G.1.2,λi o s b hi=>?_⟩;have :=AT G.2 i o s b hi
 rwa [Nat.zero_add]at this
structure TabOk (P:Program) (T:Tab):Prop where
 ty:∀t d,T.ty t=some d->TdOk P t d
 fn:∀i f,T.fn i=some f->P.funcs[i]?=some f∧cZ P i=true
 nat:∀i vs v,T.nat i vs=some v->cZ P i=true∧∀S w ρ xs,LRel S w ρ vs xs->∃x,VRel S w ρ v x∧Calls P i xs.toArray w λe w'=>e=.returned x∧w=w'
structure FRel (S:Nat->Prop) (w:World) (ρ:Nat->Option Value) (a:Act) (n:Nat) (F:Fm):Prop where
 size:a.tmps.size=n
 defers:a.defers=[]
 gl:∀p∈ze,VRel S w ρ0 (.box p.2 0) (.pointer (some ⟨p.1,0,none⟩))
 len:F.length<=n
 get:∀i v,F.get i=some v->∃x,a.tmps[i]?=some x∧VRel S w ρ v x
section
variable{S S':Nat->Prop}{w w':World}{ρ ρ':Nat->Option Value}{a:Act}{n:Nat}{F:Fm}
theorem FRel.fr(h:FRel S w ρ a n F):Fr a n (fA a):=⟨h.size,h.defers,λ_ _ h=>h⟩
theorem FRel.up(u:Up S S' w w' ρ ρ')(h:FRel S w ρ a n F):FRel S' w' ρ' a n F:=
 ⟨h.size,h.defers,λp G=>(h.gl p G).up u.z,h.len,λi v hv=>by obtain⟨x,h1,h2⟩:=h.get i v hv;exact⟨x,h1,h2.up u⟩⟩
theorem FRel.set(h:FRel S w ρ a n F)(d:Option Tmp){v:Option V}{x:Value}(hx:∀u,v=some u->VRel S w ρ u x):FRel S w ρ (a.put d x) n (F.seto d v):=by
 cases d with
 |none=>exact h
 | some d=>
  refine⟨by simp[Act.put,h.size],h.defers,h.gl,by simp[Fm.seto];exact h.len,λi u hu=>?_⟩;simp only[Fm.seto,Fm.get_eq,List.getElem?_set]at hu;simp only[Act.put,Array.getElem?_setIfInBounds,h.size];by_cases hid:d=i
  ·subst hid;simp only[if_true]at hu⊢;split at hu
   ·rename_i hlt;simp only[Option.bind_some,id_eq]at hu;exact⟨x,by simp[aaz hlt h.len],hx u hu⟩
   ·cases hu
  ·simp only[if_neg hid]at hu⊢;exact h.get i u (by rw[Fm.get_eq];exact hu)
end
def JT:Value->Option V
 |.int k n=>some<|.int k n
 |.bool b=>some<|.bool b
 |.string s=>some<|.str s.data.toList
 |.pointer none=>some .nilp
 |.slice none 0 0=>some .nils
 |_=>none
def DR:List Value->Option (List V)
 |[]=>some []
 |v::r=>match JT v with
  |some x=>match DR r with
   |some xs=>some<|x::xs
   |none=>none
  |none=>none
def ofV:Value->Option V
 |.agg cs=>match DR cs.toList with
  |some l=>some<|.agg l
  |none=>none
 |v=>JT v
def AQ:List (Nat×List V)->Nat->Option (List V)
 |[],_=>none
 |(i,cs)::r,j=>match Nat.beq i j with
  |true=>some cs
  |false=>AQ r j
theorem Bf:∀{l:List<|Nat×List V} {j:Nat} {cs:List V},AQ l j=some cs->(j,cs)∈l
 |[],j,cs,h=>by cases h
 | (i,c)::r,j,cs,h=>by
  simp only[AQ]at h;split at h
  ·rename_i hb;have :=aag hb;injection h with h;subst this h;exact List.mem_cons_self
  ·exact List.mem_cons_of_mem _<|Bf h
def aO(F:Fm):Operand->Option V
 |.tmp t=>F.get t
 |.const v=>ofV v
 |.global g=>match AQ ze g with
  |some cs=>some<|.box cs 0
  |none=>none
 |.func g=>some<|.clo g []
def gd(F:Fm):List Operand->Option (List V)
 |[]=>some []
 |x::r=>match aO F x with
  |some v=>match gd F r with
   |some vs=>some<|v::vs
   |none=>none
  |none=>none
def ov(F:Fm):List (Nat×Operand)->Option (List<|Nat×V)
 |[]=>some []
 |(i,x)::r=>match aO F x with
  |some v=>match ov F r with
   |some vs=>some<|(i,v)::vs
   |none=>none
  |none=>none
section
variable{S S':Nat->Prop}{w w':World}{ρ ρ':Nat->Option Value}{a:Act}{n:Nat}{F:Fm}
theorem HH{x:Value}{v:V}(h:JT x=some v):VRel S w ρ v x:=by
 unfold JT at h;split at h<;>first|(simp only[aad]at h;subst h;simp only[VRel];done)|cases h
theorem Ia:∀{xs:List Value} {vs:List V},DR xs=some vs->LRel S w ρ vs xs
 |[],vs,h=>by simp only[DR,aad]at h;subst h;simp[LRel]
 | x::r,vs,h=>by
  simp only[DR]at h;split at h
  ·rename_i v hv;split at h
   ·rename_i us hu;simp only[aad]at h;subst h;exact⟨x,r,I,HH hv,Ia hu⟩
   ·cases h
  ·cases h
theorem RI{x:Value}{v:V}(h:ofV x=some v):VRel S w ρ v x:=by
 unfold ofV at h;split at h
 ·split at h
  ·rename_i l G;simp only[aad]at h;subst h;simp only[VRel];exact⟨_,rfl,Ia G⟩
  ·cases h
 ·exact HH h
theorem au(G:FRel S w ρ a n F){v:V}(h:aO F x=some v):Opd S w ρ a x v:=by
 unfold aO at h;split at h
 ·rename_i t;obtain⟨y,h1,h2⟩:=G.get t v h;exact⟨y,h1,h2⟩
 ·rename_i c;exact⟨c,I,RI h⟩
 ·rename_i g;split at h
  ·rename_i cs J;injection h with h;subst h
   exact⟨_,I,(G.gl _<|Bf J).pure<|by rfl⟩
  ·cases h
 ·rename_i g;injection h with h;subst h
  exact⟨_,rfl,by simp only[VRel,LRel];exact⟨[],rfl,rfl⟩⟩
theorem pk(hF:FRel S w ρ a n F):∀{l:List Operand} {vs:List V},gd F l=some vs->∃xs,zf (fA a) l=some xs∧LRel S w ρ vs xs
 |[],vs,h=>by simp only[gd,aad]at h;subst h;exact⟨[],rfl,by simp[LRel]⟩
 | x::r,vs,h=>by
  simp only[gd]at h;split at h
  ·rename_i v hv;split at h
   ·rename_i us hu;simp only[aad]at h;subst h;obtain⟨y,h1,h2⟩:=au hF hv;obtain⟨ys,h3,h4⟩:=pk hF hu;exact⟨y::ys,by simp only[zf,h1,h3],⟨y,ys,rfl,h2,h4⟩⟩
   ·cases h
  ·cases h
theorem sv(hF:FRel S w ρ a n F):∀{l:List<|Nat×Operand} {vs:List<|Nat×V},ov F l=some vs->∃ys,gr (fA a) l=some ys∧kH S w ρ vs ys
 |[],vs,h=>by simp only[ov,aad]at h;subst h;exact⟨[],rfl,by simp[kH]⟩
 | (i,x)::r,vs,h=>by
  simp only[ov]at h;split at h
  ·rename_i v hv;split at h
   ·rename_i us hu;simp only[aad]at h;subst h;obtain⟨y,h1,h2⟩:=au hF hv;obtain⟨ys,h3,h4⟩:=sv hF hu;exact⟨(i,y)::ys,by simp only[gr,h1,h3],⟨y,ys,rfl,h2,h4⟩⟩
   ·cases h
  ·cases h
end
def iEq:Int->Int->Bool
 |.ofNat a,.ofNat b=>Nat.beq a b
 |.negSucc a,.negSucc b=>Nat.beq a b
 |_,_=>false
def iLt:Int->Int->Bool
 |.ofNat a,.ofNat b=>Nat.blt a b
 |.negSucc a,.negSucc b=>Nat.blt b a
 |.negSucc _,.ofNat _=>true
 |.ofNat _,.negSucc _=>false
def inR:Int->Bool
 |.ofNat a=>Nat.ble a 9223372036854775807
 |.negSucc a=>Nat.ble a 9223372036854775807
def lEq:YB->YB->Bool
 |[],[]=>true
 |a::r,b::q=>match Nat.beq a.toNat b.toNat with
  |true=>lEq r q
  |false=>false
 |_,_=>false
def kEq:IntKind->IntKind->Bool
 |.i64,.i64=>true
 |.u8,.u8=>true
 |_,_=>false
theorem yO(m l:Int):iEq m l=(m==l):=by rw[Bool.eq_iff_iff];cases m<;>cases l<;>simp[iEq]<;>omega
theorem vY(m l:Int):iLt m l=decide (m<l):=by rw[Bool.eq_iff_iff];cases m<;>cases l<;>simp[iLt]<;>omega
theorem Rr{n:Int}(h:inR n=true):-9223372036854775808<=n∧n<=9223372036854775807:=by
 cases n with
 |ofNat a=>simp only[inR,Nat.ble_eq]at h;simp only[Int.ofNat_eq_natCast];omega
 |negSucc a=>simp only[inR,Nat.ble_eq]at h;omega
theorem wi:∀(m l:YB),lEq m l=(m==l)
 |[],[]=>rfl
 |[],_::_=>rfl
 |_::_,[]=>rfl
 | a::r,b::q=>by
  simp only[lEq];split
  ·rename_i hb;have :a=b:=UInt8.toNat_inj.1 (aag hb);subst this;simp[wi r q]
  ·rename_i hb;have :a≠b:=λe=>by subst e;simp at hb
   simp[this]
theorem Ql{k k':IntKind}(h:kEq k k'=true):k=k':=by
 unfold kEq at h;split at h<;>first|rfl|cases h
def mkB(b:Bool):Option V:=match b with
 |true=>some<|.bool true
 |false=>some<|.bool false
theorem QH(b:Bool):mkB b=some (.bool b):=by cases b<;>rfl
def rz(f:Bool)(fast slow:Bool):Option V:=match f with
 |true=>mkB fast
 |false=>some<|.bool slow
theorem kI{f fast slow:Bool}{v:V}(G:fast=slow)(h:rz f fast slow=some v):v=.bool slow:=by
 subst G;unfold rz at h;split at h
 ·rw[QH]at h;simpa using h.symm
 ·simpa using h.symm
def Jl(f:Bool)(k:IntKind)(n:Int):Option V:=match f with
 |true=>match k with
  |.i64=>Ih n λn=>match inR n with
   |true=>some<|.int .i64 n
   |false=>none
  |_=>none
 |false=>some<|.int k<|k.wrap n
theorem GX{f:Bool}{k:IntKind}{n:Int}{v:V}(h:Jl f k n=some v):v=.int k (k.wrap n):=by
 unfold Jl at h;split at h
 ·split at h
  ·rw[Hx]at h;split at h
   ·rename_i hr;have e:IntKind.i64.wrap n=n:=IntWalk.i64_in _ (by have :=Rr hr;omega);rw[e];simpa using h.symm
   ·cases h
  ·cases h
 ·simpa using h.symm
def No (T:Tab) (op:BinOp) (t:TypeId):V->V->Option V
 |.int k m,.int k' l=>match kEq k k' with
  |false=>none
  |true=>match op with
   |.eql=>rz T.frc (iEq m l)<|m==l
   |.neq=>rz T.frc (!iEq m l)<|m !=l
   |.lss=>rz T.frc (iLt m l)<|decide<|m<l
   |.gtr=>rz T.frc (iLt l m)<|decide<|l<m
   |.leq=>rz T.frc (!iLt l m)<|decide<|m<=l
   |.geq=>rz T.frc (!iLt m l)<|decide<|l<=m
   |.add=>Jl T.frc k<|m+l
   |.sub=>Jl T.frc k<|m-l
   |_=>none
 |.str m,.str l=>match op with
  |.eql=>rz T.frc (lEq m l)<|m==l
  |.neq=>rz T.frc (!lEq m l)<|m !=l
  |.add=>match T.frc with
   |true=>match Nat.ble (m.length+l.length) 9223372036854775807 with
    |true=>listK (m++l) λr=>some<|.str r
    |false=>none
   |false=>none
  |_=>none
 |.bool m,.bool l=>match T.ty t with
  |some ⟨_,_,_,.bool⟩=>match op with
   |.eql=>rz T.frc (m==l)<|m==l
   |.neq=>rz T.frc (m !=l)<|m !=l
   |_=>none
  |_=>none
 |_,_=>none
def atV:List V->Nat->Option V
 |[],_=>none
 |x::_,0=>some x
 |_::r,i+1=>atV r i
theorem oe:∀(l:List V) (i:Nat),atV l i=l[i]?
 |[],i=>by simp[atV]
 |x::r,0=>by simp[atV]
 |x::r,i+1=>by simp[atV,oe r i]
def atB:YB->Nat->Option UInt8
 |[],_=>none
 |x::_,0=>some x
 |_::r,i+1=>atB r i
theorem Kr:∀(l:YB) (i:Nat),atB l i=l[i]?
 |[],i=>by simp[atB]
 |x::r,0=>by simp[atB]
 |x::r,i+1=>by simp[atB,Kr r i]
def atF:List (Nat×Nat×Bool)->Nat->Option (Nat×Nat×Bool)
 |[],_=>none
 |x::_,0=>some x
 |_::r,i+1=>atF r i
theorem Gd:∀(l:List<|Nat×Nat×Bool) (i:Nat),atF l i=l[i]?
 |[],i=>by simp[atF]
 |x::r,0=>by simp[atF]
 |x::r,i+1=>by simp[atF,Gd r i]
def Ju(T:Tab)(t:TypeId)(i:Nat):Option (Nat×Nat×Bool):=match T.ty t with
 |some ⟨_,_,_,.struct fs⟩=>atF fs i
 |_=>none
def zu:List V->Nat->List V
 |l,0=>l
 |[],_+1=>[]
 |_::r,i+1=>zu r i
theorem xv:∀(l:List V) (i:Nat),zu l i=l.drop i
 |[],0=>rfl
 |_::_,0=>rfl
 |[],i+1=>by simp[zu]
 |_::r,i+1=>by simp[zu,xv r i]
def xd{α:Type}:List V->Nat->(List V->Option α)->Option α
 |_,0,c=>c []
 |[],_+1,_=>none
 |x::r,i+1,c=>xd r i λG=>c<|x::G
theorem wR{α:Type}:∀{l:List V} {i:Nat} {c:List V->Option α} {v:α},xd l i c=some v->i<=l.length∧c (l.take i)=some v
 |l,0,c,v,h=>by simpa[xd]using h
 |[],i+1,c,v,h=>by simp[xd]at h
 |x::r,i+1,c,v,h=>by simp only[xd]at h;have :=wR h;simpa using this
def qF(d:TD)(cs:List V)(o:Nat):Option V:=match d.agg with
 |true=>match Nat.blt 0 d.size with
  |true=>xd (zu cs o) d.size λl=>some<|.agg l
  |false=>none
 |false=>atV cs o
def MX(f:Bool)(m l:Int):Option V:=match f with
 |true=>match iLt m l with
  |true=>some<|.int .i64 l
  |false=>some<|.int .i64 m
 |false=>some<|.int .i64<|max m l
theorem OU{f:Bool}{m l:Int}{v:V}(h:MX f m l=some v):v=.int .i64 (max m l):=by
 unfold MX at h;split at h
 ·split at h
  ·rename_i hb;rw[vY]at hb;simp only[aaj]at hb;injection h with h;rw[<-h,Int.max_eq_right<|by omega]
  ·rename_i hb;rw[vY]at hb;simp only[decide_eq_false_iff_not]at hb;injection h with h;rw[<-h,Int.max_eq_left<|by omega]
 ·injection h with h;exact h.symm
def qf (T:Tab) (h:Nat->Ob) (F:Fm) (op:Op):Option V:=
 match op with
 |.move x=>aO F x
 |.assign x=>aO F x
 |.pick c x y=>match aO F c with
  |some (.bool true)=>aO F x
  |some (.bool false)=>aO F y
  |_=>none
 |.nilCheck x=>match aO F x with
  |some (.ptr id o)=>some<|.ptr id o
  |some (.el id sz i o)=>some<|.el id sz i o
  |some (.box cs o)=>some<|.box cs o
  |_=>none
 |.extract x i=>match aO F x with
  |some (.tup vs)=>atV vs i
  |_=>none
 |.unOp .not _ x=>match aO F x with
  |some (.bool b)=>rz T.frc (!b)<|!b
  |_=>none
 |.fieldAddr t x i=>match Ju T t i with
  |some (k,_,_)=>match aO F x with
   |some (.ptr id o)=>hZ (o+k) λr=>some<|.ptr id r
   |some (.el id sz j o)=>hZ (o+k) λr=>some<|.el id sz j r
   |some (.box cs o)=>hZ (o+k) λr=>some<|.box cs r
   |_=>none
  |none=>none
 |.field t x i=>match aO F x with
  |some (.agg cs)=>match Ju T t i with
   |some (k,_,true)=>atV cs k
   |some (k,m,false)=>xd (zu cs k) m λl=>some<|.agg l
   |none=>none
  |_=>none
 |.binOp op t x y _=>match aO F x with
  |some a=>match aO F y with
   |some b=>No T op t a b
   |none=>none
  |none=>none
 |.call ⟨.builtin .len,⟨[x]⟩,⟨[t]⟩⟩=>match T.ty t with
  |some ⟨_,_,_,.sl _⟩=>match aO F x with
   |some .nils=>some<|.int .i64 0
   |some (.row _ els)=>match T.frc with
    |true=>hZ els.length λn=>some<|.int .i64<|.ofNat n
    |false=>some<|.int .i64 els.length
   |some (.sl id)=>match h id with
    |.row _ _ els=>match T.frc with
     |true=>hZ els.length λn=>some<|.int .i64<|.ofNat n
     |false=>some<|.int .i64 els.length
    |_=>none
   |_=>none
  |some ⟨_,_,_,.str⟩=>match aO F x with
   |some (.str l)=>match T.frc with
    |true=>hZ l.length λn=>some<|.int .i64<|.ofNat n
    |false=>some<|.int .i64 l.length
   |_=>none
  |_=>none
 |.call ⟨.builtin .max,⟨[x,y]⟩,⟨[t,u]⟩⟩=>match aO F x with
  |some (.int .i64 m)=>match aO F y with
   |some (.int .i64 l)=>MX T.frc m l
   |_=>none
  |_=>none
 |.index t x y=>match T.ty t with
  |some ⟨_,_,_,.str⟩=>match aO F x with
   |some (.str l)=>match aO F y with
    |some (.int .i64 (.ofNat i))=>match atB l i with
     |some c=>hZ c.toNat λc=>some<|.int .u8<|.ofNat c
     |none=>none
    |_=>none
   |_=>none
  |_=>none
 |.indexAddr t x y=>match T.ty t with
  |some ⟨_,_,_,.sl e⟩=>match T.ty e with
   |some d=>match aO F x with
    |some (.row sz els)=>match aO F y with
     |some (.int .i64 (.ofNat i))=>match Nat.beq sz d.size with
      |true=>match atV els i with
       |some v=>listK v.cells λcs=>some<|.box cs 0
       |none=>none
      |false=>none
     |_=>none
    |some (.sl id)=>match h id with
     |.row _ sz els=>match aO F y with
      |some (.int .i64 (.ofNat i))=>match Nat.beq sz d.size&&Nat.blt i els.length with
       |true=>some<|.el id sz i 0
       |false=>none
      |_=>none
     |_=>none
    |_=>none
   |none=>none
  |_=>none
 |.build t ⟨ps⟩=>match T.ty t with
  |some ⟨_,_,z,.struct fs⟩=>match ov F ps with
   |some vs=>match uM (λi=>match atF fs i with|some (o,s,_)=>some (o,s)|none=>none) z.cells vs with
    |some cs=>listK cs λcs=>some<|.agg cs
    |none=>none
   |none=>none
  |some ⟨_,_,z,.arr _ e⟩=>match T.ty e with
   |some d=>match ov F ps with
    |some vs=>match uM (λi=>some (i*d.size,d.size)) z.cells vs with
     |some cs=>listK cs λcs=>some<|.agg cs
     |none=>none
    |none=>none
   |none=>none
  |_=>none
 |.slice t x lo hi none=>match T.ty t with
  |some ⟨_,_,_,.str⟩=>match aO F x with
   |some (.str l)=>match(match lo with|none=>some (V.int .i64<|.ofNat 0)|some y=>aO F y)with
    |some (.int .i64 (.ofNat i))=>match(match hi with|none=>some (V.int .i64<|.ofNat l.length)|some y=>aO F y)with
     |some (.int .i64 (.ofNat j))=>match Nat.ble i j&&Nat.ble j l.length with
      |true=>listK ((l.drop i).take<|j-i) λr=>some<|.str r
      |false=>none
     |_=>none
    |_=>none
   |_=>none
  |some ⟨_,_,_,.sl e⟩=>match T.ty e with
   |some d=>match aO F x with
    |some (.row sz els)=>match(match lo with|none=>some (V.int .i64<|.ofNat 0)|some y=>aO F y)with
     |some (.int .i64 (.ofNat i))=>match(match hi with|none=>some (V.int .i64<|.ofNat els.length)|some y=>aO F y)with
      |some (.int .i64 (.ofNat j))=>match Nat.ble i j&&Nat.ble j els.length&&Nat.beq sz d.size with
       |true=>listK ((els.drop i).take<|j-i) λr=>some<|.row sz r
       |false=>none
      |_=>none
     |_=>none
    |_=>none
   |none=>none
  |_=>none
 |.load t x=>match aO F x with
  |some (.box cs o)=>match T.ty t with
   |some d=>qF d cs o
   |none=>none
  |_=>none
 |_=>none
section
variable{P:Program}{T:Tab}{S:Nat->Prop}{w:World}{ρ:Nat->Option Value}{h:Nat->Ob}{a:Act}{n:Nat}{F:Fm}{ty:TypeId}
theorem RU{y:Operand}{k:IntKind}{m l:Int}(fr:Fr a n<|fA a)(hx:Opd S w ρ a x<|.int k m)(hy:Opd S w ρ a y<|.int k l):Yld P S w ρ a ty (.binOp .add t x y u) (.int k<|k.wrap<|m+l):=
 ⟨.int k<|k.wrap<|m+l,by simp only[VRel],λw' _ _ _ _ _=>by simp only[execOp,fr.eval<|bj hx,fr.eval<|bj hy];simp[go_sem,eqGuard]⟩
theorem Qf{y:Operand}{k:IntKind}{m l:Int}(fr:Fr a n<|fA a)(hx:Opd S w ρ a x<|.int k m)(hy:Opd S w ρ a y<|.int k l):Yld P S w ρ a ty (.binOp .sub t x y u) (.int k<|k.wrap<|m-l):=
 ⟨.int k<|k.wrap<|m-l,by simp only[VRel],λw' _ _ _ _ _=>by simp only[execOp,fr.eval<|bj hx,fr.eval<|bj hy];simp[go_sem,eqGuard]⟩
theorem KD(m l:YB):(ByteArray.mk m.toArray++ByteArray.mk l.toArray)=⟨(m++l).toArray⟩:=by apply ByteArray.ext;simp[ByteArray.data_append]
theorem QN{y:Operand}{m:YB}(fr:Fr a n<|fA a)(hx:Opd S w ρ a x<|.str m)(hy:Opd S w ρ a y<|.str l)(G:m.length+l.length<=9223372036854775807):Yld P S w ρ a ty (.binOp .add t x y u) (.str<|m++l):=
 ⟨.string ⟨(m++l).toArray⟩,by simp only[VRel],λw' _ _ _ _ _=>by simp only[execOp,fr.eval<|kR hx,fr.eval<|kR hy];simp[go_sem,eqGuard,KD,show¬9223372036854775807<m.length+l.length by omega]⟩
theorem Ox(G:TabOk P T){op:BinOp}{y:Operand}{c d v:V}(fr:Fr a n<|fA a)(hx:Opd S w ρ a x c)(hy:Opd S w ρ a y d)(hv:No T op t c d=some v):Yld P S w ρ a ty (.binOp op t x y u) v:=by
 unfold No at hv;split at hv
 ·split at hv
  ·cases hv
  ·rename_i J;have :=Ql J;subst this;split at hv
   ·rw[kI (yO _ _) hv];exact SS fr hx hy
   ·rw[kI (by rw[yO];rfl) hv];exact Sj fr hx hy
   ·rw[kI (vY _ _) hv];exact Sw fr hx hy
   ·rw[kI (vY _ _) hv];exact Sf fr hx hy
   ·rw[kI (by rw[vY,Bool.eq_iff_iff];simp) hv];exact SR fr hx hy
   ·rw[kI (by rw[vY,Bool.eq_iff_iff];simp) hv];exact SO fr hx hy
   ·rw[GX hv];exact RU fr hx hy
   ·rw[GX hv];exact Qf fr hx hy
   ·cases hv
 ·split at hv
  ·rw[kI (wi _ _) hv];exact SD fr hx hy
  ·rw[kI (by rw[wi];rfl) hv];exact SJ fr hx hy
  ·split at hv
   ·split at hv
    ·rename_i hb;rw[dl]at hv;simp only[aad]at hv;subst hv;exact QN fr hx hy (by simpa using hb)
    ·cases hv
   ·cases hv
  ·cases hv
 ·split at hv
  ·rename_i O;have ht:=(G.ty _ _ O).bool rfl;split at hv
   ·rw[kI rfl hv];exact Sy fr ht hx hy
   ·rw[kI rfl hv];exact SH fr ht hx hy
   ·cases hv
  ·cases hv
 ·cases hv
theorem BP(G:TabOk P T){o s:Nat}{b:Bool}(hf:Ju T t i=some (o,s,b)):qh P t i=some o∧(b=true->tY P t i=some o)∧(b=false->ua P t i=some (o,s)):=by
 unfold Ju at hf;split at hf
 ·rename_i J;rw[Gd]at hf;exact((G.ty _ _ J).fields I).2 i o s b hf
 ·cases hf
theorem wQ (hT:TabOk P T) (hr:HRel S w ρ h) (hF:FRel S w ρ a n F) {op:Op} {v:V} (hv:qf T h F op=some v):Yld P S w ρ a ty op v:=by
 have fr:=hF.fr;unfold qf at hv;split at hv
 ·exact PR fr<|au hF hv
 ·exact NC fr<|au hF hv
 ·split at hv
  ·exact Pm fr (au hF ‹_›)<|au hF hv
  ·exact OL fr (au hF ‹_›)<|au hF hv
  ·cases hv
 ·split at hv
  ·injection hv with hv;subst hv;exact QE fr<|au hF ‹_›
  ·injection hv with hv;subst hv;exact Rl fr<|au hF ‹_›
  ·injection hv with hv;subst hv;exact Qc fr<|au hF ‹_›
  ·cases hv
 ·split at hv
  ·rw[oe]at hv;exact Sz fr (au hF ‹_›) hv
  ·cases hv
 ·split at hv
  ·rw[kI rfl hv];exact Se fr<|au hF ‹_›
  ·cases hv
 ·split at hv
  ·rename_i hfl;have hfo:=(BP hT hfl).1;split at hv
   ·rw[dY]at hv;injection hv with hv;subst hv;exact SK fr (au hF ‹_›) hfo
   ·rw[dY]at hv;injection hv with hv;subst hv;exact SN fr (au hF ‹_›) hfo
   ·rw[dY]at hv;injection hv with hv;subst hv;exact SE fr (au hF ‹_›) hfo
   ·cases hv
  ·cases hv
 ·split at hv
  ·split at hv
   ·rename_i hfl;rw[oe]at hv;exact Tw fr (au hF ‹_›) ((BP hT hfl).2.1 I) hv
   ·rename_i hfl;obtain⟨_,hv⟩:=wR hv;rw[xv]at hv;injection hv with hv;subst hv
    exact Sm fr (au hF ‹_›)<|(BP hT hfl).2.2 I
   ·cases hv
  ·cases hv
 ·split at hv
  ·split at hv
   ·exact Ox hT fr (au hF ‹_›) (au hF ‹_›) hv
   ·cases hv
  ·cases hv
 ·split at hv
  ·rename_i hd;have ht:=(hT.ty _ _ hd).sl rfl;split at hv
   ·injection hv with hv;subst hv;exact Qs fr ht<|au hF ‹_›
   ·split at hv
    ·rw[dY]at hv;injection hv with hv;subst hv;exact Ly fr ht<|au hF ‹_›
    ·injection hv with hv;subst hv;exact Ly fr ht<|au hF ‹_›
   ·split at hv
    ·split at hv
     ·rw[dY]at hv;injection hv with hv;subst hv;exact KR hr ‹_› fr ht (au hF ‹_›)
     ·injection hv with hv;subst hv;exact KR hr ‹_› fr ht (au hF ‹_›)
    ·cases hv
   ·cases hv
  ·rename_i hd;have ht:=(hT.ty _ _ hd).str rfl;split at hv
   ·split at hv
    ·rw[dY]at hv;injection hv with hv;subst hv;exact LS fr ht<|au hF ‹_›
    ·injection hv with hv;subst hv;exact LS fr ht<|au hF ‹_›
   ·cases hv
  ·cases hv
 ·split at hv
  ·split at hv
   ·rw[OU hv];exact PN fr (au hF ‹_›)<|au hF ‹_›
   ·cases hv
  ·cases hv
 ·split at hv
  ·rename_i hd;have ht:=(hT.ty _ _ hd).str rfl;split at hv
   ·split at hv
    ·split at hv
     ·rename_i hb;rw[Kr]at hb;rw[dY]at hv;injection hv with hv;subst hv
      exact Qt fr ht (au hF ‹_›) (au hF ‹_›) hb
     ·cases hv
    ·cases hv
   ·cases hv
  ·cases hv
 ·split at hv
  ·rename_i hd;have ht:=(hT.ty _ _ hd).sl rfl;split at hv
   ·rename_i d he;have hz:=(hT.ty _ _ he).size;split at hv
    ·split at hv
     ·split at hv
      ·rename_i hb;have :=aag hb;subst this;split at hv
       ·rename_i hi;rw[oe]at hi;rw[dl]at hv;injection hv with hv;subst hv
        exact p_idxR fr ht hz (au hF ‹_›) (au hF ‹_›) hi
       ·cases hv
      ·cases hv
     ·cases hv
    ·split at hv
     ·split at hv
      ·split at hv
       ·rename_i hb;simp only[aaa,Nat.beq_eq,Nat.blt_eq]at hb;obtain⟨rfl,hlt⟩:=hb;injection hv with hv;subst hv
        exact p_idxO hr ‹_› fr ht hz (au hF ‹_›) (au hF ‹_›) hlt
       ·cases hv
      ·cases hv
     ·cases hv
    ·cases hv
   ·cases hv
  ·cases hv
 ·split at hv
  ·rename_i fs hd;have hf:=(hT.ty _ _ hd).fields rfl;obtain⟨z,hz1,hz2⟩:=(hT.ty _ _ hd).zeroT;split at hv
   ·rename_i vs hps;obtain⟨ys,g1,g2⟩:=sv hF hps;split at hv
    ·rename_i cs hfl;rw[dl]at hv;injection hv with hv;subst hv
     refine Pf fr g1 g2 hz1 (hz2 _ _ _) hf.1 (λi p hp=>?_) hfl;rw[Gd]at hp;split at hp
     ·rename_i o s b hi;simp only[aad]at hp;subst hp;simp[hi]
     ·cases hp
    ·cases hv
   ·cases hv
  ·rename_i e hd;have ht:=(hT.ty _ _ hd).arr rfl;obtain⟨z,hz1,hz2⟩:=(hT.ty _ _ hd).zeroT;split at hv
   ·rename_i d he;have hz:=(hT.ty _ _ he).size;split at hv
    ·rename_i vs hps;obtain⟨ys,g1,g2⟩:=sv hF hps;split at hv
     ·rename_i cs hfl;rw[dl]at hv;injection hv with hv;subst hv
      exact Nh fr g1 g2 hz1 (hz2 _ _ _) ht hz hfl
     ·cases hv
    ·cases hv
   ·cases hv
  ·cases hv
 ·rename_i t x lo hi;split at hv
  ·rename_i hd;have ht:=(hT.ty _ _ hd).str rfl;split at hv
   ·split at hv
    ·rename_i i hi1;split at hv
     ·rename_i j hj1;split at hv
      ·rename_i hb;simp only[aaa,Nat.ble_eq]at hb;rw[dl]at hv;injection hv with hv;subst hv
       refine NO fr ht (au hF ‹_›) ?_ ?_ hb.1 hb.2
       ·cases lo with
        |none=>injection hi1 with hi1;injection hi1 with _ hi1;injection hi1 with hi1;exact .inl ⟨rfl,hi1.symm⟩
        |some y=>exact .inr ⟨y,rfl,au hF hi1⟩
       ·cases hi with
        |none=>injection hj1 with hj1;injection hj1 with _ hj1;injection hj1 with hj1;exact .inl ⟨rfl,hj1.symm⟩
        |some y=>exact .inr ⟨y,rfl,au hF hj1⟩
      ·cases hv
     ·cases hv
    ·cases hv
   ·cases hv
  ·rename_i hd;have ht:=(hT.ty _ _ hd).sl rfl;split at hv
   ·rename_i d he;have hz:=(hT.ty _ _ he).size;split at hv
    ·split at hv
     ·rename_i i hi1;split at hv
      ·rename_i j hj1;split at hv
       ·rename_i hb;simp only[aaa,Nat.ble_eq,Nat.beq_eq]at hb;obtain⟨⟨hb1,hb2⟩,rfl⟩:=hb;rw[dl]at hv;injection hv with hv;subst hv
        refine Oj fr ht hz (au hF ‹_›) ?_ ?_ hb1 hb2
        ·cases lo with
         |none=>injection hi1 with hi1;injection hi1 with _ hi1;injection hi1 with hi1;exact .inl ⟨rfl,hi1.symm⟩
         |some y=>exact .inr ⟨y,rfl,au hF hi1⟩
        ·cases hi with
         |none=>injection hj1 with hj1;injection hj1 with _ hj1;injection hj1 with hj1;exact .inl ⟨rfl,hj1.symm⟩
         |some y=>exact .inr ⟨y,rfl,au hF hj1⟩
       ·cases hv
      ·cases hv
     ·cases hv
    ·cases hv
   ·cases hv
  ·cases hv
 ·split at hv
  ·rename_i cs o hx;split at hv
   ·rename_i d hd;have td:=hT.ty _ _ hd;unfold qF at hv;split at hv
    ·rename_i ha;split at hv
     ·rename_i h0;obtain⟨hl,hv⟩:=wR hv;rw[xv]at hv hl;injection hv with hv;subst hv
      have h0':0<d.size:=by simpa using h0
      exact MJ fr (td.ag ha) (au hF hx) (by simp at hl;omega)
     ·cases hv
    ·rename_i ha;rw[oe]at hv;exact OI fr (td.sc ha) (au hF hx) hv
   ·cases hv
  ·cases hv
 ·cases hv
end
inductive ED where
 |nop
 |new (o:Ob)
 |set (id:Nat) (o:Ob)
 |repl (id:Nat) (o:Ob)
def ED.app(h:Nat->Ob)(nid:Nat):ED->Nat->Ob
 |.nop=>h
 |.new o=>bQ h nid o
 |.set id o=>bQ h id o
 |.repl id o=>bQ (bQ h id .gone) nid o
def ED.tch:ED->Nat->Prop
 |.nop,_=>False
 |.new _,_=>False
 |.set id _,i=>i=id
 |.repl id _,i=>i=id
def EZ(h:Nat->Ob)(sz:Nat):V->Option (List V)
 |.nils=>some []
 |.row sz' els=>match Nat.beq sz sz' with
  |true=>some els
  |false=>none
 |.sl g=>match h g with
  |.row _ sz' els=>match Nat.beq sz sz' with
   |true=>some els
   |false=>none
  |_=>none
 |_=>none
def mJ (T :Tab) (h:Nat->Ob) (F:Fm) (nid:Nat) (op:Op):Option (Option V×ED):=
 match op with
 |.load t x=>match aO F x with
  |some (.ptr id o)=>match T.ty t with
   |some d=>match h id with
    |.var _ cs=>match qF d cs o with
     |some v=>some (some v,.nop)
     |none=>none
    |_=>none
   |none=>none
  |some (.el id sz i o)=>match T.ty t with
   |some d=>match h id with
    |.row _ sz' els=>match Nat.beq sz sz' with
     |true=>match atV els i with
      |some v0=>match qF d v0.cells o with
       |some v=>some (some v,.nop)
       |none=>none
      |none=>none
     |false=>none
    |_=>none
   |none=>none
  |_=>none
 |.alloc t=>match T.ty t with
  |some d=>listK d.zero.cells λcs=>some (some<|.ptr nid 0,.new<|.var t cs)
  |none=>none
 |.box t x=>match aO F x with
  |some v=>listK v.cells λcs=>some (some<|.ptr nid 0,.new<|.var t cs)
  |none=>none
 |.store t x y=>match T.ty t with
  |some d =>match aO F y with
   |some v =>match Nat.beq v.cells.length d.size&&v.cells.all V.one with
    |true =>match aO F x with
     |some (.ptr id o)=>match h id with
      |.var tb cs=>match Nat.ble (o+d.size) cs.length with
       |true=>listK (uZ cs o v.cells) λcs=>some (none,.set id<|.var tb cs)
       |false=>none
      |_=>none
     |some (.el id sz i o)=>match h id with
      |.row e sz' els=>match Nat.beq sz sz' with
       |true=>match atV els i with
        |some v0=>match Nat.ble (o+d.size) v0.cells.length with
         |true=>match v0 with
          |.agg cs=>listK (els.set i<|V.over (.agg cs) o v.cells) λels=>some (none,.set id<|.row e sz els)
          |v0=>match v.one with
           |true=>listK (els.set i<|v0.over o v.cells) λels=>some (none,.set id<|.row e sz els)
           |false=>none
         |false=>none
        |none=>none
       |false=>none
      |_=>none
     |_=>none
    |false=>none
   |none=>none
  |none=>none
 |.buildSlice t m ⟨ps⟩=>match T.ty t with
  |some ⟨_,_,_,.sl e⟩=>match T.ty e with
   |some d=>match ov F ps with
    |some vs=>match mO d.size 0 vs with
     |some els=>match Nat.beq els.length m&&Nat.ble (m*d.size) 16777216&&Nat.ble m 16777216 with
      |true=>hZ d.size λsz=>some (some<|.sl nid,.new<|.row e sz els)
      |false=>none
     |none=>none
    |none=>none
   |none=>none
  |_=>none
 |.makeSlice t x y=>match T.ty t with
  |some ⟨_,_,_,.sl e⟩=>match T.ty e with
   |some d=>match aO F x with
    |some (.int .i64 (.ofNat m))=>match aO F y with
     |some (.int .i64 (.ofNat m'))=>match Nat.beq m m'&&Nat.ble (d.bytes*m) 1000000&&Nat.ble m 1000000&&Nat.blt 0 d.size with
      |true=>listK (List.replicate m d.zero) λels=>hZ d.size λsz=>some (some<|.sl nid,.new<|.row e sz els)
      |false=>none
     |_=>none
    |_=>none
   |none=>none
  |_=>none
 |.call ⟨.builtin .append,⟨[x,y]⟩,⟨[t,t']⟩⟩=>match T.frc&&Nat.beq t t' with
  |true =>match T.ty t with
   |some ⟨_,_,_,.sl e⟩=>match T.ty e with
    |some d=>match aO F y with
     |some v=>match EZ h d.size v with
      |some news=>match aO F x with
       |some .nils=>match Nat.ble news.length 100000&&Nat.ble d.bytes 100000&&Nat.blt 0 d.size with
        |true=>hZ d.size λsz=>some (some<|.sl nid,.new<|.row e sz news)
        |false=>none
       |some (.sl id)=>match h id with
        |.row e' sz els=>match Nat.beq e e'&&Nat.beq sz d.size&&Nat.ble (els.length+news.length) 100000&&Nat.ble d.bytes 100000&&Nat.blt 0 d.size with
         |true=>listK (els++news) λels=>some (some<|.sl nid,.repl id<|.row e sz els)
         |false=>none
        |_=>none
       |_=>none
      |none=>none
     |none=>none
    |none=>none
   |_=>none
  |false=>none
 |.slice t x none (some y) none=>match T.ty t with
  |some ⟨_,_,_,.sl e⟩=>match T.ty e with
   |some d=>match aO F x with
    |some (.sl id)=>match h id with
     |.row e' sz els=>match aO F y with
      |some (.int .i64 (.ofNat k))=>match Nat.beq e e'&&Nat.beq sz d.size&&Nat.ble k els.length with
       |true=>listK (els.take k) λels=>some (some<|.sl nid,.repl id<|.row e sz els)
       |false=>none
      |_=>none
     |_=>none
    |_=>none
   |none=>none
  |_=>none
 |_=>none
variable{ed:ED}
section
variable{P:Program}{T:Tab}{S:Nat->Prop}{w:World}{ρ:Nat->Option Value}{h:Nat->Ob}{a:Act}{n:Nat}{F:Fm}{ty:TypeId}
theorem rL(td:TdOk P t d){o:Nat}{v:V}(hv:qF d cs o=some v):(fy P t=true∧cs[o]?=some v)∨(mR P t=some d.size∧o+d.size<=cs.length∧v=.agg ((cs.drop o).take d.size)):=by
 unfold qF at hv;split at hv
 ·rename_i G;split at hv
  ·rename_i O;obtain⟨J,hv⟩:=wR hv;rw[xv]at hv J;injection hv with hv;subst hv
   have Z:0<d.size:=by simpa using O
   exact .inr ⟨td.ag G,by simp at J;omega,rfl⟩
  ·cases hv
 ·rename_i G;rw[oe]at hv;exact .inl ⟨td.sc G,hv⟩
theorem xU{v:V}(h:v.one=true):v.cells=[v]:=by cases v<;>first|rfl|cases h
theorem Hg(hr:HRel S w ρ h)(G:FRel S w ρ a n F){y:Operand}{v:V}{news:List V}(hy:aO F y=some v)(hs:EZ h sz v=some news):∃u,aR (fA a) y=some u∧vW S w ρ sz news u:=by
 obtain⟨u,h1,h2⟩:=au G hy;refine⟨u,h1,?_⟩;unfold EZ at hs;split at hs
 ·injection hs with hs;subst hs;exact Mu h2
 ·split at hs
  ·rename_i hb;have :=aag hb;subst this;injection hs with hs;subst hs;exact Pw h2
  ·cases hs
 ·split at hs
  ·split at hs
   ·rename_i J _ hb;have :=aag hb;subst this;injection hs with hs;subst hs;exact OA hr J h2
   ·cases hs
  ·cases hs
 ·cases hs
theorem zo (hT:TabOk P T) (hr:HRel S w ρ h) (hF:FRel S w ρ a n F) {nid:Nat} (hn:h nid=.free) {op:Op} {v:Option V} {ed:ED} (hv:mJ T h F nid op=some (v,ed)):Does P S w ρ h a ty op v (ed.app h nid) ed.tch:=by
 have fr:=hF.fr;unfold mJ at hv;split at hv
 ·split at hv
  ·split at hv
   ·rename_i d hd;split at hv
    ·rename_i ho;split at hv
     ·rename_i u hu;simp only[aad,Prod.mk.injEq]at hv;obtain⟨rfl,rfl⟩:=hv;rcases rL (hT.ty _ _ hd) hu with⟨h1,h2⟩|⟨h1,h2,rfl⟩
      ·exact Qe hr fr (au hF ‹_›) ho h1 h2
      ·exact Ow hr fr (au hF ‹_›) ho h1 h2
     ·cases hv
    ·cases hv
   ·cases hv
  ·split at hv
   ·rename_i d hd;split at hv
    ·rename_i ho;split at hv
     ·rename_i hb;have :=aag hb;subst this;split at hv
      ·rename_i v0 hi;rw[oe]at hi;split at hv
       ·rename_i u hu;simp only[aad,Prod.mk.injEq]at hv;obtain⟨rfl,rfl⟩:=hv;rcases rL (hT.ty _ _ hd) hu with⟨h1,h2⟩|⟨h1,h2,rfl⟩
        ·exact Hb hr fr (au hF ‹_›) ho h1 hi h2
        ·exact FP hr fr (au hF ‹_›) ho h1 hi h2
       ·cases hv
      ·cases hv
     ·cases hv
    ·cases hv
   ·cases hv
  ·cases hv
 ·split at hv
  ·rename_i d hd;rw[dl]at hv;simp only[aad,Prod.mk.injEq]at hv;obtain⟨rfl,rfl⟩:=hv;obtain⟨z,h1,h2⟩:=(hT.ty _ _ hd).zeroT;exact Pz hr hn h1 h2
  ·cases hv
 ·split at hv
  ·rw[dl]at hv;simp only[aad,Prod.mk.injEq]at hv;obtain⟨rfl,rfl⟩:=hv;exact SU hr fr hn<|au hF ‹_›
  ·cases hv
 ·split at hv
  ·rename_i d hd;have hz:=(hT.ty _ _ hd).size;split at hv
   ·rename_i u hu;split at hv
    ·rename_i hb;simp only[aaa,Nat.beq_eq]at hb;split at hv
     ·split at hv
      ·split at hv
       ·rename_i ho _ hle;rw[dl]at hv;simp only[aad,Prod.mk.injEq]at hv;obtain⟨rfl,rfl⟩:=hv;exact Pc hr fr (au hF ‹_›) (au hF hu) ho hz hb.1 hb.2 (Nat.le_of_ble_eq_true hle)
       ·cases hv
      ·cases hv
     ·split at hv
      ·rename_i ho;split at hv
       ·rename_i hq;have :=aag hq;subst this;split at hv
        ·rename_i v0 hi;rw[oe]at hi;split at hv
         ·rename_i hle;split at hv
          ·rename_i cs;rw[dl]at hv;simp only[aad,Prod.mk.injEq]at hv;obtain⟨rfl,rfl⟩:=hv;exact AB hr fr (au hF ‹_›) (au hF hu) ho hz hi hb.1 hb.2 (Nat.le_of_ble_eq_true hle) (.inl ⟨cs,I⟩)
          ·rename_i hna;split at hv
           ·rename_i h1;rw[dl]at hv;simp only[aad,Prod.mk.injEq]at hv;obtain⟨rfl,rfl⟩:=hv;refine AB hr fr (au hF ‹_›) (au hF hu) ho hz hi hb.1 hb.2 (Nat.le_of_ble_eq_true hle) (.inr ⟨?_,xU h1⟩);cases v0 with
            |agg cs=>exact absurd rfl<|hna cs
            |_=>rfl
           ·cases hv
         ·cases hv
        ·cases hv
       ·cases hv
      ·cases hv
     ·cases hv
    ·cases hv
   ·cases hv
  ·cases hv
 ·split at hv
  ·rename_i e ht;split at hv
   ·rename_i d hd;split at hv
    ·rename_i vs hps;split at hv
     ·rename_i els hrp;split at hv
      ·rename_i hb;simp only[aaa,Nat.beq_eq]at hb;rw[dY]at hv;simp only[aad,Prod.mk.injEq]at hv;obtain⟨rfl,rfl⟩:=hv;obtain⟨ys,g1,g2⟩:=sv hF hps;obtain⟨z,h1,h2⟩:=(hT.ty _ _ hd).zeroT;exact MO hr fr hn g1 g2 ((hT.ty _ _ ht).sl I) (hT.ty _ _ hd).size h1 hrp hb.1.1 hb.1.2 hb.2
      ·cases hv
     ·cases hv
    ·cases hv
   ·cases hv
  ·cases hv
 ·split at hv
  ·rename_i e ht;split at hv
   ·rename_i d hd;split at hv
    ·split at hv
     ·split at hv
      ·rename_i hb;simp only[aaa,Nat.beq_eq,Nat.ble_eq,Nat.blt_eq]at hb;obtain⟨⟨⟨rfl,hb1⟩,hb2⟩,hb3⟩:=hb;rw[dl,dY]at hv;simp only[aad,Prod.mk.injEq]at hv;obtain⟨rfl,rfl⟩:=hv;obtain⟨z,h1,h2,h3,h4⟩:=(hT.ty _ _ hd).info;exact LN hr fr hn (au hF ‹_›) (au hF ‹_›) ((hT.ty _ _ ht).sl rfl) h1 h3 hb3 h4 h2 (by omega) (by simp only[maxLen];omega)
      ·cases hv
     ·cases hv
    ·cases hv
   ·cases hv
  ·cases hv
 ·split at hv
  ·rename_i hb0;simp only[aaa,Nat.beq_eq]at hb0;obtain⟨_,rfl⟩:=hb0;split at hv
   ·rename_i e ht;split at hv
    ·rename_i d hd;obtain⟨z,h1,h2,h3,h4⟩:=(hT.ty _ _ hd).info;split at hv
     ·rename_i u hu;split at hv
      ·rename_i news hs;obtain⟨y',g1,g2⟩:=Hg hr hF hu hs;split at hv
       ·split at hv
        ·rename_i hb;simp only[aaa,Nat.ble_eq,Nat.blt_eq]at hb;obtain⟨⟨hb1,hb2⟩,hb3⟩:=hb;rw[dY]at hv;simp only[aad,Prod.mk.injEq]at hv;obtain⟨rfl,rfl⟩:=hv;refine Lz hr fr hn g1 g2 ((hT.ty _ _ ht).sl rfl) h1 h3 hb3 (au hF ‹_›) (by simp only[maxLen];omega) ?_;exact aao (Nat.mul_le_mul hb1 hb2) (by decide)
        ·cases hv
       ·split at hv
        ·rename_i ho;split at hv
         ·rename_i hb;simp only[aaa,Nat.ble_eq,Nat.blt_eq,Nat.beq_eq]at hb;obtain⟨⟨⟨⟨rfl,rfl⟩,hb1⟩,hb2⟩,hb3⟩:=hb;rw[dl]at hv;simp only[aad,Prod.mk.injEq]at hv;obtain⟨rfl,rfl⟩:=hv;refine Ew hr fr hn g1 g2 ((hT.ty _ _ ht).sl rfl) h1 h3 hb3 (au hF ‹_›) ho (by simp only[maxLen];omega) ?_;exact aao (Nat.mul_le_mul hb1 hb2) (by decide)
         ·cases hv
        ·cases hv
       ·cases hv
      ·cases hv
     ·cases hv
    ·cases hv
   ·cases hv
  ·cases hv
 ·split at hv
  ·rename_i e ht;split at hv
   ·rename_i d hd;split at hv
    ·split at hv
     ·rename_i ho;split at hv
      ·split at hv
       ·rename_i hb;simp only[aaa,Nat.ble_eq,Nat.beq_eq]at hb;obtain⟨⟨rfl,rfl⟩,hb1⟩:=hb;rw[dl]at hv;simp only[aad,Prod.mk.injEq]at hv;obtain⟨rfl,rfl⟩:=hv;exact GZ hr fr hn (au hF ‹_›) (au hF ‹_›) ho ((hT.ty _ _ ht).sl I) (hT.ty _ _ hd).size hb1
       ·cases hv
      ·cases hv
     ·cases hv
    ·cases hv
   ·cases hv
  ·cases hv
 ·cases hv
def ED.ok(h:Nat->Ob):ED->Prop
 |.nop=>True
 |.new o=>True
 |.set id o=>h id≠.gone∧h id≠.free
 |.repl id o=>h id≠.gone∧h id≠.free
theorem uP{op:Op}{v:Option V}(hv:mJ T h F nid op=some (v,ed)):ed.ok h:=by
 unfold mJ at hv
 repeat' (split at hv)
 all_goals first
  |(cases hv;done)
  |(simp only[dl,dY,aad,Prod.mk.injEq]at hv;obtain⟨_,rfl⟩:=hv;first|exact trivial|(constructor<;>simp_all))
end
section
variable{P:Program}{ops:Array Oper}{Q:Exit->Act->World->Prop}{B S:World->Prop}
def wpB(P:Program)(ops:Array Oper)(Q:Exit->Act->World->Prop)(B S:World->Prop)(m:Nat):Nat->Array Bool->Act->World->Prop
 |0,listed,a,w=>Region.ready .any ops listed=[]∧Q .normal a w
 |fuel+1,listed,a,w=>
  (Region.ready .any ops listed=[]->Q .normal a w)∧
  ∀i∈Region.ready .any ops listed,wpOp P ops Q i (λa' w'=>B w'∧(S w'∨(listed.setIfInBounds i true).getD m false=true)∧wpB P ops Q B S m fuel (listed.setIfInBounds i true) a' w') a w
theorem Bp{m:Nat}:∀(fuel:Nat) (listed:Array Bool) (a:Act) (w:World),wpB P ops Q B S m fuel listed a w->wpAny P .any ops Q fuel listed a w
 |0,_,_,_,h=>h
 |fuel+1,_,_,_,h=>⟨h.1,λi hi=>wpOp_mono (λa' w' h'=>Bp fuel _ a' w' h'.2.2)<|h.2 i hi⟩
theorem Aw{B' S':World->Prop}{m:Nat}(G:∀w,B' w->B w)(J:∀w,B' w->S' w->S w):∀(fuel:Nat) (listed:Array Bool) (a:Act) (w:World),wpB P ops Q B' S' m fuel listed a w->wpB P ops Q B S m fuel listed a w
 |0,_,_,_,h=>h
 |fuel+1,_,_,_,h=>⟨h.1,λi hi=>wpOp_mono (λa' w' h'=>⟨G _ h'.1,h'.2.1.imp (J _ h'.1) id,Aw G J fuel _ a' w' h'.2.2⟩)<|h.2 i hi⟩
theorem wpB_pure {m:Nat} {i:Nat} {oi:Oper} {v:Value} (him:i≠m) (hi:ops[i]?=some oi) (hsel:∀(j:Nat) (o:Oper) cs b,ops[j]?=some o->o.op≠.select cs b)
    (hQ:∀c a w,Q (.panic c) (a.put oi.dst v) w->Q (.panic c) a w):
    ∀ (fuel:Nat) (listed:Array Bool) (a:Act) (w:World),
      (∀j oj,ops[j]?=some oj->j≠i->listed.getD j true=false->(∀e∈oj.after,Region.binds .any e=true->e.on≠i)->oi.apart ops oj=true)->
      i∈Region.ready .any ops listed->YieldsIf P ops B oi v a->B w->(S w∨listed.getD m false=true)->
      wpB P ops Q B S m fuel (listed.setIfInBounds i true) (a.put oi.dst v) w->wpB P ops Q B S m (fuel+1) listed a w:=by
  intro fuel
  induction fuel with
  | zero=>
    intro listed a w _ hr hy hB hS H;refine⟨λh=>(by rw[h]at hr;cases hr),λj hj=>?_⟩;by_cases hji:j=i
    ·subst hji;exact hy.wpOp hi hB ⟨hB,hS.imp id oN,H⟩
    · have :=ready_mono hj hji;rw[H.1]at this;cases this
  | succ fuel ih=>
    intro listed a w hfree hr hy hB hS H;refine⟨λh=>(by rw[h]at hr;cases hr),λj hj=>?_⟩;by_cases hji:j=i
    ·subst hji;exact hy.wpOp hi hB ⟨hB,hS.imp id oN,H⟩
    · have h1:=H.2 j (ready_mono hj hji);obtain⟨hjun,oj,hoj,hall⟩:=mem_ready.1 hj;have hnot:=CV (j:=j) hr hall;have h2:=wpOp_putIf hoj (hfree j oj hoj hji hjun hnot) (λcs b=>hsel i oi cs b hi) (λcs b=>hsel j oj cs b hoj) hQ hy h1;have hfree':∀k ok,ops[k]?=some ok->k≠i->(listed.setIfInBounds j true).getD k true=false->
          (∀e∈ok.after,Region.binds .any e=true->e.on≠i)->oi.apart ops ok=true:=λk ok hk hki hun hno=>by
        refine hfree k ok hk hki ?_ hno;by_cases hjk:j=k
        ·subst hjk;exact hjun
        ·rw[getD_set_ne true hjk]at hun;exact hun
      refine wpOp_mono (λa' w' h3=>?_) h2;have hS3:S w'∨(listed.setIfInBounds j true).getD m false=true:=h3.2.2.1.imp id λh=>by rw[Array.setIfInBounds_comm _ _ λe=>hji e.symm,getD_set_ne false him]at h;exact h
      refine⟨h3.2.1,hS3,ih (listed.setIfInBounds j true) a' w' hfree' (ready_mono hr<|Ne.symm hji) h3.1 h3.2.1 hS3 ?_⟩;rw[Array.setIfInBounds_comm _ _ hji];exact h3.2.2.2
theorem Mm {m:Nat} {i:Nat} {oi:Oper} {v:Value} (him:i≠m) (hwt:zl .any ops m i=true) (hi:ops[i]?=some oi) (hsel:∀(j:Nat) (o:Oper) cs b,ops[j]?=some o->o.op≠.select cs b)
    (hQ:∀c a w,Q (.panic c) (a.put oi.dst v) w->Q (.panic c) a w):
    ∀ (fuel:Nat) (listed:Array Bool) (a:Act) (w:World),
      (∀j oj,ops[j]?=some oj->j≠i->listed.getD j true=false->(∀e∈oj.after,Region.binds .any e=true->e.on≠i)->oi.apart ops oj=true)->
      i∈Region.ready .any ops listed->YieldsIf P ops (λw=>B w∧S w) oi v a->B w->S w->listed.getD m false=false->
      wpB P ops Q B S m fuel (listed.setIfInBounds i true) (a.put oi.dst v) w->wpB P ops Q B S m (fuel+1) listed a w:=by
  intro fuel
  induction fuel with
  | zero=>
    intro listed a w _ hr hy hB hS _ H;refine⟨λh=>(by rw[h]at hr;cases hr),λj hj=>?_⟩;by_cases hji:j=i
    ·subst hji;exact hy.wpOp hi ⟨hB,hS⟩ ⟨hB,.inl hS,H⟩
    · have :=ready_mono hj hji;rw[H.1]at this;cases this
  | succ fuel ih=>
    intro listed a w hfree hr hy hB hS hlm H;refine⟨λh=>(by rw[h]at hr;cases hr),λj hj=>?_⟩;by_cases hji:j=i
    ·subst hji;exact hy.wpOp hi ⟨hB,hS⟩ ⟨hB,.inl hS,H⟩
    · have h1:=H.2 j (ready_mono hj hji);obtain⟨hjun,oj,hoj,hall⟩:=mem_ready.1 hj;have hnot:=CV (j:=j) hr hall;have hjm:j≠m:=by
        rintro rfl;unfold zl at hwt;rw[hoj]at hwt;obtain⟨e,he,hb⟩:=Array.any_eq_true'.1 hwt;simp only[aaa,aap]at hb;exact hnot e he hb.1 hb.2
      have h2:=wpOp_putIf hoj (hfree j oj hoj hji hjun hnot) (λcs b=>hsel i oi cs b hi) (λcs b=>hsel j oj cs b hoj) hQ hy h1;have hfree':∀k ok,ops[k]?=some ok->k≠i->(listed.setIfInBounds j true).getD k true=false->
          (∀e∈ok.after,Region.binds .any e=true->e.on≠i)->oi.apart ops ok=true:=λk ok hk hki hun hno=>by
        refine hfree k ok hk hki ?_ hno;by_cases hjk:j=k
        ·subst hjk;exact hjun
        ·rw[getD_set_ne true hjk]at hun;exact hun
      refine wpOp_mono (λa' w' h3=>?_) h2;have hlm':(listed.setIfInBounds j true).getD m false=false:=by rw[getD_set_ne false hjm];exact hlm
      have hS':S w':=by
        rcases h3.2.2.1 with h|h
        ·exact h
        · rw[Array.setIfInBounds_comm _ _ λe=>hji e.symm,getD_set_ne false him,hlm']at h;cases h
      refine⟨h3.2.1,.inl hS',ih (listed.setIfInBounds j true) a' w' hfree' (ready_mono hr<|Ne.symm hji) h3.1 h3.2.1 hS' hlm' ?_⟩;rw[Array.setIfInBounds_comm _ _ hji];exact h3.2.2.2
end
inductive EI where
 |seq (c:Code)
 |blk (id:Nat)
 |loop (c:Code) (j:Nat)
 |scp
inductive EP where
 |code (c:Code)
 |ops (all:Array Oper) (rest:List Oper)
 |ex (e:Exit)
 |drw (all:Array Oper) (L:List Nat) (m left:Nat) (listed:Array Bool)
def ea(P:Program)(Q:Exit->Act->World->Prop):List EI->Exit->Act->World->Prop
 |[]=>Q
 |.seq c::s=>Exit.then (c.wp P<|ea P Q s)<|ea P Q s
 |.blk id::s=>Exit.inBlock id<|ea P Q s
 |.loop c j::s=>Exit.then (Code.rounds P c (ea P Q s) j)<|ea P Q s
 |.scp::s=>Exit.noGoto<|ea P Q s
def yt:Value->Option Nat
 |.pointer (some a)=>some a.block
 |.slice (some a) _ _=>some a.block
 |_=>none
def Ls(ρ:Nat->Option Value)(L:YN)(w w':World):Prop:=∀id,id∈L->∀x b,ρ id=some x->yt x=some b->w'.heap[b]?=w.heap[b]?
def EP.wp(P:Program)(Q:Exit->Act->World->Prop)(p:EP)(s:List EI)(S:Nat->Prop)(w:World)(ρ:Nat->Option Value)(a:Act):Prop:=
 match p with
 |.code c=>c.wp P (ea P Q s) a w
 |.ops all rest=>wpList P all (ea P Q s) rest a w
 |.ex e=>ea P Q s e a w
 |.drw all L m left listed=>Region.noSelect all=true->wpB P all (NoPanic<|ea P Q s) (Agree S w) (Ls ρ L w) m left listed a w
structure Hp where
 nx:Nat
 es:List (Nat×Ob)
def aE:List (Nat×Ob)->Nat->Ob
 |[],_=>.gone
 |(i,o)::r,j=>match Nat.beq i j with
  |true=>o
  |false=>aE r j
def Hp.get(H:Hp)(i:Nat):Ob:=match Nat.blt i H.nx with
 |true=>aE H.es i
 |false=>.free
def Jj{α:Type}(id:Nat)(o:Ob):List (Nat×Ob)->(List (Nat×Ob)->α)->α
 |[],c=>c []
 |(i,p)::r,c=>match Nat.beq i id with
  |true=>c<|(i,o)::r
  |false=>Jj id o r λG=>c<|(i,p)::G
def Cg{α:Type}(id:Nat):List (Nat×Ob)->(List (Nat×Ob)->α)->α
 |[],c=>c []
 |(i,p)::r,c=>match Nat.beq i id with
  |true=>Cg id r c
  |false=>Cg id r λG=>c<|(i,p)::G
def Hp.ap(H:Hp)(e:ED)(c:Hp->α):α:=match e with
 |.nop=>c H
 |.new o=>hZ H.nx λk=>hZ (k+1) λn=>c ⟨n,(k,o)::H.es⟩
 |.set id o=>Jj id o H.es λes=>hZ H.nx λk=>c ⟨k,es⟩
 |.repl id o=>Cg id H.es λes=>hZ H.nx λk=>hZ (k+1) λn=>c ⟨n,(k,o)::es⟩
def uD(id:Nat)(o:Ob):List (Nat×Ob)->List (Nat×Ob)
 |[]=>[]
 |(i,p)::r=>match Nat.beq i id with
  |true=>(i,o)::r
  |false=>(i,p)::uD id o r
def sh(id:Nat):List (Nat×Ob)->List (Nat×Ob)
 |[]=>[]
 |(i,p)::r=>match Nat.beq i id with
  |true=>sh id r
  |false=>(i,p)::sh id r
theorem GP{α:Type}{id:Nat}{o:Ob}:∀(l:List<|Nat×Ob) (c:List (Nat×Ob)->α),Jj id o l c=c (uD id o l)
 |[],c=>rfl
 |(i,p)::r,c=>by
  simp only[Jj,uD];split
  ·rfl
  ·rw[GP r]
theorem zh{α:Type}{id:Nat}:∀(l:List<|Nat×Ob) (c:List (Nat×Ob)->α),Cg id l c=c (sh id l)
 |[],c=>rfl
 |(i,p)::r,c=>by
  simp only[Cg,sh];split
  ·rw[zh r]
  ·rw[zh r]
theorem nbF{a:Nat}(h:a≠b):Nat.beq a b=false:=by
 cases hb:Nat.beq a b
 ·rfl
 ·exact absurd (aag hb) h
theorem nbT(a:Nat):Nat.beq a a=true:=by simp
theorem nlT{a:Nat}(h:a<b):Nat.blt a b=true:=by simpa[Nat.blt_eq]using h
theorem zO{id i:Nat}{o:Ob}(hi:i≠id):∀{l:List<|Nat×Ob},aE (uD id o l) i=aE l i
 |[]=>rfl
 | (j,p)::r=>by
  simp only[uD];split
  ·rename_i hb;have e1:=aag hb;subst e1;simp only[aE,nbF<|Ne.symm hi]
  ·simp only[aE];rw[zO hi]
theorem xX{id:Nat}{o:Ob}:∀{l:List<|Nat×Ob},aE l id≠.gone->aE (uD id o l) id=o
 |[],h=>absurd rfl h
 | (j,p)::r,h=>by
  simp only[uD];split
  ·rename_i hb;simp only[aE,hb]
  ·rename_i hb;simp only[aE,hb]at h⊢;exact xX h
theorem rP{id i:Nat}:∀{l:List<|Nat×Ob},aE (sh id l) i=if i=id then .gone else aE l i
 |[]=>by simp[aE,sh]
 | (j,p)::r=>by
  simp only[sh,aE];split
  ·rename_i hb;have e1:=aag hb;subst e1;rw[rP];by_cases hi:i=j
   ·simp[hi]
   ·simp[hi,nbF<|Ne.symm hi]
  ·rename_i hb;have hne:=Nat.ne_of_beq_eq_false hb;simp only[aE];split
   ·rename_i hb2;have e2:=aag hb2;subst e2;rw[if_neg hne]
   ·exact rP
def Hp.app(H:Hp):ED->Hp
 |.nop=>H
 |.new o=>⟨H.nx+1,(H.nx,o)::H.es⟩
 |.set id o=>⟨H.nx,uD id o H.es⟩
 |.repl id o=>⟨H.nx+1,(H.nx,o)::sh id H.es⟩
theorem Hp.ap_eq(H:Hp)(e:ED)(c:Hp->α):H.ap e c=c (H.app e):=by cases e<;>simp[Hp.ap,Hp.app,dY,GP,zh]
theorem Hp.get_free(H:Hp):H.get H.nx=.free:=by
 unfold Hp.get;have :Nat.blt H.nx H.nx=false:=by simp[Bool.eq_false_iff]
 rw[this]
theorem Hp.get_app{H:Hp}{e:ED}(he:e.ok H.get):(H.app e).get=e.app H.get H.nx:=by
 funext i
 cases e with
 |nop=>rfl
 | new o=>
  simp only[Hp.app,ED.app];by_cases hi:i=H.nx
  ·subst hi;rw[bD];simp only[Hp.get,aE,nlT<|Nat.lt_succ_self H.nx,nbT]
  ·rw[co _ _ hi];have hb:Nat.beq H.nx i=false:=nbF<|Ne.symm hi;have :Nat.blt i (H.nx+1)=Nat.blt i H.nx:=by rw[Bool.eq_iff_iff];simp[Nat.blt_eq];omega
   simp[Hp.get,aE,hb,this]
 | set id o=>
  simp only[Hp.app,ED.app];have h1:aE H.es id≠.gone:=by
   have :=he.1;unfold Hp.get at this;split at this
   ·exact this
   ·rename_i hc;exact absurd (by unfold Hp.get;rw[hc]) he.2
  by_cases hi:i=id
  ·subst hi;rw[bD];have h2:=he.2;unfold Hp.get at h2⊢;split at h2
   ·rename_i hc;simp only[hc];exact xX h1
   ·exact absurd I h2
  ·rw[co _ _ hi];unfold Hp.get;simp only[];rw[zO hi]
 | repl id o=>
  simp only[Hp.app,ED.app];have hid:id<H.nx:=by
   have h2:=he.2;unfold Hp.get at h2;split at h2
   ·rename_i hc;simpa[Nat.blt_eq]using hc
   ·exact absurd I h2
  by_cases hi:i=H.nx
  ·subst hi;rw[bD];simp only[Hp.get,aE,nlT<|Nat.lt_succ_self H.nx,nbT]
  ·rw[co _ _ hi];have hb:Nat.beq H.nx i=false:=nbF<|Ne.symm hi;have hlt:Nat.blt i (H.nx+1)=Nat.blt i H.nx:=by rw[Bool.eq_iff_iff];simp[Nat.blt_eq];omega
   by_cases hii:i=id
   ·subst hii;rw[bD];have :Nat.blt i H.nx=true:=by simpa[Nat.blt_eq]using hid
    simp[Hp.get,aE,hb,hlt,this,rP]
   ·rw[co _ _ hii];simp[Hp.get,aE,hb,hlt,rP,hii]
theorem FZ(a b:List<|Nat×Ob)(i:Nat):aE (a++b) i=aE a i∨(aE a i=.gone∧aE (a++b) i=aE b i):=by
 induction a with
 |nil=>exact .inr ⟨rfl,rfl⟩
 |cons p r ih=>
  obtain⟨j,o⟩:=p;simp only[aay,aE];split
  ·exact .inl I
  ·exact ih
structure Ctx where
 w0:World
 S0:Nat->Prop
 X0:Nat->Prop
 pin:Nat->Option Value
structure Inv (K:Ctx) (S:Nat->Prop) (w:World) (ρ:Nat->Option Value) (h:Nat->Ob):Prop where
 chg:ChgP K.X0 K.w0 w
 s0:∀b,K.S0 b->S b
 s1:∀b,S b->K.S0 b∨K.X0 b∨K.w0.heap.size<=b
 ow:∀id b,own ρ id (h id) b->K.X0 b∨K.w0.heap.size<=b
 pin:∀id x,K.pin id=some x->ρ id=some x
section
variable{P:Program}{T:Tab}{K:Ctx}{S S':Nat->Prop}{w w':World}{ρ ρ':Nat->Option Value}{h h':Nat->Ob}{a:Act}{n:Nat}{F:Fm}{X:Nat->Prop}
theorem Inv.eff(hi:Inv K S w ρ h)(G:Eff S w w' ρ ρ' h h' X):Inv K S w' ρ' h':=
 ⟨hi.chg.trans G.chg (λb ⟨id,_,hb⟩=>hi.ow id b hb),hi.s0,hi.s1,λid b hb=>by
  rcases G.new id b hb with⟨j,J⟩|J
  ·exact hi.ow j b J
  ·exact .inr (aao hi.chg.size J),λid x hx=>G.up.r _ _ (hi.pin id x hx)⟩
theorem Inv.frz(hr:HRel S w ρ h)(hi:Inv K S w ρ h)(id:Nat):Inv K (λb=>S b∨own ρ id (h id) b) w ρ (bQ h id .gone):=
 ⟨hi.chg,λb hb=>.inl (hi.s0 b hb),λb hb=>by
  rcases hb with hb|hb
  ·exact hi.s1 b hb
  ·exact .inr<|hi.ow id b hb,λi b hb=>by
  by_cases G:i=id
  ·subst G;rw[bD]at hb;exact hb.elim
  ·rw[co _ _ G]at hb;exact hi.ow i b hb,hi.pin⟩
theorem HRel.chg0(hr:HRel S w ρ h)(G:Chg [] w w'):HRel S w' ρ h:=by
 have up:Up S S w w' ρ ρ:=⟨λ_ h=>h,λb _ hb=>G.block b hb (by simp),λ_ _ h=>h⟩;refine⟨λi=>(hr.ob i).up up (λhf=>?_) (λb hb=>G.block b (gv (hr.ob i) hb)<|by simp),hr.sep,hr.dis,hr.slt.up up λb hb=>aaz (hr.slt b hb) G.size⟩;have :=hr.ob i;rw[hf]at this;exact this
theorem Up.chg0(G:Chg [] w w'):Up S S w w' ρ ρ:=⟨λ_ h=>h,λb _ hb=>G.block b hb (by simp),λ_ _ h=>h⟩
theorem Inv.chg0(hi:Inv K S w ρ h)(G:Chg [] w w'):Inv K S w' ρ h:=⟨hi.chg.trans (ChgP.of G) (λb hb=>by simp at hb),hi.s0,hi.s1,hi.ow,hi.pin⟩
theorem HRel.drop(hr:HRel S w ρ h)(O:∀i,h' i=h i∨h' i=.gone):HRel S w ρ h':=by
 have back:∀i b,own ρ i (h' i) b->own ρ i (h i) b:=λi b hb=>by
  rcases O i with e|e
  ·rw[e]at hb;exact hb
  ·rw[e]at hb;exact hb.elim
 refine⟨λi=>?_,λi b hb=>hr.sep i b<|back i b hb,λi j b G J=>hr.dis i j b (back i b G)<|back j b J,hr.slt⟩;rcases O i with e|e
 ·rw[e];exact hr.ob i
 ·rw[e];trivial
theorem Inv.drop(hi:Inv K S w ρ h)(G:∀i,h' i=h i∨h' i=.gone):Inv K S w ρ h':=
 ⟨hi.chg,hi.s0,hi.s1,λi b hb=>by
  rcases G i with e|e
  ·rw[e]at hb;exact hi.ow i b hb
  ·rw[e]at hb;exact hb.elim,hi.pin⟩
theorem Agree.refl:Agree S w w:=λ_ _=>rfl
theorem tT(hr:HRel S w ρ h)(G:Eff S w w' ρ ρ' h h' X):Agree S w w':=λb hb=>G.up.blk b hb<|hr.slt b hb
def bt(F:Fm)(all:Array Oper)(g:Option<|Nat×Bool):Option Bool:=match g with
 |none=>some true
 |some (j,b)=>match(all[j]?).bind (·.dst)with
  |some d=>match F.get d with
   |some (.bool true)=>some b
   |some (.bool false)=>some<|!b
   |some (.tup _)=>some false
   |_=>none
  |none=>none
theorem cj(J:FRel S w ρ a n F){all:Array Oper}{o:Oper}{c:Bool}(G:bt F all o.guard=some c):Region.wanted o (yielded all a.tmps)=c:=by
 unfold bt at G;split at G
 ·rename_i O;injection G with G;subst G
  exact BU J.fr (by rw[O];rfl)
 ·rename_i j b O;split at G
  ·rename_i d Z;split at G
   ·rename_i hv;obtain⟨x,h1,h2⟩:=J.get d _ hv;simp only[VRel]at h2;subst h2;injection G with G;subst G
    cases b
    ·exact BM J.fr (by rw[O];simp only[BD,tC,Z];simp[fA,h1])
    ·exact BU J.fr (by rw[O];simp only[DF,tC,Z];simp[fA,h1])
   ·rename_i hv;obtain⟨x,h1,h2⟩:=J.get d _ hv;simp only[VRel]at h2;subst h2;injection G with G;subst G
    cases b
    ·exact BU J.fr (by rw[O];simp only[DF,tC,Z];simp[fA,h1])
    ·exact BM J.fr (by rw[O];simp only[BD,tC,Z];simp[fA,h1])
   ·rename_i hv;obtain⟨x,h1,h2⟩:=J.get d _ hv;simp only[VRel]at h2;obtain⟨xs,rfl,_⟩:=h2;injection G with G;subst G
    exact BM J.fr (by rw[O];simp only[BD,tC,Z];simp[fA,h1])
   ·cases G
  ·cases G
end
def Go(P:Program)(K:Ctx)(Q:Exit->Act->World->Prop)(p:EP)(s:List EI)(n:Nat)(F:Fm)(H:Hp):Prop:=
 ∀S w ρ a,HRel S w ρ H.get->Inv K S w ρ H.get->FRel S w ρ a n F->EP.wp P Q p s S w ρ a
def CallR (P:Program) (K:Ctx) (fid:FuncId) (vs:List V) (H:Hp) (L:List Nat) (Post:V->Hp->Prop):Prop:=
  ∀ S w ρ xs,HRel S w ρ H.get->Inv K S w ρ H.get->LRel S w ρ vs xs->Calls P fid xs.toArray w λe w'=>
    ∃x S' ρ' v H',e=.returned x∧Post v H'∧HRel S' w' ρ' H'.get∧Inv K S' w' ρ' H'.get∧Up S S' w w' ρ ρ'∧VRel S' w' ρ' v x∧Ls ρ L w w'
def Et(v:Option V):Option V:=match v with
 |some v=>some v
 |none=>some<|.tup []
variable{a:Act}
variable{fid:FuncId}
section
variable{P:Program}{T:Tab}{K:Ctx}{Q:Exit->Act->World->Prop}{s:List EI}{n:Nat}{F:Fm}{H:Hp}
theorem xy{w:World}:VRel S w ρ (.tup []) undef:=by simp only[VRel];exact⟨[],rfl,by simp[LRel]⟩
theorem tE{w:World}(J:FRel S w ρ a n F)(d:Option Tmp):FRel S w ρ (a.put d undef) n (F.seto d<|some<|.tup []):=
 J.set d (λu G=>by injection G with G;subst G;exact xy)
theorem cP{w:World}{v:V}{x:Value}(J:FRel S w ρ a n F)(d:Option Tmp)(hx:VRel S w ρ v x):FRel S w ρ (a.put d x) n (F.seto d<|some v):=
 J.set d (λu G=>by injection G with G;subst G;exact hx)
theorem Lp{x y:Code}(k:Go P K Q (.code x) (.seq y::s) n F H):Go P K Q (.code<|.seq x y) s n F H:=λS w ρ a hr hi G=>wp_seq<|k S w ρ a hr hi G
theorem EM{id:Nat}{c:Code}(k:Go P K Q (.code c) (.blk id::s) n F H):Go P K Q (.code<|.block id c) s n F H:=λS w ρ a hr hi G=>wp_block<|k S w ρ a hr hi G
theorem Ha(k:Go P K Q (.ex .normal) s n F H):Go P K Q (.code .skip) s n F H:=λS w ρ a hr hi G=>wp_skip<|k S w ρ a hr hi G
theorem go_ret(k:Go P K Q (.ex .ret) s n F H):Go P K Q (.code .ret) s n F H:=λS w ρ a hr hi G=>wp_ret<|k S w ρ a hr hi G
theorem Hw{id:Nat}(k:Go P K Q (.ex<|.exit id) s n F H):Go P K Q (.code<|.exit id) s n F H:=λS w ρ a hr hi G=>wp_exit<|k S w ρ a hr hi G
theorem Mk{l:Nat}(k:Go P K Q (.ex .normal) s n F H):Go P K Q (.code<|.label l) s n F H:=λS w ρ a hr hi G=>wp_label<|k S w ρ a hr hi G
theorem MG{c:Code}(k:Go P K Q (.code c) (.scp::s) n F H):Go P K Q (.code<|.scope c) s n F H:=λS w ρ a hr hi G=>wp_scope_straight<|k S w ρ a hr hi G
theorem go_loop{c:Code}(j:Nat)(k:Go P K Q (.code c) (.loop c j::s) n F H):Go P K Q (.code<|.loop c) s n F H:=λS w ρ a hr hi hF=>wp_loop_rounds (j+1)<|k S w ρ a hr hi hF
theorem DS{c:Operand}{x y:Code}(J:aO F c=some (.bool true))(k:Go P K Q (.code x) s n F H):Go P K Q (.code<|.cond c x y) s n F H:=λS w ρ a hr hi G=>Ml G.fr (rO<|au G J)<|k S w ρ a hr hi G
theorem DX{c:Operand}{x y:Code}(J:aO F c=some (.bool false))(k:Go P K Q (.code y) s n F H):Go P K Q (.code<|.cond c x y) s n F H:=λS w ρ a hr hi G=>Mx G.fr (rO<|au G J)<|k S w ρ a hr hi G
theorem Cy{id:Nat}{l:List Oper}(k:Go P K Q (.ops l.toArray l) s n F H):Go P K Q (.code<|.region id l.toArray false) s n F H:=λS w ρ a hr hi G=>wp_region_lit<|k S w ρ a hr hi G
theorem Kq{all:Array Oper}(k:Go P K Q (.ex .normal) s n F H):Go P K Q (.ops all []) s n F H:=λS w ρ a hr hi G=>k S w ρ a hr hi G
theorem GM{c:Code}(k:Go P K Q (.code c) s n F H):Go P K Q (.ex .normal) (.seq c::s) n F H:=k
theorem FM{c:Code}(k:Go P K Q (.ex<|.exit i) s n F H):Go P K Q (.ex<|.exit i) (.seq c::s) n F H:=k
theorem En{c:Code}(k:Go P K Q (.ex .ret) s n F H):Go P K Q (.ex .ret) (.seq c::s) n F H:=k
theorem go_xloop{c:Code}(k:Go P K Q (.code c) (.loop c j::s) n F H):Go P K Q (.ex .normal) (.loop c (j+1)::s) n F H:=λS w ρ a hr hi G=>k S w ρ a hr hi G
theorem go_xloopE{c:Code}(k:Go P K Q (.ex<|.exit i) s n F H):Go P K Q (.ex<|.exit i) (.loop c j::s) n F H:=k
theorem go_xloopR{c:Code}(k:Go P K Q (.ex .ret) s n F H):Go P K Q (.ex .ret) (.loop c j::s) n F H:=k
theorem EU{id:Nat}(k:Go P K Q (.ex .normal) s n F H):Go P K Q (.ex .normal) (.blk id::s) n F H:=k
theorem EX{id:Nat}(k:Go P K Q (.ex .ret) s n F H):Go P K Q (.ex .ret) (.blk id::s) n F H:=k
theorem Fa{id:Nat}(hb:Nat.beq i id=true)(k:Go P K Q (.ex .normal) s n F H):Go P K Q (.ex<|.exit i) (.blk id::s) n F H:=λS w ρ a hr hi G=>by have :=aag hb;subst this;simp only[EP.wp,ea,Exit.inBlock,if_true];exact k S w ρ a hr hi G
theorem Er{id:Nat}(hb:Nat.beq i id=false)(k:Go P K Q (.ex<|.exit i) s n F H):Go P K Q (.ex<|.exit i) (.blk id::s) n F H:=λS w ρ a hr hi G=>by
 simp only[EP.wp,ea,Exit.inBlock,if_neg<|Nat.ne_of_beq_eq_false hb];exact k S w ρ a hr hi G
theorem MI(k:Go P K Q (.ex .normal) s n F H):Go P K Q (.ex .normal) (.scp::s) n F H:=k
theorem Nc(k:Go P K Q (.ex<|.exit i) s n F H):Go P K Q (.ex<|.exit i) (.scp::s) n F H:=k
theorem MF(k:Go P K Q (.ex .ret) s n F H):Go P K Q (.ex .ret) (.scp::s) n F H:=k
variable{all:Array Oper}{rest:List Oper}{o:Oper}
theorem KO(J:bt F all o.guard=some false)(k:Go P K Q (.ops all rest) s n (F.seto o.dst<|some<|.tup []) H):Go P K Q (.ops all<|o::rest) s n F H:=λS w ρ a hr hi G=>by
 show wpList P all (ea P Q s) (o::rest) a w;unfold wpList;rw[cj G J];simp only[aaA,if_false];exact k S w ρ _ hr hi<|tE G o.dst
theorem go_opY{v:V}(J:bt F all o.guard=some true)(hy:∀S w ρ a,HRel S w ρ H.get->FRel S w ρ a n F->Yld P S w ρ a o.type o.op v)(k:Go P K Q (.ops all rest) s n (F.seto o.dst<|some v) H):Go P K Q (.ops all<|o::rest) s n F H:=λS w ρ a hr hi G=>by
 show wpList P all (ea P Q s) (o::rest) a w;unfold wpList;rw[if_pos<|cj G J];refine .inl ?_;obtain⟨x,h1,h2⟩:=hy S w ρ a hr G;obtain⟨d,op,ty,ps,af,g⟩:=o;unfold Oper.wp;rw[h2 w Agree.refl d ps af g];exact k S w ρ _ hr hi<|cP G d h1
theorem go_opP(G:TabOk P T){v:V}(J:bt F all o.guard=some true)(hv:qf T H.get F o.op=some v)(k:Go P K Q (.ops all rest) s n (F.seto o.dst<|some v) H):Go P K Q (.ops all<|o::rest) s n F H:=
 go_opY J (λS w ρ a hr O=>wQ G hr O hv) k
theorem go_opD{v:Option V}(hw:bt F all o.guard=some true)(hd:∀S w ρ a,HRel S w ρ H.get->FRel S w ρ a n F->Does P S w ρ H.get a o.type o.op v (ed.app H.get H.nx) ed.tch)(hl:ed.ok H.get)(k:Go P K Q (.ops all rest) s n (F.seto o.dst<|Et v)<|H.app ed):Go P K Q (.ops all<|o::rest) s n F H:=λS w ρ a hr hi O=>by
 show wpList P all (ea P Q s) (o::rest) a w;unfold wpList;rw[if_pos<|cj O hw];refine .inl ?_;obtain⟨nx,w',ρ',h1,h2,Z⟩:=hd S w ρ a hr O;have G:=h2.hr;have J:=hi.eff h2;rw[<-Hp.get_app hl]at G J;obtain⟨d,op,ty,ps,af,g⟩:=o;unfold Oper.wp;rw[h1 d ps af g];cases v with
 |none=>
  subst Z;exact k S w' ρ' _ G J<|tE (O.up h2.up) d
 |some v=>
  obtain⟨x,rfl,h4⟩:=Z;exact k S w' ρ' _ G J<|cP (O.up h2.up) d h4
theorem go_opE(G:TabOk P T){v:Option V}(J:bt F all o.guard=some true)(hv:mJ T H.get F H.nx o.op=some (v,ed))(k:Go P K Q (.ops all rest) s n (F.seto o.dst<|Et v)<|H.app ed):Go P K Q (.ops all<|o::rest) s n F H:=
 go_opD J (λS w ρ a hr O=>zo G hr O H.get_free hv) (uP hv) k
theorem go_opC{args:List Operand}{tys:Array TypeId}{vs:List V}{Post:V->Hp->Prop}(he:cZ P fid=true)(ho:o.op=.call {callee:=.value<|.func fid,args:=args.toArray,argTypes:=tys})(hw:bt F all o.guard=some true)(hv:gd F args=some vs)(hC:CallR P K fid vs H [] Post)
  (k:∀v H',Post v H'->Go P K Q (.ops all rest) s n (F.seto o.dst<|some v) H'):Go P K Q (.ops all<|o::rest) s n F H:=λS w ρ a hr hi G=>by
 show wpList P all (ea P Q s) (o::rest) a w;unfold wpList;rw[if_pos<|cj G hw];refine .inl ?_;obtain⟨xs,h1,h2⟩:=pk G hv;have hc:=hC S w ρ xs hr hi h2;obtain⟨d,op,ty,ps,af,g⟩:=o;simp only at ho;subst ho;have hx:(execOp a.eval ⟨d,.call {callee:=.value<|.func fid,args:=args.toArray,argTypes:=tys},ty,ps,af,g⟩).run P w=.ok (.enter fid xs.toArray) w:=by
  have e:args.toArray.map a.eval=xs.toArray:=by rw[<-G.fr.vals h1];simp
  simp only[execOp,resolve,e];simp[Act.eval,Deferred.ofValue,invoke,mC he]
 unfold Oper.wp;rw[hx,Oper.upon_enter];refine hc.mono λe w1 hR=>?_;obtain⟨x,S',ρ',v,H',rfl,hp,J,O,hu,Z,_⟩:=hR;exact k v H' hp S' w1 ρ' _ J O<|cP (G.up hu) d Z
theorem HB{id:Nat}{l:List Oper}(L:YN)(m sz:Nat)(hsz:l.length=sz)(J:P.follows .mixedOrders=true)(hs:Region.noSelect l.toArray=true)(k:Go P K Q (.drw l.toArray L m sz<|Array.replicate sz false) s n F H):Go P K Q (.code<|.region id l.toArray true) s n F H:=λS w ρ a hr hi O=>by
 refine wp_region_noPanic (wp_region_any J (Bp (B:=Agree S {w with drawn:=w.drawn+1}) (S:=Ls ρ L {w with drawn:=w.drawn+1}) (m:=m) _ _ _ _ ?_));have G:=Chg.drew w;have :=k S {w with drawn:=w.drawn+1} ρ a (hr.chg0 G) (hi.chg0 G) (O.up<|Up.chg0 G) hs;subst hsz;simpa using this
variable{L:YN}{m left i:Nat}{listed:Array Bool}
theorem FH(G:Region.ready .any all listed=[])(k:Go P K Q (.ex .normal) s n F H):Go P K Q (.drw all L m left listed) s n F H:=λS w ρ a hr hi O _=>by
 have J:=k S w ρ a hr hi O;cases left with
 |zero=>exact⟨G,J⟩
 |succ left=>exact⟨λ_=>J,by rw[G];simp⟩
theorem wG{S':Nat->Prop}{w:World}(G:∀b,S b->S' b)(h1:Agree S w w'):∀x,Agree S' w' x->Agree S w x:=λx hx b hb=>(hx b<|G b hb).trans<|h1 b hb
theorem Pg{w:World}(hρ:∀i x,ρ i=some x->ρ' i=some x)(h1:Ls ρ L w w'):∀x,Ls ρ' L w' x->Ls ρ L w x:=λx hx id hid y b hy hb=>(hx id hid y b (hρ _ _ hy) hb).trans<|h1 id hid y b hy hb
theorem kB{S':Nat->Prop}{w:World}(J:Up S S' w w' ρ ρ')(O:Agree S w w')(G:Ls ρ L w w'∨listed.getD m false=true)(h:wpB P all (NoPanic<|ea P Q s) (Agree S' w') (Ls ρ' L w') m left listed a w'):
  Agree S w w'∧(Ls ρ L w w'∨listed.getD m false=true)∧wpB P all (NoPanic<|ea P Q s) (Agree S w) (Ls ρ L w) m left listed a w':=by
 refine⟨O,G,?_⟩;rcases G with G|G
 ·exact Aw (wG J.s O) (λx _=>Pg J.r G x) _ _ _ _ h
 ·
  have key:∀(fuel:Nat) (listed:Array Bool) (a:Act) (w'':World),listed.getD m false=true->wpB P all (NoPanic<|ea P Q s) (Agree S' w') (Ls ρ' L w') m fuel listed a w''->wpB P all (NoPanic<|ea P Q s) (Agree S w) (Ls ρ L w) m fuel listed a w'':=by
   intro fuel
   induction fuel with
   |zero=>intro _ _ _ _ h;exact h
   |succ fuel ih=>
    intro listed a w'' Z h;exact⟨h.1,λi hi=>wpOp_mono (λa' w3 h'=>⟨wG J.s O _ h'.1,.inr<|oN Z,ih _ _ _ (oN Z) h'.2.2⟩)<|h.2 i hi⟩
  exact key _ _ _ _ G h
theorem rH{w:World}:Ls ρ L w w:=λ_ _ _ _ _ _=>rfl
theorem NS{v:V}(G:Nat.beq i m=false)(hi:all[i]?=some o)(hf:Region.free .any all listed i=true)(J:(Region.ready .any all listed).contains i=true)(hw:bt F all o.guard=some true)(hy:∀S w ρ a,HRel S w ρ H.get->FRel S w ρ a n F->Yld P S w ρ a o.type o.op v)
  (k:Go P K Q (.drw all L m left<|listed.setIfInBounds i true) s n (F.seto o.dst<|some v) H):Go P K Q (.drw all L m (left+1) listed) s n F H:=λS w ρ a hr O Z hs=>by
 obtain⟨x,h1,h2⟩:=hy S w ρ a hr Z;refine wpB_pure (Nat.ne_of_beq_eq_false G) hi (Region.noSelect_spec hs) (λ_ _ _ h=>h.elim) left listed a w (Region.free_spec hi hf) (by simpa using J) (.inl ⟨cj Z hw,λw' hA=>?_⟩) Agree.refl (.inl rH)<|k S w ρ _ hr O (cP Z o.dst h1) hs;obtain⟨d,op,ty,ps,af,g⟩:=o;exact h2 w' hA d ps af g
theorem NP(O:TabOk P T){v:V}(G:Nat.beq i m=false)(hi:all[i]?=some o)(hf:Region.free .any all listed i=true)(J:(Region.ready .any all listed).contains i=true)(Z:bt F all o.guard=some true)(hv:qf T H.get F o.op=some v)
 (k:Go P K Q (.drw all L m left<|listed.setIfInBounds i true) s n (F.seto o.dst<|some v) H):Go P K Q (.drw all L m (left+1) listed) s n F H:=NS G hi hf J Z (λS w ρ a hr hF=>wQ O hr hF hv) k
theorem IS(G:Nat.beq i m=false)(hi:all[i]?=some o)(hf:Region.free .any all listed i=true)(J:(Region.ready .any all listed).contains i=true)(hw:bt F all o.guard=some false)
  (k:Go P K Q (.drw all L m left<|listed.setIfInBounds i true) s n (F.seto o.dst<|some<|.tup []) H):Go P K Q (.drw all L m (left+1) listed) s n F H:=λS w ρ a hr O Z hs=>
 wpB_pure (Nat.ne_of_beq_eq_false G) hi (Region.noSelect_spec hs) (λ_ _ _ h=>h.elim) left listed a w (Region.free_spec hi hf) (by simpa using J) (.inr ⟨cj Z hw,rfl⟩) Agree.refl (.inl rH) (k S w ρ _ hr O (tE Z o.dst) hs)
def sx(F:Fm)(op:Op):Option Nat:=match op with
 |.load _ x=>match aO F x with
  |some (.ptr id _)=>some id
  |some (.el id _ _ _)=>some id
  |_=>none
 |_=>none
theorem Mi (hT:TabOk P T) {S:Nat->Prop} {w:World} {ρ:Nat->Option Value} {h:Nat->Ob} {a:Act} {op:Op} {ty:TypeId} {id nid:Nat} {v:V} {ed:ED} (hr:HRel S w ρ h) (hF:FRel S w ρ a n F) (hid:sx F op=some id) (hv:mJ T h F nid op=some (some v,ed)):
  ∃x u b,VRel S w ρ v x∧ρ id=some u∧yt u=some b∧∀w',w'.heap[b]?=w.heap[b]?->Runs P a ty op w' (.value x) w':=by
 have fr:=hF.fr;unfold sx at hid;split at hid
 ·rename_i t x;unfold mJ at hv;simp only at hv;split at hid
  ·rename_i id' o' hx;injection hid with hid;subst hid
   rw[hx]at hv;simp only at hv;split at hv
   ·rename_i d hd;split at hv
    ·rename_i ho;split at hv
     ·rename_i u hu;simp only[aad,Prod.mk.injEq]at hv;obtain⟨rfl,rfl⟩:=hv;rcases rL (hT.ty _ _ hd) hu with⟨h1,h2⟩|⟨h1,h2,rfl⟩
      ·obtain⟨b,y,g1,g2,g3,g4⟩:=GR (P:=P) (ty:=ty) hr fr (au hF hx) ho h1 h2;exact⟨y,_,b,g3,g1,I,λw' hw=>g4 w'<|(World.cell?_of_block (a:=⟨b,_,none⟩) hw).trans g2⟩
      ·obtain⟨b,ys,g1,g2,g3,g4⟩:=Ez (P:=P) (ty:=ty) hr fr (au hF hx) ho h1 h2;exact⟨_,_,b,by simp only[VRel];exact⟨ys,rfl,g3⟩,g1,rfl,λw' hw=>g4 w' λj hj=>(World.cell?_of_block (a:=⟨b,_,none⟩) hw).trans<|g2 j hj⟩
     ·cases hv
    ·cases hv
   ·cases hv
  ·rename_i id' sz i' o' hx;injection hid with hid;subst hid
   rw[hx]at hv;simp only at hv;split at hv
   ·rename_i d hd;split at hv
    ·rename_i ho;split at hv
     ·rename_i hb;have :=aag hb;subst this;split at hv
      ·rename_i v0 hi;rw[oe]at hi;split at hv
       ·rename_i u hu;simp only[aad,Prod.mk.injEq]at hv;obtain⟨rfl,rfl⟩:=hv;have hbk:∀(q:Value) (b:Nat),q.ownBlock=some b->yt q=some b:=λq b hq=>by
         cases q<;>first|(simp only[Value.ownBlock]at hq;cases hq;done)|skip
         rename_i A _ _;cases A<;>simp_all[Value.ownBlock,yt]
        rcases rL (hT.ty _ _ hd) hu with⟨h1,h2⟩|⟨h1,h2,rfl⟩
        ·obtain⟨b,q,y,g1,g1',g2,g3,g4⟩:=DQ (P:=P) (ty:=ty) hr fr (au hF hx) ho h1 hi h2;exact⟨y,q,b,g3,g1,hbk q b g1',λw' hw=>g4 w'<|(World.cell?_of_block (a:=⟨b,_,none⟩) hw).trans g2⟩
        ·obtain⟨b,q,ys,g1,g1',g2,g3,g4⟩:=CK (P:=P) (ty:=ty) hr fr (au hF hx) ho h1 hi h2;exact⟨_,q,b,by simp only[VRel];exact⟨ys,rfl,g3⟩,g1,hbk q b g1',λw' hw=>g4 w' λj hj=>(World.cell?_of_block (a:=⟨b,_,none⟩) hw).trans<|g2 j hj⟩
       ·cases hv
      ·cases hv
     ·cases hv
    ·cases hv
   ·cases hv
  ·cases hid
 ·cases hid
theorem Js(hT:TabOk P T){v:V}{id:Nat}{ed:ED}(G:Nat.beq i m=false)(J:zl .any all m i=true)(O:listed.getD m false=false)(hi:all[i]?=some o)(hf:Region.free .any all listed i=true)(Z:(Region.ready .any all listed).contains i=true)(hw:bt F all o.guard=some true)
  (hid:sx F o.op=some id) (hL:L.contains id=true) (hv:mJ T H.get F H.nx o.op=some (some v,ed))
  (k:Go P K Q (.drw all L m left<|listed.setIfInBounds i true) s n (F.seto o.dst<|some v) H):Go P K Q (.drw all L m (left+1) listed) s n F H:=λS w ρ a hr hiv hF hs=>by
 obtain⟨x,u,b,h1,h2,h3,h4⟩:=Mi (ty:=o.type) hT hr hF hid hv;refine Mm (Nat.ne_of_beq_eq_false G) J hi (Region.noSelect_spec hs) (λ_ _ _ h=>h.elim) left listed a w (Region.free_spec hi hf) (by simpa using Z) (.inl ⟨cj hF hw,λw' hA=>?_⟩) Agree.refl rH O<|k S w ρ _ hr hiv (cP hF o.dst h1) hs;have hb:=hA.2 id (by simpa using hL) u b h2 h3;obtain⟨d,op,ty,ps,af,g⟩:=o;exact h4 w' hb d ps af g
def db(h:Nat->Ob):YN->Bool
 |[]=>true
 |i::r=>match h i with
  |.var _ _=>db h r
  |.row _ _ _=>db h r
  |_=>false
theorem mZ{S:Nat->Prop}{w:World}{ρ:Nat->Option Value}{h:Nat->Ob}(hr:HRel S w ρ h):∀{L:YN},db h L=true->∀id,id∈L->∀x b,ρ id=some x->yt x=some b->own ρ id (h id) b
 |[],_,id,hid,x,b,hx,hb=>by simp at hid
 | j::r,hl,id,hid,x,b,hx,hb=>by
  have hown:∀o,h j=o->(∃t cs,o=.var t cs)∨(∃e sz els,o=.row e sz els)->∀x b,ρ j=some x->yt x=some b->own ρ j (h j) b:=by
   rintro o ho (⟨t,cs,rfl⟩|⟨e,sz,els,rfl⟩) x b hx hb
   ·obtain⟨c,xs,g1,_⟩:=ub hr ho;rw[g1]at hx;cases hx;simp only[yt,aad]at hb;subst hb;rw[ho];exact g1
   ·obtain⟨v,xs,g1,g2,_⟩:=jK hr ho;rw[g1]at hx;cases hx;rw[ho];refine⟨_,g1,?_⟩;obtain⟨A,c,rfl,_⟩:=gU g2;cases A<;>simp_all[Value.ownBlock,yt]
  simp only[db]at hl;rcases List.mem_cons.1 hid with e|e
  ·subst e;split at hl
   ·rename_i t cs ho;exact hown _ ho (.inl ⟨t,cs,rfl⟩) x b hx hb
   ·rename_i e sz els ho;exact hown _ ho (.inr ⟨e,sz,els,rfl⟩) x b hx hb
   ·cases hl
  ·split at hl
   ·exact mZ hr hl id e x b hx hb
   ·exact mZ hr hl id e x b hx hb
   ·cases hl
def ED.clear(L:YN):ED->Bool
 |.nop=>true
 |.new _=>true
 |.set id _=>!L.contains id
 |.repl id _=>!L.contains id
theorem Ee{w:World}{h h':Nat->Ob}(hr:HRel S w ρ h)(he:Eff S w w' ρ ρ' h h' ed.tch)(hl:db h L=true)(J:ed.clear L=true):Ls ρ L w w':=λid hid x b hx hb=>by
 have Z:=mZ hr hl id hid x b hx hb;refine he.chg.block b (gv (hr.ob id) Z) ?_;rintro⟨j,G,O⟩;have e:=hr.dis j id b O Z;subst e;cases ed with
 |nop=>exact G
 |new _=>exact G
 |set k _=>simp only[ED.tch]at G;subst G;simp[ED.clear]at J;exact J hid
 |repl k _=>simp only[ED.tch]at G;subst G;simp[ED.clear]at J;exact J hid
theorem zt{a b:Bool}(h:(a||b)=true):a=true∨b=true:=by simpa using h
theorem pC{S:Nat->Prop}{B:World->Prop}{Sx:World->Prop}{w:World}{Q':Exit->Act->World->Prop}(G:Region.ready .any all listed=[i])(Z:wpOp P all Q' i (λa' w'=>B w'∧(Sx w'∨(listed.setIfInBounds i true).getD m false=true)∧wpB P all Q' B Sx m left (listed.setIfInBounds i true) a' w') a w):wpB P all Q' B Sx m (left+1) listed a w:=by
 refine⟨λJ=>(by rw[G]at J;cases J),λj O=>?_⟩;rw[G]at O;obtain rfl:j=i:=by simpa using O
 exact Z
theorem go_d1S(G:Region.ready .any all listed=[i])(hi:all[i]?=some o)(Z:bt F all o.guard=some false)(k:Go P K Q (.drw all L m left<|listed.setIfInBounds i true) s n (F.seto o.dst<|some<|.tup []) H):Go P K Q (.drw all L m (left+1) listed) s n F H:=λS w ρ a hr J O hs=>by refine pC (S:=S) G ?_;unfold wpOp;simp only[hi];rw[cj O Z];simp only[aaA,if_false];exact⟨Agree.refl,.inl rH,k S w ρ _ hr J (tE O o.dst) hs⟩
theorem LQ{v:V}(G:Region.ready .any all listed=[i])(hi:all[i]?=some o)(Z:bt F all o.guard=some true)(hy:∀S w ρ a,HRel S w ρ H.get->FRel S w ρ a n F->Yld P S w ρ a o.type o.op v)
  (k:Go P K Q (.drw all L m left<|listed.setIfInBounds i true) s n (F.seto o.dst<|some v) H):Go P K Q (.drw all L m (left+1) listed) s n F H:=λS w ρ a hr J O hs=>by
 refine pC (S:=S) G ?_;obtain⟨x,h1,h2⟩:=hy S w ρ a hr O;unfold wpOp;simp only[hi];rw[if_pos<|cj O Z];refine .inl ?_;have hk:=k S w ρ _ hr J (cP O o.dst h1) hs;obtain⟨d,op,ty,ps,af,g⟩:=o;unfold Oper.wp;rw[h2 w Agree.refl d ps af g];exact⟨Agree.refl,.inl rH,hk⟩
theorem Fw{v:Option V}(hrd:Region.ready .any all listed=[i])(hi:all[i]?=some o)(hw:bt F all o.guard=some true)(hd:∀S w ρ a,HRel S w ρ H.get->FRel S w ρ a n F->Does P S w ρ H.get a o.type o.op v (ed.app H.get H.nx) ed.tch)(hl:ed.ok H.get)
  (hc:((db H.get L&&ed.clear L)||(listed.setIfInBounds i true).getD m false)=true) (k:Go P K Q (.drw all L m left<|listed.setIfInBounds i true) s n (F.seto o.dst<|Et v)<|H.app ed):Go P K Q (.drw all L m (left+1) listed) s n F H:=λS w ρ a hr hiv Z hs=>by
 refine pC (S:=S) hrd ?_;obtain⟨nx,w',ρ',h1,h2,h3⟩:=hd S w ρ a hr Z;have G:=h2.hr;have J:=hiv.eff h2;rw[<-Hp.get_app hl]at G J;have hA:=tT hr h2;have O:Ls ρ L w w'∨(listed.setIfInBounds i true).getD m false=true:=(zt hc).imp (λh=>by simp only[aaa]at h;exact Ee hr h2 h.1 h.2) id
 unfold wpOp;simp only[hi];rw[if_pos<|cj Z hw];refine .inl ?_;have kN:=λ(e:v=none)=>k S w' ρ' (a.put o.dst undef) G J (by subst e;exact tE (Z.up h2.up) o.dst) hs;have kV:=λ(x:Value) (u:V) (e:v=some u) (hx:VRel S w' ρ' u x)=>k S w' ρ' (a.put o.dst x) G J (by subst e;exact cP (Z.up h2.up) o.dst hx) hs;obtain⟨d,op,ty,ps,af,g⟩:=o;unfold Oper.wp;rw[h1 d ps af g];cases v with
 |none=>
  subst h3;exact kB h2.up hA O<|kN I
 |some v=>
  obtain⟨x,rfl,h4⟩:=h3;exact kB h2.up hA O<|kV x v I h4
theorem go_d1C{args:List Operand}{tys:Array TypeId}{vs:List V}{Post:V->Hp->Prop}{L':YN}(he:cZ P fid=true)(J:Region.ready .any all listed=[i])(hi:all[i]?=some o)(ho:o.op=.call {callee:=.value<|.func fid,args:=args.toArray,argTypes:=tys})(hw:bt F all o.guard=some true)(hv:gd F args=some vs)(hC:CallR P K fid vs H L' Post)
  (hc:L'=L∨(listed.setIfInBounds i true).getD m false=true) (k:∀v H',Post v H'->Go P K Q (.drw all L m left<|listed.setIfInBounds i true) s n (F.seto o.dst<|some v) H'):Go P K Q (.drw all L m (left+1) listed) s n F H:=λS w ρ a hr O G hs=>by
 refine pC (S:=S) J ?_;obtain⟨xs,h1,h2⟩:=pk G hv;have Z:=hC S w ρ xs hr O h2;unfold wpOp;simp only[hi];rw[if_pos<|cj G hw];refine .inl ?_;obtain⟨d,op,ty,ps,af,g⟩:=o;simp only at ho;subst ho;have hx:(execOp a.eval ⟨d,.call {callee:=.value<|.func fid,args:=args.toArray,argTypes:=tys},ty,ps,af,g⟩).run P w=.ok (.enter fid xs.toArray) w:=by
  have e:args.toArray.map a.eval=xs.toArray:=by rw[<-G.fr.vals h1];simp
  simp only[execOp,resolve,e];simp[Act.eval,Deferred.ofValue,invoke,mC he]
 unfold Oper.wp;rw[hx,Oper.upon_enter];refine Z.mono λe w1 hR=>?_;obtain⟨x,S',ρ',v,H',rfl,hp,hr',hi',hu,hvr,hls⟩:=hR;have hk:=k v H' hp S' w1 ρ' _ hr' hi' (cP (G.up hu) d hvr) hs;exact kB hu (λb hb=>hu.blk b hb<|hr.slt b hb) (hc.imp (λe=>by subst e;exact hls) id) hk
end
section
variable{P:Program}{T:Tab}{K:Ctx}{Q:Exit->Act->World->Prop}{s:List EI}{n:Nat}{F:Fm}{S S':Nat->Prop}{w w':World}{ρ ρ':Nat->Option Value}{h h1 h1' h2:Nat->Ob}{a:Act}
theorem Fb(hr:HRel S w ρ h)(hi:Inv K S w ρ h)(hh1:∀i,h1 i=h i∨h1 i=.gone)(Z:HRel S' w' ρ' h1')(G:Inv ⟨w,S,λb=>∃id,own ρ id (h1 id) b,ρ⟩ S' w' ρ' h1')
  (hh2:∀i,(h2 i=h1' i∨h2 i=.gone)∨(h2 i=h i∧h1 i=.gone∧h i≠.free)):
  HRel S' w' ρ' h2∧Inv K S' w' ρ' h2∧Up S S' w w' ρ ρ'∧∀L,db h L=true->(∀id,id∈L->h1 id=.gone)->Ls ρ L w w':=by
 have h1own:∀id b,own ρ id (h1 id) b->own ρ id (h id) b:=λid b hb=>by
  rcases hh1 id with e|e
  ·rw[e]at hb;exact hb
  ·rw[e]at hb;exact hb.elim
 have up:Up S S' w w' ρ ρ':=⟨G.s0,λb hb hlt=>G.chg.block b hlt λ⟨id,O⟩=>hr.sep id b (h1own id b O) hb,G.pin⟩;have frame:∀i b,h1 i=.gone->own ρ i (h i) b->¬∃id,own ρ id (h1 id) b:=λi b hg O ⟨id,hid⟩=>by
  have e:=hr.dis i id b O<|h1own id b hid;subst e;rw[hg]at hid;exact hid.elim
 have cases2:∀i b,own ρ' i (h2 i) b->own ρ' i (h1' i) b∨(h1 i=.gone∧own ρ i (h i) b):=λi b hb=>by
  rcases hh2 i with(e|e)|⟨e,e1,e2⟩
  ·rw[e]at hb;exact .inl hb
  ·rw[e]at hb;exact hb.elim
  ·rw[e]at hb;exact .inr ⟨e1,LR G.pin (hr.ob i) hb⟩
 have far:∀i b,h1 i=.gone->own ρ i (h i) b->¬S' b:=λi b hg O hS=>by
  rcases G.s1 b hS with J|J|J
  ·exact hr.sep i b O J
  ·exact frame i b hg O J
  ·have :=gv (hr.ob i) O;simp only at J;omega
 have apart:∀i j b,own ρ' i (h1' i) b->h1 j=.gone->own ρ j (h j) b->False:=λi j b O hg hb=>by
  rcases G.ow i b O with J|J
  ·exact frame j b hg hb J
  ·have :=gv (hr.ob j) hb;simp only at J;omega
 refine⟨⟨λi=>?_,λi b hb=>?_,λi j b hbi hbj=>?_,Z.slt⟩,⟨?_,λb hb=>G.s0 b<|hi.s0 b hb,λb hb=>?_,λi b hb=>?_,λid x hx=>G.pin _ _<|hi.pin id x hx⟩,up,λL hl hg id hid x b hx hb=>?_⟩
 ·rcases hh2 i with(e|e)|⟨e,e1,e2⟩
  ·rw[e];exact Z.ob i
  ·rw[e];trivial
  ·rw[e];exact(hr.ob i).up up (λhf=>absurd hf e2) λb hb=>G.chg.block b (gv (hr.ob i) hb)<|frame i b e1 hb
 ·rcases cases2 i b hb with J|⟨J,h4⟩
  ·exact Z.sep i b J
  ·exact far i b J h4
 ·rcases cases2 i b hbi with J|⟨J,h4⟩<;>rcases cases2 j b hbj with h5|⟨h5,h6⟩
  ·exact Z.dis i j b J h5
  ·exact(apart i j b J h5 h6).elim
  ·exact(apart j i b h5 J h4).elim
  ·exact hr.dis i j b h4 h6
 ·refine hi.chg.trans G.chg ?_;rintro b ⟨id,O⟩;exact hi.ow id b<|h1own id b O
 ·rcases G.s1 b hb with J|⟨id,J⟩|J
  ·exact hi.s1 b J
  ·exact .inr<|hi.ow id b<|h1own id b J
  ·exact .inr<|.inr<|aao hi.chg.size J
 ·rcases cases2 i b hb with J|⟨J,h4⟩
  ·rcases G.ow i b J with⟨id,h5⟩|h5
   ·exact hi.ow id b<|h1own id b h5
   ·exact .inr<|aao hi.chg.size h5
  ·exact hi.ow i b h4
 ·have O:=mZ hr hl id hid x b hx hb;exact G.chg.block b (gv (hr.ob id) O)<|frame id b (hg id hid) O
def nL:Nat->List V->Fm
 |0,_=>[]
 |n+1,[]=>none::nL n []
 |n+1,v::r=>some v::nL n r
theorem Ad:∀(n:Nat) (vs:List V),(nL n vs).length=n
 |0,_=>rfl
 |n+1,[]=>by simp[nL,Ad n []]
 |n+1,v::r=>by simp[nL,Ad n r]
theorem zY:∀(n:Nat) (vs:List V) (i:Nat) (v:V),(nL n vs).get i=some v->vs[i]?=some v
 |0,_,i,v,h=>by simp[nL,Fm.get]at h
 |n+1,[],0,v,h=>by simp[nL,Fm.get]at h
 |n+1,[],i+1,v,h=>by have :=zY n [] i v (by simpa[nL,Fm.get]using h);simp at this
 |n+1,u::r,0,v,h=>by simpa[nL,Fm.get]using h
 |n+1,u::r,i+1,v,h=>by have :=zY n r i v (by simpa[nL,Fm.get]using h);simpa using this
theorem Az{H:Hp}{fn:Func}{c:Code}{vs:List V}{R:Ending->World->Prop}(hf:P.funcs[fid]?=some fn)(hb:fn.body=some c)(J:Nat.ble vs.length fn.ntmps=true)(hr:HRel S w ρ H.get)(hi:Inv K S w ρ H.get)(hx:LRel S w ρ vs xs)
  (k:Go P K (bodyPost P fn R) (.code c) [] fn.ntmps (nL fn.ntmps vs) H):Calls P fid xs.toArray w R:=by
 refine calls_of_wp hf hb<|k S w ρ _ hr hi ⟨?_,I,hr.slt.gl,?_,λi v hv=>?_⟩
 ·have h1:vs.length<=fn.ntmps:=Nat.le_of_ble_eq_true J;have h2:=hx.length;simp;omega
 ·exact Nat.le_of_eq<|Ad _ _
 ·have h1:=zY _ _ _ _ hv;obtain⟨x,h2,O⟩:=hx.get h1;refine⟨x,?_,O⟩;have G:i<xs.length:=(List.getElem?_eq_some_iff.1 h2).1;show(xs.toArray++Array.replicate (fn.ntmps-xs.toArray.size) undef)[i]?=some x;rw[Array.getElem?_append_left<|by simpa using G];simpa using h2
def Jm (T:Tab) (h:Nat->Ob) (F:Fm):ResultVar->Option V
 |.tmp t=>F.get t
 |.cell t ty=>match T.ty ty with
  |some d=>match F.get t with
   |some (.ptr id 0)=>match h id with
    |.var _ cs=>qF d cs 0
    |_=>none
   |some (.box cs 0)=>qF d cs 0
   |_=>none
  |none=>none
def tX(T:Tab)(h:Nat->Ob)(F:Fm):List ResultVar->Option (List V)
 |[]=>some []
 |x::r=>match Jm T h F x with
  |some v=>match tX T h F r with
   |some vs=>some<|v::vs
   |none=>none
  |none=>none
def oU:List V->V
 |[v]=>v
 |vs=>.tup vs
theorem FX(td:TdOk P t d){off:Nat}{v:V}(G:LRel S w ρ cs xs)(J:∀j,j<xs.length->w.cell? ⟨b,off+j,none⟩=xs[j]?)(hv:qF d cs 0=some v):∃y,(loadVar t ⟨b,off,none⟩).run P w=.ok y w∧VRel S w ρ v y:=by
 have O:=G.length;rcases rL td hv with⟨h1,h2⟩|⟨h1,h2,rfl⟩
 ·obtain⟨y,Z,h4⟩:=G.get h2;have h0:0<xs.length:=(List.getElem?_eq_some_iff.1 Z).1;have :=Df (P:=P) (w:=w) (p:=⟨b,off,none⟩) h1 (by have :=J 0 h0;rw[Nat.add_zero]at this;rw[this,Z]);refine⟨y,?_,h4⟩;simp only[Instr.loadAt,Instr.sureAddr]at this;simpa using this
 ·have :=Dl (P:=P) (w:=w) (b:=b) (o:=off) (cs:=xs.take d.size) h1 (by simp;omega) (λj hj=>by rw[J j (by omega),List.getElem?_take,if_pos hj]);refine⟨_,?_,by simp only[VRel];exact⟨xs.take d.size,rfl,by simpa using G.take d.size⟩⟩;simp only[Instr.loadAt,Instr.sureAddr]at this;simpa using this
theorem NK(hT:TabOk P T)(hr:HRel S w ρ h)(G:FRel S w ρ a n F){x:ResultVar}{v:V}(hv:Jm T h F x=some v):∃y,(AL a x).run P w=.ok y w∧VRel S w ρ v y:=by
 unfold Jm at hv;split at hv
 ·rename_i t;obtain⟨y,h1,h2⟩:=G.get t v hv;exact⟨y,by simp[AL,Array.getD_eq_getD_getElem?,h1],h2⟩
 ·rename_i t ty;split at hv
  ·rename_i d hd;split at hv
   ·rename_i id hid;split at hv
    ·rename_i ho;obtain⟨b,xs,g1,g2,J⟩:=ub hr ho;obtain⟨y,h1,h2⟩:=G.get t _ hid;simp only[VRel]at h2;obtain⟨b',O,rfl⟩:=h2;rw[g1]at O;simp only[aad,Value.pointer.injEq,Addr.mk.injEq,and_true]at O;subst O;obtain⟨z,k1,Z⟩:=FX (hT.ty _ _ hd) J (b:=b) (off:=0) (λj hj=>by rw[Nat.zero_add,g2.cell]) hv;exact⟨z,by simp[AL,Array.getD_eq_getD_getElem?,h1,asAddr,k1],Z⟩
    ·cases hv
   ·rename_i cs hid;obtain⟨y,h1,h2⟩:=G.get t _ hid;simp only[VRel]at h2;obtain⟨b,off,xs,rfl,_,_,J,g4⟩:=h2;obtain⟨z,k1,Z⟩:=FX (hT.ty _ _ hd) J (b:=b) (off:=off) g4 hv;exact⟨z,by simp[AL,Array.getD_eq_getD_getElem?,h1,asAddr,k1],Z.up up0⟩
   ·cases hv
  ·cases hv
theorem GI(hT:TabOk P T)(hr:HRel S w ρ h)(hF:FRel S w ρ a n F):∀{l:List ResultVar} {vs:List V},tX T h F l=some vs->∃ys,(l.mapM<|AL a).run P w=.ok ys w∧LRel S w ρ vs ys
 |[],vs,hv=>by simp only[tX,aad]at hv;subst hv;exact⟨[],by simp,by simp[LRel]⟩
 | x::r,vs,hv=>by
  simp only[tX]at hv;split at hv
  ·rename_i v h1;split at hv
   ·rename_i us h2;simp only[aad]at hv;subst hv;obtain⟨y,g1,g2⟩:=NK hT hr hF h1;obtain⟨ys,g3,g4⟩:=GI hT hr hF h2;exact⟨y::ys,by simp[List.mapM_cons,g1,g3],⟨y,ys,rfl,g2,g4⟩⟩
   ·cases hv
  ·cases hv
theorem Hy{vs:List V}{ys:List Value}(G:LRel S w ρ vs ys):VRel S w ρ (oU vs) (yn ys):=by
 match vs,ys,G with
 |[],ys,G=>simp only[LRel]at G;subst G;simp only[oU,yn,VRel];exact⟨[],rfl,by simp[LRel]⟩
 |[v],ys,G=>
  simp only[LRel]at G;obtain⟨x,zs,rfl,h1,rfl⟩:=G;exact h1
 |v::u::r,ys,G=>
  have J:=G;simp only[LRel]at G;obtain⟨x,zs,rfl,h1,y,zs',rfl,h2,O⟩:=G;simp only[oU,yn,VRel];exact⟨_,I,J⟩
theorem ret_go(O:TabOk P T){fn:Func}{R:Ending->World->Prop}{rs:List ResultVar}{vs:List V}{e:Exit}(Z:e=.ret∨e=.normal)(G:fn.results=rs.toArray)(hr:HRel S w ρ h)(J:FRel S w ρ a n F)(hv:tX T h F rs=some vs)(hR:∀x,VRel S w ρ (oU vs) x->R (.returned x) w):bodyPost P fn R e a w:=by
 obtain⟨ys,h0,h1⟩:=GI O hr J hv;have hb:bodyPost P fn R .ret a w:=by
  refine bodyPost_ret (v:=yn ys) ?_ J.defers<|hR _<|Hy h1;have e:(Array.mapM (AL a) rs.toArray).run P w=.ok ys.toArray w:=by rw[List.mapM_toArray];simp[h0]
  unfold results;rw[G];change ((Array.mapM (AL a) rs.toArray)>>=λvs=>pure (if h:vs.size=1 then vs[0]else .tuple vs)).run P w=_;simp only[Sem.run_bind,e,Result.andThen_ok,Sem.run_pure]
  match ys with
  |[]=>rfl
  |[v]=>rfl
  |v::u::r=>simp[yn]
 rcases Z with rfl|rfl
 ·exact hb
 ·exact hb
end
end Go.Proofs.YthnohcipianijaaGreatDoor
