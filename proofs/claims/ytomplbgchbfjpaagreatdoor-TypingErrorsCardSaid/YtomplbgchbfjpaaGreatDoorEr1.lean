/- Contracts of the functions that the law reaches, part 1. -/
import Derived.Test.YtomplbgchbfjpaaGreatDoorProg
import Derived.WalkKit
import Derived.WalkMore
import Derived.Lib.Hide
import Derived.Below
import Derived.Laws.OwnMore
import Derived.Deep.AppendLies
import Derived.Deep.Draws
import Derived.Maps.AppendAt
import Derived.OrdersHeld
import Derived.Deep.RegionHeld3
import Derived.Deep.LoopGhost
import Derived.Laws.MakeOwn
import Derived.LoopN
import Derived.Scope
import Derived.Maps.Keyed
import Derived.Laws.StructEq
import Derived.WideKeyRuns
import Derived.Laws.Pointers
import Derived.ChangeKeysEq
import Derived.Laws.BytesArg
import Derived.Shelf.Spec.SlicesGrow
import Derived.WalkLawsBesides
import Derived.WalkSpells
import Derived.Outline
import Derived.Deep.Light
import Derived.Lib.Bytealg
import Derived.Lib.Walk
import Derived.BigQuiet
import Derived.Deep.QuietTactic
import Derived.ProofKit
import Derived.ChangeSlices
import Derived.Deep.Slices
import Derived.Test.YtomplbgchbfjpaaGreatDoorRows
import Derived.ChangeSame
import Derived.ChangeArms
import Derived.OpenShut
import Derived.Deep.DeepHandedRow
import Derived.LaidLaws
import Derived.ShutString
import Derived.SizedLaws
import Derived.JoinedCond
import Derived.Deep.CondSized
import Derived.Test.YtomplbgchbfjpaaGreatDoorCards
import Derived.Test.YtomplbgchbfjpaaGreatDoorTie
set_option linter.unusedVariables false
set_option linter.unusedSimpArgs false
namespace Go.Proofs.YtomplbgchbfjpaaGreatDoor
open _root_.Go.Proofs.Tryz
open Go.RowKit
structure Fr (a:Act) (n:Nat) (f:Nat→Option Value):Prop where
 size:a.tmps.size=n
 defers:a.defers=[]
 get:∀i v,f i=some v→a.tmps[i]?=some v
def up(f:Nat→Option Value)(d:Nat)(v:Value):Nat→Option Value:=λi=>match Nat.beq i d with|true=>some v|false=>f i
def uL(f:Nat→Option Value)(ops:Array Oper)(j:Nat):Option Value:=((ops[j]?).bind (·.dst)).bind f
def DL(f:Nat→Option Value)(ops:Array Oper)(g:Option (Nat×Bool)):Bool:=
 match g with
 |none=>true
 |some (j,b)=>match uL f ops j with
  |some (.bool c)=>c==b
  |_=>false
def Bn(f:Nat→Option Value)(ops:Array Oper)(g:Option (Nat×Bool)):Bool:=
 match g with
 |none=>false
 |some (j,b)=>match uL f ops j with
  |some (.bool c)=>c !=b
  |some (.tuple _)=>true
  |_=>false
def aS(f:Nat→Option Value):Operand→Option Value
 |.tmp t=>f t
 |.const v=>some v
 |.global g=>some (.pointer (some ⟨g,0,none⟩))
 |.func g=>some (.func (.func g) #[] #[])
variable{x:Operand}
variable{j:Nat}
section
variable{P:Program}{ops:Array Oper}{Q:Exit→Act→World→Prop}{a:Act}{w:World}{rest:List Oper}{n:Nat}{f:Nat→Option Value}
theorem Fr.eval(h:Fr a n f){v:Value}(hx:aS f x=some v):a.eval x=v:=by
 cases x with
 |tmp t=>
  have :=h.get t v hx;simp[Act.eval,Array.getD_eq_getD_getElem?,this]
 |const u=>simpa[aS,Act.eval]using hx
 |global g=>simpa[aS,Act.eval]using hx
 |func g=>simpa[aS,Act.eval]using hx
theorem Fq(h:Fr a n f){b:Bool}(G:uL f ops j=some (.bool b)):yielded ops a.tmps j=some b:=by
 unfold uL at G;unfold yielded;cases J:(ops[j]?).bind (·.dst)with
 |none=>rw[J]at G;cases G
 |some d=>
  rw[J]at G;have :=h.get d _ G;simp[this]
theorem JM(h:Fr a n f){vs:Array Value}(G:uL f ops j=some (.tuple vs)):yielded ops a.tmps j=none:=by
 unfold uL at G;unfold yielded;cases J:(ops[j]?).bind (·.dst)with
 |none=>rw[J]at G;cases G
 |some d=>
  rw[J]at G;have :=h.get d _ G;simp[this]
theorem CE(h:Fr a n f){o:Oper}(G:DL f ops o.guard=true):Region.wanted o (yielded ops a.tmps)=true:=by
 unfold Region.wanted;unfold DL at G;split at G
 ·rename_i J;rw[J]
 ·rename_i j b J;rw[J];split at G
  ·rename_i c O;show(yielded ops a.tmps j==some b)=true;rw[Fq h O];simpa using G
  ·cases G
theorem Cv(h:Fr a n f){o:Oper}(G:Bn f ops o.guard=true):Region.wanted o (yielded ops a.tmps)=false:=by
 unfold Region.wanted;unfold Bn at G;split at G
 ·cases G
 ·rename_i j b O;rw[O];split at G
  ·rename_i c J;show(yielded ops a.tmps j==some b)=false;rw[Fq h J];cases c<;>cases b<;>first|rfl|cases G
  ·rename_i vs J;show(yielded ops a.tmps j==some b)=false;rw[JM h J];rfl
  ·cases G
variable{d:Nat}{ty:TypeId}{ps:String}{af:Array Edge}{g:Option (Nat×Bool)}
end
def Ext(w w':World):Prop:=Below w.heap.size w w'
variable{p:Addr}
variable{k:Nat}
section
variable{w w1 w2:World}
theorem Ext.refl(w:World):Ext w w:=Below.refl _ _
theorem Ext.size(h:Ext w w1):w.heap.size≤w1.heap.size:=Below.size h
theorem Ext.trans(h:Ext w w1)(k:Ext w1 w2):Ext w w2:=Below.trans h (Below.mono k h.size)
theorem Ext.drew(h:Ext w w1):Ext w w1.drew:=Below.drew h
theorem Ext.drewN(h:Ext w w1)(n:Nat):Ext w (w1.drewN n):=
 have h':Below w.heap.size w w1:=h
 ⟨h'.os,h'.tape,h'.output,h'.size,h'.block⟩
theorem Ext.alloc(h:Ext w w1)(o:Obj):Ext w (w1.alloc o):=Below.alloc h h.size o
theorem Ext.setCell(h:Ext w w1)(G:w.heap.size≤p.block)(u:Value):Ext w (w1.setCell p u):=Below.setCell h G u
theorem Ext.grown(h:Ext w w1){row:Option Nat}(G:w1.grownBy w2 row)(hr:∀k,row=some k→w.heap.size≤k):Ext w w2:=Below.grown h G h.size hr
theorem Ext.cell(h:Ext w w1)(G:p.block<w.heap.size):w1.cell? p=w.cell? p:=Below.cell h G
theorem Ext.frozen(h:Ext w w1)(G:p.block<w.heap.size):w1.frozen? p=w.frozen? p:=Below.frozen h G
theorem Ext.block(h:Ext w w1)(G:k<w.heap.size):w1.heap[k]?=w.heap[k]?:=Below.block h k G
end
def Row(w:World)(size:Nat)(A:Option Addr)(n:Nat)(xs:List Value):Prop:=
 xs.length=n*size∧(0<n→∃b off,A=some ⟨b,off,none⟩∧b<w.heap.size∧∀j,j<n*size→w.cell? ⟨b,off+j,none⟩=xs[j]?)
variable{base:Nat}{e:TypeId}
section
variable{w w':World}{size n:Nat}{A:Option Addr}{xs:List Value}
theorem Row.none_:Row w size A 0 []:=⟨by simp,λh=>absurd h (by omega)⟩
theorem Row.of_own{c:Nat}(h:w.ownsRow base e size (.slice A n c) n xs):Row w size A n xs:=by
 refine⟨h.1,λO=>?_⟩;obtain⟨g,cap,hv,_,J⟩:=h.form O;have U:A=some ⟨g,0,none⟩:=by injection hv
 subst U;refine⟨g,0,rfl,J,λj Z=>?_⟩;have G:j<xs.length:=by rw[h.1];exact Z
 have :=h.cells (g:=g) rfl j xs[j] (List.getElem?_eq_getElem G);rw[List.getElem?_eq_getElem G,Nat.zero_add,←this];unfold Addr.add;split<;>simp_all
end
variable{n:Nat}{xs:List Value}
theorem KZ{w:World}{size:Nat}{v:Value}(h:w.ownsRow base e size v n xs):∃A c,v=.slice A n c∧n≤c∧c≤maxLen:=by
 rcases h.2 with⟨rfl,rfl⟩|⟨g,cap,cur,rfl,_,_,G,J,_,_⟩
 ·exact⟨none,0,rfl,Nat.le_refl _,Nat.zero_le _⟩
 ·exact⟨_,cap,rfl,G,J⟩
variable{w':World}
theorem NM{w:World}{size:Nat}{v:Value}(h:w.ownsRow base e size v n xs)(U:Ext w w'):w'.ownsRow base e size v n xs:=by
 refine⟨h.1,?_⟩;rcases h.2 with Z|⟨g,cap,cur,rfl,hb,J,h4⟩
 ·exact .inl Z
 ·refine .inr ⟨g,cap,cur,rfl,hb,?_,h4⟩;have G:g<w.heap.size:=by
   rcases Nat.lt_or_ge g w.heap.size with G|O
   ·exact G
   ·rw[Array.getElem?_eq_none O]at J;cases J
  rw[U.block G,J]
variable{P:Program}{t:TypeId}{b:Nat}
theorem Gr{z:Value}{s:Nat}(h:(P.info? t).map (λi=>(i.zero,i.size,i.bytes))=some (some z,s,b)):∃i,P.info? t=some i∧i.zero=some z∧i.size=s∧i.bytes=b:=by
 obtain⟨G,hi,hx⟩:=Option.map_eq_some_iff.1 h;simp only[Prod.mk.injEq]at hx;exact⟨G,hi,hx.1,hx.2.1,hx.2.2⟩
structure Chg (X:List Nat) (w w':World):Prop where
 os:w'.os=w.os
 tape:w'.tape=w.tape
 output:w'.output=w.output
 size:w.heap.size≤w'.heap.size
 block:∀k,k<w.heap.size→k∉X→w'.heap[k]?=w.heap[k]?
section
variable{X Y:List Nat}{w w1 w2:World}
theorem Chg.refl(X:List Nat)(w:World):Chg X w w:=⟨rfl,rfl,rfl,Nat.le_refl _,λ_ _ _=>rfl⟩
theorem Chg.trans(h:Chg X w w1)(k:Chg Y w1 w2)(J:∀b,b∈Y→b∈X∨w.heap.size≤b):Chg X w w2:=
 ⟨k.os.trans h.os,k.tape.trans h.tape,k.output.trans h.output,Nat.le_trans h.size k.size,λb hb G=>by
  rw[k.block b (Nat.lt_of_lt_of_le hb h.size) (λO=>by rcases J b O with h1|h1;exact G h1;omega),h.block b hb G]⟩
theorem Chg.of_ext(h:Ext w w1)(X:List Nat):Chg X w w1:=
 have h':Below w.heap.size w w1:=h
 ⟨h'.os,h'.tape,h'.output,h'.size,λb hb _=>h'.block b hb⟩
theorem Chg.ext(h:Chg [] w w1):Ext w w1:=(⟨h.os,h.tape,h.output,h.size,λb hb=>h.block b hb (by simp)⟩:Below w.heap.size w w1)
theorem Chg.alloc(w:World)(o:Obj):Chg [] w (w.alloc o):=Chg.of_ext ((Ext.refl w).alloc o) []
theorem Chg.drew(w:World):Chg [] w {w with drawn:=w.drawn+1}:=⟨rfl,rfl,rfl,Nat.le_refl _,λ_ _ _=>rfl⟩
theorem Chg.set(w:World)(b o:Nat)(v:Value):Chg [b] w (w.setCell ⟨b,o,none⟩ v):=
 ⟨rfl,rfl,rfl,by simp[World.setCell],λk J G=>Below.heap_setCell w ⟨b,o,none⟩ v k (by simpa using G)⟩
theorem Chg.grown{row:Option Nat}(h:w.grownBy w1 row):Chg row.toList w w1:=
 ⟨h.os,h.tape,h.output,h.size,λk G J=>h.block k G (λe=>J (by rw[←e];simp))⟩
def Blk(w:World)(b:Nat)(t:TypeId)(cs:List Value):Prop:=w.heap[b]?=some (.cells cs.toArray t (0,0))
variable{b:Nat}{t:TypeId}{cs:List Value}
theorem Blk.lt(h:Blk w b t cs):b<w.heap.size:=by
 rcases Nat.lt_or_ge b w.heap.size with G|J
 ·exact G
 ·unfold Blk at h;rw[Array.getElem?_eq_none J]at h;cases h
theorem Blk.cell(h:Blk w b t cs)(i:Nat):w.cell? ⟨b,i,none⟩=cs[i]?:=by unfold Blk at h;simp[World.cell?,h]
theorem Blk.frozen(h:Blk w b t cs)(i:Nat):w.frozen? ⟨b,i,none⟩=false:=by unfold Blk at h;simp[World.frozen?,h]
theorem Blk.new(w:World)(t:TypeId)(cs:List Value):Blk (w.alloc (.cells cs.toArray t)) w.heap.size t cs:=heap_alloc_new w _
theorem Blk.set(h:Blk w b t cs)(i:Nat)(u:Value):Blk (w.setCell ⟨b,i,none⟩ u) b t (cs.set i u):=by
 unfold Blk at h⊢;simp[World.setCell,Array.getElem?_modify,h]
end
def Runs(P:Program)(a:Act)(ty:TypeId)(op:Op)(w:World)(x:Next)(w':World):Prop:=∀d ps af g,(execOp a.eval ⟨d,op,ty,ps,af,g⟩).run P w=.ok x w'
def zK(f:Nat→Option Value):List Operand→Option (List Value)
 |[]=>some []
 |x::r=>match aS f x with
  |some v=>match zK f r with
   |some vs=>some (v::vs)
   |none=>none
  |none=>none
def io(f:Nat→Option Value):List (Nat×Operand)→Option (List (Nat×Value))
 |[]=>some []
 |(i,x)::r=>match aS f x with
  |some v=>match io f r with
   |some vs=>some ((i,v)::vs)
   |none=>none
  |none=>none
variable{u:TypeId}
variable{A:Option Addr}{m:Nat}
variable{i:Nat}
variable{sz:Nat}
variable{ps:List (Nat×Operand)}
section
variable{P:Program}{ops:Array Oper}{Q:Exit→Act→World→Prop}{a:Act}{w w':World}{rest:List Oper}{n:Nat}{f:Nat→Option Value}{ty:TypeId}
theorem Fr.vals(h:Fr a n f):∀{l:List Operand} {vs:List Value},zK f l=some vs→l.map a.eval=vs
 |[],vs,e=>by simp[zK]at e;simp[e]
 | x::r,vs,e=>by
  simp only[zK]at e;split at e
  ·rename_i v hv;split at e
   ·rename_i us hu;have :=h.vals hu;simp only[Option.some.injEq]at e;rw[List.map_cons,h.eval hv,this,e]
   ·cases e
  ·cases e
theorem Fr.parts(h:Fr a n f):∀{l:List (Nat×Operand)} {vs:List (Nat×Value)},io f l=some vs→l.map (λp=>(p.1,a.eval p.2))=vs
 |[],vs,e=>by simp[io]at e;simp[e]
 | (i,x)::r,vs,e=>by
  simp only[io]at e;split at e
  ·rename_i v hv;split at e
   ·rename_i us hu;have :=h.parts hu;simp only[Option.some.injEq]at e;rw[List.map_cons,h.eval hv,this,e]
   ·cases e
  ·cases e
theorem sM(b o j:Nat):(⟨b,o,none⟩:Addr).add j=⟨b,o+j,none⟩:=by unfold Addr.add;split<;>simp_all
theorem Ot{v:Value}(h:Fr a n f)(hx:aS f x=some v):Runs P a ty (.move x) w (.value v) w:=λ_ _ _ _=>by rw[←h.eval hx];rfl
theorem Lv{v:Value}(h:Fr a n f)(hx:aS f x=some v):Runs P a ty (.assign x) w (.value v) w:=λ_ _ _ _=>by rw[←h.eval hx];rfl
theorem MH{c y:Operand}{v:Value}(h:Fr a n f)(G:aS f c=some (.bool true))(hx:aS f x=some v):Runs P a ty (.pick c x y) w (.value v) w:=λ_ _ _ _=>by simp[execOp,h.eval G,h.eval hx,asBool]
theorem Mp{c y:Operand}{v:Value}(h:Fr a n f)(G:aS f c=some (.bool false))(hy:aS f y=some v):Runs P a ty (.pick c x y) w (.value v) w:=λ_ _ _ _=>by simp[execOp,h.eval G,h.eval hy,asBool]
theorem QT{b c:Bool}(h:Fr a n f)(hx:aS f x=some (.bool b))(G:(!b)=c):Runs P a ty (.unOp .not t x) w (.value (.bool c)) w:=λ_ _ _ _=>by subst G;simp only[execOp,h.eval hx];simp[go_sem]
section
variable{t u:TypeId}{x y:Operand}{k1:IntKind}{m l:Int}{c:Bool}
theorem Py(h:Fr a n f)(hx:aS f x=some (.int k1 m))(hy:aS f y=some (.int k1 l))(G:(m==l)=c):Runs P a ty (.binOp .eql t x y u) w (.value (.bool c)) w:=λ_ _ _ _=>by subst G;simp only[execOp,h.eval hx,h.eval hy];simp[go_sem,eqGuard]
theorem Qm(h:Fr a n f)(hx:aS f x=some (.int k1 m))(hy:aS f y=some (.int k1 l))(G:(m !=l)=c):Runs P a ty (.binOp .neq t x y u) w (.value (.bool c)) w:=λ_ _ _ _=>by subst G;simp only[execOp,h.eval hx,h.eval hy];simp[go_sem,eqGuard]
theorem QV(h:Fr a n f)(hx:aS f x=some (.int k1 m))(hy:aS f y=some (.int k1 l))(G:decide (m<l)=c):Runs P a ty (.binOp .lss t x y u) w (.value (.bool c)) w:=λ_ _ _ _=>by subst G;simp only[execOp,h.eval hx,h.eval hy];simp[go_sem,eqGuard]
theorem Pj(h:Fr a n f)(hx:aS f x=some (.int k1 m))(hy:aS f y=some (.int k1 l))(G:decide (m≤l)=c):Runs P a ty (.binOp .leq t x y u) w (.value (.bool c)) w:=λ_ _ _ _=>by subst G;simp only[execOp,h.eval hx,h.eval hy];simp[go_sem,eqGuard]
theorem QQ(h:Fr a n f)(hx:aS f x=some (.int k1 m))(hy:aS f y=some (.int k1 l))(G:decide (l<m)=c):Runs P a ty (.binOp .gtr t x y u) w (.value (.bool c)) w:=λ_ _ _ _=>by subst G;simp only[execOp,h.eval hx,h.eval hy];simp[go_sem,eqGuard]
theorem QO(h:Fr a n f)(hx:aS f x=some (.int k1 m))(hy:aS f y=some (.int k1 l))(G:decide (l≤m)=c):Runs P a ty (.binOp .geq t x y u) w (.value (.bool c)) w:=λ_ _ _ _=>by subst G;simp only[execOp,h.eval hx,h.eval hy];simp[go_sem,eqGuard]
end
theorem PG{y:Operand}{m l c:Bool}(ht:P.underlying t=some .bool)(h:Fr a n f)(hx:aS f x=some (.bool m))(hy:aS f y=some (.bool l))(G:(m==l)=c):Runs P a ty (.binOp .eql t x y u) w (.value (.bool c)) w:=λ_ _ _ _=>by subst G;simp only[execOp,h.eval hx,h.eval hy];simp[go_sem,eqGuard,ht]
section
variable{t u:TypeId}{x y:Operand}{m l:List UInt8}{c:Bool}
theorem PB(h:Fr a n f)(hx:aS f x=some (.string ⟨m.toArray⟩))(hy:aS f y=some (.string ⟨l.toArray⟩))(G:(m==l)=c):Runs P a ty (.binOp .eql t x y u) w (.value (.bool c)) w:=λ_ _ _ _=>by subst G;simp only[execOp,h.eval hx,h.eval hy];simp[go_sem,eqGuard]
theorem QS(h:Fr a n f)(hx:aS f x=some (.string ⟨m.toArray⟩))(hy:aS f y=some (.string ⟨l.toArray⟩))(G:(m !=l)=c):Runs P a ty (.binOp .neq t x y u) w (.value (.bool c)) w:=λ_ _ _ _=>by subst G;simp only[execOp,h.eval hx,h.eval hy];simp[go_sem,eqGuard,bne]
theorem NY(h:Fr a n f)(ht:P.underlying t=some .string)(hx:aS f x=some (.string ⟨m.toArray⟩)):Runs P a ty (.call {callee:=.builtin .len,args:=#[x],argTypes:=#[t]}) w (.value (.int .i64 m.length)) w:=λ_ _ _ _=>by
 simp only[execOp,resolve,List.map_toArray,List.map_cons,List.map_nil,h.eval hx];simp[go_sem,resolve,invoke,builtin,ht]
end
theorem Fl{c:Nat}(h:Fr a n f)(ht:P.underlying t=some (.slice e))(hx:aS f x=some (.slice A m c)):Runs P a ty (.call {callee:=.builtin .len,args:=#[x],argTypes:=#[t]}) w (.value (.int .i64 m)) w:=λ_ _ _ _=>by
 simp only[execOp,resolve,List.map_toArray,List.map_cons,List.map_nil,h.eval hx];simp[go_sem,resolve,invoke,builtin,ht]
theorem EN(h:Fr a n f)(hx:aS f x=some (.pointer (some p))):Runs P a ty (.nilCheck x) w (.value (.pointer (some p))) w:=λ_ _ _ _=>by simp only[execOp,h.eval hx];rfl
theorem Jo{vs:Array Value}{v:Value}(h:Fr a n f)(hx:aS f x=some (.tuple vs))(hi:vs[i]?=some v):Runs P a ty (.extract x i) w (.value v) w:=λ_ _ _ _=>by
 simp only[execOp,h.eval hx];simp[Instr.extract,hi]
theorem IX{o:Nat}{v:Value}(h:Fr a n f)(hx:aS f x=some (.pointer (some ⟨b,o,none⟩)))(hv:∀w,(Instr.fieldAt t (.pointer (some ⟨b,o,none⟩)) i).run P w=.ok v w):Runs P a ty (.fieldAddr t x i) w (.value v) w:=λ_ _ _ _=>by
 simp only[execOp,h.eval hx];simp[hv]
theorem Eo{cs:Array Value}{v:Value}(h:Fr a n f)(hx:aS f x=some (.agg cs))(hv:∀w,(Instr.field t (.agg cs) i).run P w=.ok v w):Runs P a ty (.field t x i) w (.value v) w:=λ_ _ _ _=>by
 simp only[execOp,h.eval hx];simp[hv]
theorem DT{y:Operand}{o c r:Nat}{i:Int}{k:Nat}(h:Fr a n f)(ht:P.underlying t=some (.slice e))(J:(P.info? e).map (·.size)=some sz)(hx:aS f x=some (.slice (some ⟨b,o,none⟩) m c))(hy:aS f y=some (.int .i64 i))
  (O:i=(k:Int)) (G:k<m) (hr:o+k*sz=r):Runs P a ty (.indexAddr t x y) w (.value (.pointer (some ⟨b,r,none⟩))) w:=λ_ _ _ _=>by
 obtain⟨U,hi,hs⟩:=Option.map_eq_some_iff.1 J;subst O hs hr;simp only[execOp,h.eval hx,h.eval hy];simp[Instr.indexAt,asIntOf,run_underlying ht,sizeOf,typeInfo,hi,G,sM]
theorem El{vs:List (Nat×Value)}{v:Value}(h:Fr a n f)(hx:io f ps=some vs)(hv:∀w,(Instr.build t vs.toArray).run P w=.ok v w):Runs P a ty (.build t ps.toArray) w (.value v) w:=λ_ _ _ _=>by
 have e:(ps.toArray.map λ(i,x)=>(i,a.eval x))=vs.toArray:=by rw[←h.parts hx];simp
 simp only[execOp];rw[e];simp[hv]
def gq(P:Program)(t:TypeId):Bool:=match P.underlying t with
 |some (.struct _)=>false
 |some (.array _ _)=>false
 |some _=>true
 |none=>false
def oe(P:Program)(t:TypeId):Option Nat:=match P.underlying t with
 |some (.struct _)=>(P.info? t).map (·.size)
 |some (.array _ _)=>(P.info? t).map (·.size)
 |_=>none
def jt(P:Program)(t:TypeId):Option Nat:=(P.info? t).map (·.size)
def ry(P:Program)(t:TypeId):Option (List Value):=((P.info? t).bind (·.zero)).map (·.cells.toList)
theorem Dm{v:Value}(ht:gq P t=true)(J:w.cell? p=some v):(Instr.loadAt t (.pointer (some p))).run P w=.ok v w:=by
 unfold gq at ht;cases G:P.underlying t with
 |none=>rw[G]at ht;cases ht
 |some d=>
  rw[G]at ht;cases d<;>first|(simp[Instr.loadAt,Instr.sureAddr,loadVar,isAgg,run_underlying G,J];done)|cases ht
theorem yy(b:Nat):∀(m i o:Nat) (acc:List Value) (cs:List Value),cs.length=m→(∀j,j<m→w.cell? ⟨b,o+i+j,none⟩=cs[j]?)→(loadCellsFrom ⟨b,o,none⟩ i m acc.toArray).run P w=.ok (acc++cs).toArray w
 |0,i,o,acc,cs,hl,hc=>by
  have :cs=[]:=List.eq_nil_of_length_eq_zero hl;subst this;simp[loadCellsFrom]
 | m+1,i,o,acc,cs,hl,hc=>by
  cases cs with
  |nil=>cases hl
  |cons c r=>
   have h0:=hc 0 (by omega);simp only[Nat.add_zero,List.getElem?_cons_zero]at h0;have ih:=yy b m (i+1) o (acc++[c]) r (by simpa using hl) (λj hj=>by have :=hc (j+1) (by omega);simpa[Nat.add_assoc,Nat.add_comm 1 j]using this);have ha:(⟨b,o,none⟩:Addr).add i=⟨b,o+i,none⟩:=by unfold Addr.add;split<;>simp_all
   simp only[loadCellsFrom,ha];simp[go_sem,h0];simpa using ih
theorem CR{o:Nat}{cs:List Value}(ht:oe P t=some m)(O:cs.length=m)(U:∀j,j<m→w.cell? ⟨b,o+j,none⟩=cs[j]?):(Instr.loadAt t (.pointer (some ⟨b,o,none⟩))).run P w=.ok (.agg cs.toArray) w:=by
 have J:(isAgg t).run P w=.ok true w∧(sizeOf t).run P w=.ok m w:=by
  unfold oe at ht;cases G:P.underlying t with
  |none=>rw[G]at ht;cases ht
  |some d=>
   rw[G]at ht;cases d<;>first|cases ht|(obtain⟨i,hi,hs⟩:=Option.map_eq_some_iff.1 ht;simp[isAgg,run_underlying G,sizeOf,typeInfo,hi,hs])
 have Z:=yy (P:=P) (w:=w) b m 0 o [] cs O (by simpa using U);simp only[Instr.loadAt,Instr.sureAddr,loadVar,loadCells];simp[J.1,J.2,Z]
theorem Cs{v:Value}(h:Fr a n f)(hx:aS f x=some (.pointer (some p)))(ht:gq P t=true)(G:w.cell? p=some v):Runs P a ty (.load t x) w (.value v) w:=λ_ _ _ _=>by
 simp only[execOp,h.eval hx];simp[Dm ht G]
theorem Bg{o:Nat}{cs:List Value}(h:Fr a n f)(hx:aS f x=some (.pointer (some ⟨b,o,none⟩)))(ht:oe P t=some m)(G:cs.length=m)(J:∀j,j<m→w.cell? ⟨b,o+j,none⟩=cs[j]?):Runs P a ty (.load t x) w (.value (.agg cs.toArray)) w:=λ_ _ _ _=>by
 simp only[execOp,h.eval hx];simp[CR ht G J]
theorem LH{v:Value}(h:v.oneCell'=true):v.cells=#[v]:=by cases v<;>first|rfl|cases h
theorem MP(cs:List Value)(U:ry P t=some cs)(a:Act)(w:World)(ty:TypeId):∃w' b,Runs P a ty (.alloc t) w (.value (.pointer (some ⟨b,0,none⟩))) w'∧Blk w' b t cs∧Chg [] w w'∧b=w.heap.size∧b<w'.heap.size:=by
 refine⟨w.alloc (.cells cs.toArray t),w.heap.size,λ_ _ _ _=>?_,Blk.new w t cs,Chg.alloc _ _,rfl,by simp⟩;unfold ry at U;obtain⟨z,G,J⟩:=Option.map_eq_some_iff.1 U;obtain⟨i,hi,O⟩:=Option.bind_eq_some_iff.1 G;have e:z.cells=cs.toArray:=by rw[←J]
 simp[execOp,Instr.alloc,zeroValue,typeInfo,hi,O,newVar,newRow,e]
theorem Re{v:Value}{cs:List Value}(h:Fr a n f)(hx:aS f x=some v)(hv:v.cells=cs.toArray)(w:World)(ty:TypeId):∃w' b,Runs P a ty (.box t x) w (.value (.pointer (some ⟨b,0,none⟩))) w'∧Blk w' b t cs∧Chg [] w w'∧b=w.heap.size∧b<w'.heap.size:=by
 refine⟨w.alloc (.cells cs.toArray t),w.heap.size,λ_ _ _ _=>?_,Blk.new w t cs,Chg.alloc _ _,rfl,by simp⟩;simp only[execOp,h.eval hx];simp[Instr.box,newVar,newRow,hv]
end
def dg(P:Program)(fid:FuncId):Bool:=match P.funcs[fid]? with
 |some fn=>!(fn.name== "runtime.NumGoroutine")&&fn.body.isSome
 |none=>false
variable{fid:FuncId}
theorem oE(G:dg P fid=true)(args:Array Value)(w:World):(callFunc fid args).run P w=.ok (.enter fid args) w:=by
 unfold dg at G;split at G
 ·rename_i fn hf;simp only[Bool.and_eq_true,Bool.not_eq_true',beq_eq_false_iff_ne,ne_eq]at G;have hb:fn.body.isNone=false:=by cases hx:fn.body<;>simp_all
  simp[callFunc,hf,G.1,hb];intro J;simp[J]at hb
 ·cases G
section
variable{P:Program}{ops:Array Oper}{Q:Exit→Act→World→Prop}{a:Act}{w w':World}{rest:List Oper}{n:Nat}{f:Nat→Option Value}{ty:TypeId}
variable{d:Option Tmp}{op:Op}{ps:String}{af:Array Edge}{g:Option (Nat×Bool)}{v:Value}
theorem Mg{c:Operand}{G J:Code}(h:Fr a n f)(O:aS f c=some (.bool true))(k:G.wp P Q a w):(Code.cond c G J).wp P Q a w:=
 wp_cond_true (h.eval O) k
theorem MA{c:Operand}{J G:Code}(h:Fr a n f)(O:aS f c=some (.bool false))(k:G.wp P Q a w):(Code.cond c J G).wp P Q a w:=
 wp_cond_false (h.eval O) k
end
section
variable{P:Program}{Q:Exit→Act→World→Prop}{a:Act}{w:World}{n:Nat}{f:Nat→Option Value}
def Bl(a:Act):ResultVar→Sem Value
 |.tmp t=>pure (a.tmps.getD t undef)
 |.cell x t=>do loadVar t (←asAddr (a.tmps.getD x undef))
def yS:List Value→Value
 |[v]=>v
 |vs=>.tuple vs.toArray
end
section
variable{P:Program}{ops:Array Oper}{Q:Exit→Act→World→Prop}{md:Region.Mode}{S:World→Prop}
def zO(md:Region.Mode)(ops:Array Oper)(m i:Nat):Bool:=match ops[m]? with
 |none=>true
 |some o=>o.after.any (λe=>Region.binds md e&&e.on==i)
theorem qo{listed:Array Bool}(h:listed.getD m false=true):(listed.setIfInBounds i true).getD m false=true:=by
 rw[Array.getD_eq_getD_getElem?]at *;rw[Array.getElem?_setIfInBounds];split
 ·rename_i G;subst G;split
  ·rfl
  ·rename_i hs;rw[Array.getElem?_eq_none (by omega)]at h;cases h
 ·exact h
theorem CO{listed:Array Bool}{j:Nat}{oj:Oper}(hr:i∈Region.ready md ops listed)(J:∀e∈oj.after,Region.binds md e=true→listed.getD e.on false=true):∀e∈oj.after,Region.binds md e=true→e.on≠i:=λe U hb O=>by
 have G:=(mem_ready.1 hr).1;have h1:=J e U hb;rw[O]at h1;rcases Nat.lt_or_ge i listed.size with h'|h'
 ·simp[h']at G h1;rw[G]at h1;cases h1
 ·simp[Array.getElem?_eq_none h']at h1
variable{a:Act}{w w':World}{n:Nat}{f:Nat→Option Value}{ty:TypeId}{d:Option Tmp}{op:Op}{ps:String}{af:Array Edge}{g:Option (Nat×Bool)}{v:Value}{m fuel:Nat}{listed:Array Bool}
variable{K:Act→World→Prop}
end
def rv(P:Program)(t:TypeId)(i:Nat):Option Nat:=match P.underlying t with
 |some (.struct fs)=>match fs[i]? with
  |some fl=>match P.info? fl.type with
   |some inf=>if inf.size=0 then none else some fl.offset
   |none=>none
  |none=>none
 |_=>none
def uH(P:Program)(t:TypeId)(i:Nat):Option Nat:=match P.underlying t with
 |some (.struct fs)=>match fs[i]? with
  |some fl=>if gq P fl.type=true then some fl.offset else none
  |none=>none
 |_=>none
section
variable{P:Program}{a:Act}{w w':World}{n:Nat}{f:Nat→Option Value}{ty:TypeId}
theorem JZ{o r:Nat}(h:Fr a n f)(hx:aS f x=some (.pointer (some ⟨b,o,none⟩)))(G:rv P t i=some k)(hr:o+k=r):Runs P a ty (.fieldAddr t x i) w (.value (.pointer (some ⟨b,r,none⟩))) w:=by
 refine IX h hx λw=>?_;subst hr;unfold rv at G;split at G
 ·rename_i fs U;split at G
  ·rename_i fl O;split at G
   ·rename_i inf J;split at G
    ·cases G
    ·rename_i Z;simp only[Option.some.injEq]at G;subst G;simp[Instr.fieldAt,run_underlying U,O,Instr.sureAddr,fieldPlace,sizeOf,typeInfo,J,Z,sM]
   ·cases G
  ·cases G
 ·cases G
theorem Sb{cs:List Value}{v:Value}(h:Fr a n f)(hx:aS f x=some (.agg cs.toArray))(G:uH P t i=some k)(hv:cs[k]?=some v):Runs P a ty (.field t x i) w (.value v) w:=by
 refine Eo h hx λw=>?_;unfold uH at G;split at G
 ·rename_i fs U;split at G
  ·rename_i fl O;split at G
   ·rename_i hs;simp only[Option.some.injEq]at G;subst G;have Z:(isAgg fl.type).run P w=.ok false w:=by
     unfold gq at hs;cases J:P.underlying fl.type with
     |none=>rw[J]at hs;cases hs
     |some d=>
      rw[J]at hs;cases d<;>first|(simp[isAgg,run_underlying J];done)|cases hs
    simp[Instr.field,run_underlying U,O,part,Z,asAgg,hv]
   ·cases G
  ·cases G
 ·cases G
theorem yM(off:Nat):∀(l:List Value) (j:Nat) (c:List Value),off+j+l.length≤c.length→
  (l.zipIdx j).foldl (λ(cs:Array Value) (p:Value×Nat)=>cs.setIfInBounds (off+p.2) p.1) c.toArray=(c.take (off+j)++l++c.drop (off+j+l.length)).toArray
 |[],j,c,h=>by simp
 | x::r,j,c,h=>by
  simp only[List.length_cons]at h;have ih:=yM off r (j+1) (c.set (off+j) x) (by simp;omega);simp only[List.zipIdx_cons,List.foldl_cons,List.setIfInBounds_toArray];rw[ih]
  congr 1
  have e1:(c.set (off+j) x).take (off+(j+1))=c.take (off+j)++[x]:=by
   rw[←Nat.add_assoc,List.take_succ_eq_append_getElem (by simp;omega),List.take_set_of_le (Nat.le_refl _)];simp
  have e2:(c.set (off+j) x).drop (off+(j+1)+r.length)=c.drop (off+j+(r.length+1)):=by
   rw[List.drop_set_of_lt (by omega)];congr 1;omega
  rw[e1,e2];simp
theorem Fk(sz:Nat):∀(vs:List (Nat×Value)) (k:Nat) (c:List Value),vs.map (·.1)=(List.range vs.length).map (·+k)→(∀p∈vs,p.2.cells.size=sz)→(k+vs.length)*sz=c.length→
  Instr.fill (λi=>some (i*sz,sz)) c.toArray vs=some (c.take (k*sz)++vs.flatMap λp=>p.2.cells.toList).toArray
 |[],k,c,_,_,hl=>by simp[Instr.fill];simp at hl;rw[hl];simp
 | (i,v)::r,k,c,hi,hc,hl=>by
  have hv:v.cells.size=sz:=hc (i,v) (by simp);have hi0:i=k:=by
   have :=congrArg (λl=>l.head?) hi;simpa[List.range_succ_eq_map]using this
  subst hi0;simp only[List.length_cons]at hl;have hle:(i+1)*sz≤c.length:=by rw[←hl];exact Nat.mul_le_mul_right _ (by omega)
  rw[Nat.add_mul,Nat.one_mul]at hle;have hf:=yM (i*sz) v.cells.toList 0 c (by simpa[hv]using hle);have hr:r.map (·.1)=(List.range r.length).map (·+(i+1)):=by
   have :=congrArg List.tail hi;simp only[List.map_cons,List.tail_cons,List.length_cons,List.range_succ_eq_map,List.map_map]at this;rw[this];apply List.map_congr_left;intro x _;simp;omega
  have ih:=Fk sz r (i+1) (c.take (i*sz)++v.cells.toList++c.drop (i*sz+sz)) hr (λp hp=>hc p (by simp[hp])) (by
   have e:(i+(r.length+1))*sz=(i+1+r.length)*sz:=by congr 1;omega
   simp[hv];rw[←hl]at hle⊢;omega)
  simp only[Instr.fill];rw[if_neg (by simp[hv];omega)];have e0:(v.cells.zipIdx.foldl (λcs (x:Value×Nat)=>match x with|(c,j)=>cs.setIfInBounds (i*sz+j) c) c.toArray)=(c.take (i*sz)++v.cells.toList++c.drop (i*sz+sz)).toArray:=by
   rw[←Array.foldl_toList,Array.toList_zipIdx];simp only[Nat.add_zero,Array.length_toList,hv]at hf;exact hf
  rw[e0,ih]
  congr 1
  have e3:(c.take (i*sz)++v.cells.toList++c.drop (i*sz+sz)).take ((i+1)*sz)=c.take (i*sz)++v.cells.toList:=by
   rw[Nat.add_mul,Nat.one_mul,List.take_append_of_le_length (by simp[hv];omega)];apply List.take_of_length_le;simp[hv];omega
  rw[e3];simp
theorem Ds{vs:List (Nat×Value)}{m:Nat}{z cs:List Value}(h:Fr a n f)(hx:io f ps=some vs)(ht:P.underlying t=some (.slice e))(hz:jt P e=some sz)(hzero:ry P e=some z)
  (J:ps.map (·.1)=List.range m) (hc:vs.all (λp=>p.2.cells.size==sz)=true) (Z:Nat.ble (m*sz) 16777216=true) (hcs:(vs.flatMap λp=>p.2.cells.toList)=cs) (w:World) (ty:TypeId):
  ∃w' b,Runs P a ty (.buildSlice t m ps.toArray) w (.value (.slice (some ⟨b,0,none⟩) m m)) w'∧Blk w' b e cs∧Chg [] w w'∧b=w.heap.size∧b<w'.heap.size:=by
 subst hcs;refine⟨w.alloc (.cells (vs.flatMap λp=>p.2.cells.toList).toArray e),w.heap.size,λ_ _ _ _=>?_,Blk.new w e _,Chg.alloc _ _,rfl,by simp⟩;obtain⟨inf,hi,hs⟩:=Option.map_eq_some_iff.1 (show(P.info? e).map (·.size)=some sz from hz);unfold ry at hzero;obtain⟨z0,hz1,hz2⟩:=Option.map_eq_some_iff.1 hzero;obtain⟨inf',O,hiz⟩:=Option.bind_eq_some_iff.1 hz1;rw[hi]at O;cases O;have U:vs.map (·.1)=List.range m:=by rw[←J,←h.parts hx];simp
 have hm:vs.length=m:=by have :=congrArg List.length U;simpa using this
 have e:(ps.toArray.map λ(i,x)=>(i,a.eval x))=vs.toArray:=by rw[←h.parts hx];simp
 have hsm':m*sz≤16777216:=by simpa using Z
 have hfill:∀c:Array Value,c.size=m*sz→Instr.fill (λi=>some (i*sz,sz)) c vs=some (vs.flatMap λp=>p.2.cells.toList).toArray:=λc hcz=>by
  have :=Fk sz vs 0 c.toList (by rw[U,hm];simp) (λp hp=>by simpa using List.all_eq_true.1 hc p hp) (by simp[hm,hcz]);simpa using this
 simp only[execOp];rw[e];simp only[Instr.buildSlice];by_cases h0:m*sz=0
 ·have G:=hfill ((Array.range 0).map (λx=>(default:Value))) (by simp[h0]);simp[run_underlying ht,sizeOf,typeInfo,hi,hs,h0,newRow];rw[G];simp
 ·have G:=hfill ((Array.range (m*sz)).map (z0.cells[·%z0.cells.size]!)) (by simp)
  try simp at G
  simp[run_underlying ht,sizeOf,typeInfo,hi,hs,h0,newRow,zeroValue,hiz,show¬16777216<m*sz by omega,G]
theorem NL{y:Operand}{z:Value}{sz by_:Nat}{cs:List Value}(h:Fr a n f)(hx:aS f x=some (.int .i64 (m:Int)))(hy:aS f y=some (.int .i64 (m:Int)))(ht:P.underlying t=some (.slice e))
  (hi:(P.info? e).map (λi=>(i.zero,i.size,i.bytes))=some (some z,sz,by_)) (hb:Nat.ble (by_*m) 281474976710656=true) (O:Nat.ble m 9223372036854775807=true) (U:madeCells z.cells (m*sz)=cs.toArray) (w:World) (ty:TypeId):
  ∃w' b,Runs P a ty (.makeSlice t x y) w (.value (.slice (some ⟨b,0,none⟩) m m)) w'∧Blk w' b e cs∧Chg [] w w'∧b=w.heap.size∧b<w'.heap.size:=by
 obtain⟨J,hi0,G⟩:=Option.map_eq_some_iff.1 hi;simp only[Prod.mk.injEq]at G;obtain⟨hz,hs,Z⟩:=G;refine⟨w.alloc (.cells cs.toArray e),w.heap.size,λ_ _ _ _=>?_,Blk.new w e _,Chg.alloc _ _,rfl,by simp⟩;have hb':(J.bytes:Int)*(m:Int)≤281474976710656:=by
  have h9:J.bytes*m≤281474976710656:=by rw[Z];exact Nat.le_of_ble_eq_true hb
  have h8:((J.bytes*m:Nat):Int)≤281474976710656:=by omega
  rwa [Int.natCast_mul]at h8
 have h63':m≤9223372036854775807:=Nat.le_of_ble_eq_true O;have hr:=run_make (P:=P) w t e J z ht hi0 hz .i64 .i64 m m (by omega) (by omega) hb' (by omega);simp only[execOp,h.eval hx,h.eval hy];simp only[Int.toNat_natCast,hs,U]at hr;simp[hr]
theorem BV{e size:Nat}{cs:List Value}(h:Blk w b e cs)(hb:base≤b)(G:cs.length=m*size)(J:Nat.ble m maxLen=true):w.ownsRow base e size (.slice (some ⟨b,0,none⟩) m m) m cs:=by
 refine⟨G,.inr ⟨b,m,cs.toArray,rfl,hb,h,Nat.le_refl _,by simpa using J,by simpa using G,?_⟩⟩;simp[←G]
end
variable{a:Act}{f:Nat→Option Value}
theorem NK{w:World}{ty t u:TypeId}{y:Operand}{k:IntKind}{m l:Int}(h:Fr a n f)(hx:aS f x=some (.int k m))(hy:aS f y=some (.int k l)):Runs P a ty (.call {callee:=.builtin .max,args:=#[x,y],argTypes:=#[t,u]}) w (.value (.int k (max m l))) w:=λ_ _ _ _=>by
 simp only[execOp,resolve,List.map_toArray,List.map_cons,List.map_nil,h.eval hx,h.eval hy];simp[go_sem,invoke,builtin]
 try (split<;>omega)
end Go.Proofs.YtomplbgchbfjpaaGreatDoor
namespace Go.Proofs.YtomplbgchbfjpaaGreatDoor.Lx
def dm(c:UInt8):Bool:=decide (97≤c.toNat)&&decide (c.toNat≤122)
def upperB(c:UInt8):Bool:=decide (65≤c.toNat)&&decide (c.toNat≤90)
def cf(c:UInt8):Bool:=decide (48≤c.toNat)&&decide (c.toNat≤57)
def bM(c:UInt8):Bool:=dm c||upperB c
def bg(c:UInt8):Bool:=bM c||cf c||c.toNat==95
def cN(c:UInt8):Bool:=c.toNat==9||c.toNat==10||c.toNat==13||c.toNat==32
def fk(c:UInt8):Bool:=decide (32≤c.toNat)&&decide (c.toNat≤126)
def bk(c:UInt8):Bool:=cN c||fk c
def Jd:List (List UInt8):=[[109,111,100,117,108,101],[100,101,102],[116,121,112,101],[108,101,116],[105,110],[105,102],[116,104,101,110],[101,108,115,101],[116,114,117,101],[102,97,108,115,101],[73,110,116],[84,101,120,116],[66,111,111,108]]
def mE(l:List UInt8):Bool:=Jd.contains l
def spanN(p:UInt8→Bool)(l:List UInt8):Nat:=(l.takeWhile p).length
def dW(l:List UInt8):Bool:=
 upperB (l.getD 0 0)&&!mE (l.take (spanN bg l))&&decide (spanN bg l+1<l.length)&&((l.getD (spanN bg l) 0).toNat==46)&&bM (l.getD (spanN bg l+1) 0)
def ce(l:List UInt8)(n:Nat):Nat×Nat×Nat:=
 if 24<n then(0,0,3)else if mE (l.take n)=true then(7,n,0)else if dm (l.getD 0 0)=true then(1,n,0)else(2,n,0)
def fo(l:List UInt8)(n m:Nat):Nat×Nat×Nat:=
 if 24<n∨24<m then(0,0,3)
 else if mE ((l.drop (n+1)).take m)=true then(0,0,2)
 else if dm (l.getD (n+1) 0)=true then(3,n+1+m,0)
 else(4,n+1+m,0)
def cd(l:List UInt8):Nat×Nat×Nat:=
 if dW l=true then fo l (spanN bg l) (spanN bg (l.drop (spanN bg l+1)))else ce l (spanN bg l)
def gs(l:List UInt8):Nat×Nat:=
 let n:=spanN cf l
 if 1<n∧(l.getD 0 0).toNat=48 then(0,2)else if 15<n then(0,3)else(n,0)
def quotedT:List UInt8→Nat→Nat×Nat
 |[],_=>(0,2)
 |c::r,i=>
  if bk c=false then(i,1)
  else if c.toNat=34 then(i+1,0)
  else if c.toNat=92∨c.toNat<32 then(0,2)
  else quotedT r (i+1)
def sY:List UInt8:=[40,41,91,93,58,44,61,43,45,42,60,63]
def tokenT(l:List UInt8):Nat×Nat×Nat:=
 let c:=l.getD 0 0
 if bk c=false then(0,0,1)
 else if bM c=true then cd l
 else if cf c=true then(5,gs l)
 else if c.toNat=34 then(6,quotedT l.tail 1)
 else if c.toNat=61∧1<l.length∧(l.getD 1 0).toNat=61 then(8,2,0)
 else if sY.contains c=true then(8,1,0)
 else(0,0,2)
def aW:Bool→List UInt8→Nat→Nat×Option Nat
 |_,[],n=>(n,none)
 |false,c::r,n=>if cN c=true then aW false r (n+1)else if c.toNat=35 then aW true r (n+1)else(n,none)
 |true,c::r,n=>if c.toNat=10 then aW false r (n+1)else if bk c=false then(n,some n)else aW true r (n+1)
structure TokZ where
 kind:Int
 lead:List UInt8
 text:List UInt8
structure Scanned where
 toks:List TokZ
 tail:List UInt8
 place:Nat
 err:Nat
def scanT:Nat→List UInt8→Nat→List TokZ→Scanned
 |0,_,_,_=>⟨[],[],0,0⟩
 | f +1,l,pos,acc=>
  match(aW false l 0).2 with
  |some b=>⟨[],[],pos+b,1⟩
  | none=>
   if(aW false l 0).1=l.length then⟨acc,l,0,0⟩
   else if(tokenT (l.drop (aW false l 0).1)).2.2=0 then
    scanT f (l.drop ((aW false l 0).1+(tokenT (l.drop (aW false l 0).1)).2.1)) (pos+(aW false l 0).1+(tokenT (l.drop (aW false l 0).1)).2.1)
     (acc++[⟨(tokenT (l.drop (aW false l 0).1)).1,l.take (aW false l 0).1,(l.drop (aW false l 0).1).take (tokenT (l.drop (aW false l 0).1)).2.1⟩])
   else⟨[],[],pos+(aW false l 0).1+(tokenT (l.drop (aW false l 0).1)).2.1,(tokenT (l.drop (aW false l 0).1)).2.2⟩
def kg(l:List UInt8):Scanned:=if 4096<l.length then⟨[],[],4096,3⟩else scanT (l.length+1) l 0 []
def bJ(l:List UInt8):Nat:=if l=[]then 0 else if(tokenT l).2.2=0∧(tokenT l).2.1=l.length then(tokenT l).1 else 0
def kp:Bool→List UInt8→Bool→Bool
 |c,[],fin=>!c||fin
 |c,x::r,fin=>
  if bk x=false then false
  else if c=true then kp (!(x.toNat==10)) r fin
  else if x.toNat=35 then kp true r fin
  else if cN x=false then false
  else kp c r fin
def fusesT(a b:List UInt8):Bool:=
 if bJ a=0∨bJ b=0 then false
 else
  let r:=kg (a++b)
  if r.err=0∧r.toks.length=2∧r.tail=[]then
   !((r.toks.getD 0 ⟨0,[],[]⟩).lead==[]&&(r.toks.getD 0 ⟨0,[],[]⟩).text==a&&(r.toks.getD 1 ⟨0,[],[]⟩).lead==[]&&(r.toks.getD 1 ⟨0,[],[]⟩).text==b)
  else true
variable{l:List UInt8}{k:Nat}
theorem oS{p:UInt8→Bool}{c:UInt8}(h:k<l.length)(G:l[k]=c)(J:p c=true):
  spanN p (l.drop k)=spanN p (l.drop (k+1))+1:=by
 rw[List.drop_eq_getElem_cons h,G];simp[spanN,J]
theorem ur{p:UInt8→Bool}{c:UInt8}(h:k<l.length)(G:l[k]=c)(J:p c=false):
  spanN p (l.drop k)=0:=by
 rw[List.drop_eq_getElem_cons h,G];simp[spanN,J]
theorem vT{p:UInt8→Bool}(h:l.length≤k):spanN p (l.drop k)=0:=by
 rw[List.drop_of_length_le h];rfl
theorem oB(p:UInt8→Bool):∀(l:List UInt8),spanN p l≤l.length
 |[]=>Nat.le_refl _
 |c::r=>by
  have :=oB p r;unfold spanN at *;rw[List.takeWhile_cons];split<;>simp <;>omega
theorem zx{p:UInt8→Bool}(h:0<l.length)(G:p (l.getD 0 0)=true):0<spanN p l:=by
 cases l with
 |nil=>simp at h
 |cons c r=>simp[spanN]at *;simp[G]
theorem yj{c:UInt8}(h:bM c=true∨cf c=true∨((c.toNat:Int)==95)=true):bg c=true:=by
 rcases h with h|h|h<;>simp_all[bg]<;>omega
theorem GE{c:UInt8}(h1:¬bM c=true)(h2:¬cf c=true)(G:((c.toNat:Int)==95)=false):bg c=false:=by
 simp_all[bg];omega
theorem aR{c:UInt8}(h:k<l.length)(G:l[k]=c):l.getD k 0=c:=by
 simp[List.getD,List.getElem?_eq_getElem h,G]
variable{n m:Nat}
theorem eL(h:((n:Int)==(m:Int))=true):n=m:=by simp at h;omega
theorem cR(h:((n:Int)==(m:Int))=false):¬n=m:=by simp at h;omega
theorem rB{c:UInt8}(h:spanN cf l=k)(h1:1<k)(J:0<l.length)(O:l[0]=c)(G:((c.toNat:Int)==48)=true):gs l=(0,2):=by
 unfold gs;rw[h,aR J O];have :=eL (m:=48) G;simp[h1,this]
theorem rN(h:spanN cf l=k)(h1:1<k→¬(l.getD 0 0).toNat=48)(G:15<k):gs l=(0,3):=by
 unfold gs;rw[h];simp only;rw[if_neg (λx=>h1 x.1 x.2),if_pos G]
theorem kE(h:spanN cf l=k)(h1:1<k→¬(l.getD 0 0).toNat=48)(G:¬15<k):gs l=(k,0):=by
 unfold gs;rw[h];simp only;rw[if_neg (λx=>h1 x.1 x.2),if_neg G]
theorem Ez{c:UInt8}(h:k<l.length)(G:l[k]=c):
  quotedT (l.drop k) k=if bk c=false then(k,1)else if c.toNat=34 then(k+1,0)else if c.toNat=92∨c.toNat<32 then(0,2)else quotedT (l.drop (k+1)) (k+1):=by
 rw[List.drop_eq_getElem_cons h,G];rfl
theorem Gs(h:l.length≤k):quotedT (l.drop k) k=(0,2):=by
 rw[List.drop_of_length_le h];rfl
theorem AD(l:List UInt8)(a b:Nat):(ByteArray.mk l.toArray).extract a b=⟨((l.drop a).take (b-a)).toArray⟩:=by
 apply ByteArray.ext;rw[ByteArray.data_extract];simp[List.extract_eq_take_drop]
theorem tF(l:List UInt8)(a:Nat):(l.drop a).take (l.length-a)=l.drop a:=by
 apply List.take_of_length_le;simp
theorem li(G:spanN bg l=n)(h:dW l=false):cd l=ce l n:=by simp[cd,h,G]
theorem Dg(G:spanN bg l=n)(J:spanN bg (l.drop (n+1))=m)(h:dW l=true):cd l=fo l n m:=by simp[cd,h,G,J]
theorem KK{c:UInt8}(G:0<l.length)(J:l[0]=c)(h:upperB c=false):dW l=false:=by
 simp[dW,aR G J,h,-List.getD_eq_getElem?_getD]
theorem Kk(G:spanN bg l=n)(h:mE (l.take n)=true):dW l=false:=by
 simp[dW,G,h]
theorem KF(G:spanN bg l=n)(h:¬n+1<l.length):dW l=false:=by
 simp[dW,G,h]
theorem LE{c:UInt8}(G:spanN bg l=n)(J:n<l.length)(O:l[n]=c)(h:((c.toNat:Int)==46)=false):dW l=false:=by
 have :=cR (m:=46) h;simp[dW,G,aR J O,this,-List.getD_eq_getElem?_getD]
theorem Lo{c:UInt8}(G:spanN bg l=n)(J:n+1<l.length)(O:l[n+1]=c)(h:bM c=false):dW l=false:=by
 simp[dW,G,aR J O,h,-List.getD_eq_getElem?_getD]
theorem EE{c0 c1 c2:UInt8}(hn:spanN bg l=n)(h0:0<l.length)(G:l[0]=c0)(hu:upperB c0=true)(hr:mE (l.take n)=false)
  (hl:n+1<l.length) (J:n<l.length) (O:l[n]=c1) (U:((c1.toNat:Int)==46)=true) (Z:l[n+1]=c2) (h3:bM c2=true):dW l=true:=by
 have :=eL (m:=46) U;simp[dW,hn,aR h0 G,aR J O,aR hl Z,hu,hr,hl,h3,this,-List.getD_eq_getElem?_getD]
theorem zk{c:UInt8}(G:0<l.length)(J:l[0]=c):
  tokenT l=if bk c=false then(0,0,1)else if bM c=true then cd l else if cf c=true then(5,gs l)else if c.toNat=34 then(6,quotedT l.tail 1)
   else if c.toNat=61∧1<l.length∧(l.getD 1 0).toNat=61 then(8,2,0)else if sY.contains c=true then(8,1,0)else(0,0,2):=by
 unfold tokenT;rw[aR G J]
theorem Ak:∀(r:List UInt8) (i:Nat),(quotedT r i).1≤i+r.length∧((quotedT r i).2=0→i<(quotedT r i).1)
 |[],i=>by simp[quotedT]
 | c::r,i=>by
  have ih:=Ak r (i+1);unfold quotedT;split
  ·simp
  ·split
   ·simp <;>omega
   ·split
    ·simp
    ·simp only[List.length_cons];exact⟨by omega,λh=>by have :=ih.2 h;omega⟩
theorem KY(G:0<l.length)(J:bM (l.getD 0 0)=true):(cd l).2.1≤l.length∧((cd l).2.2=0→0<(cd l).2.1):=by
 have h1:=oB bg l;have h2:0<spanN bg l:=zx G (by simp[bg,J,-List.getD_eq_getElem?_getD]);have O:=oB bg (l.drop (spanN bg l+1));simp only[List.length_drop]at O;unfold cd;split
 ·rename_i hcond;have U:spanN bg l+1<l.length:=by
   unfold dW at hcond;simp only[Bool.and_eq_true,decide_eq_true_eq]at hcond;exact hcond.1.1.2
  unfold fo;split
  ·simp
  ·split
   ·simp
   ·split<;>simp <;>omega
 ·unfold ce;split
  ·simp
  ·split
   ·simp;omega
   ·split<;>simp <;>omega
theorem GA(G:0<l.length)(J:cf (l.getD 0 0)=true):(gs l).1≤l.length∧((gs l).2=0→0<(gs l).1):=by
 have h1:=oB cf l;have h2:0<spanN cf l:=zx G J;unfold gs;simp only;split
 ·simp
 ·split
  ·simp
  ·simp;omega
theorem IB(G:0<l.length):(tokenT l).2.1≤l.length∧((tokenT l).2.2=0→0<(tokenT l).2.1):=by
 unfold tokenT;simp only;split
 ·simp
 split
 ·exact KY G ‹_›
 split
 ·exact GA G ‹_›
 split
 ·have :=Ak l.tail 1;simp only[List.length_tail]at this;exact⟨by simp only;omega,λh=>by have :=this.2 h;simp only;omega⟩
 split
 ·simp;omega
 split
 ·simp;omega
 ·simp
theorem Gu{c:UInt8}(h:k<l.length)(G:l[k]=c)(J:cN c=true):aW false (l.drop k) n=aW false (l.drop (k+1)) (n+1):=by
 rw[List.drop_eq_getElem_cons h,G];simp[aW,J]
theorem IM{c:UInt8}(h:k<l.length)(J:l[k]=c)(G:c.toNat=35):aW false (l.drop k) n=aW true (l.drop k) n:=by
 rw[List.drop_eq_getElem_cons h,J];have h1:cN c=false:=by simp[cN,G]
 have h2:bk c=true:=by simp[bk,fk,G]
 simp[aW,h1,h2,G]
theorem Gw{c:UInt8}(h:k<l.length)(G:l[k]=c)(J:cN c=false)(O:¬c.toNat=35):aW false (l.drop k) n=(n,none):=by
 rw[List.drop_eq_getElem_cons h,G];simp[aW,J,O]
theorem JJ{c:UInt8}(h:k<l.length)(J:l[k]=c)(G:c.toNat=10):aW true (l.drop k) n=aW false (l.drop k) n:=by
 rw[List.drop_eq_getElem_cons h,J];have h1:cN c=true:=by simp[cN,G]
 simp[aW,h1,G]
theorem Kc{c:UInt8}(h:k<l.length)(J:l[k]=c)(G:¬c.toNat=10)(O:bk c=false):aW true (l.drop k) n=(n,some n):=by
 rw[List.drop_eq_getElem_cons h,J];simp[aW,G,O]
theorem Mz{c:UInt8}(h:k<l.length)(J:l[k]=c)(G:¬c.toNat=10)(O:bk c=true):aW true (l.drop k) n=aW true (l.drop (k+1)) (n+1):=by
 rw[List.drop_eq_getElem_cons h,J];simp[aW,G,O]
theorem zc(b:Bool)(h:l.length≤k):aW b (l.drop k) n=(n,none):=by
 rw[List.drop_of_length_le h];cases b<;>rfl
variable{b:Nat}
theorem Ko{f:Nat}{pos:Nat}{acc:List TokZ}(h:aW false l 0=(n,some b)):scanT (f+1) l pos acc=⟨[],[],pos+b,1⟩:=by
 simp[scanT,h]
theorem KE{f:Nat}{pos:Nat}{acc:List TokZ}(h:aW false l 0=(n,none))(G:n=l.length):scanT (f+1) l pos acc=⟨acc,l,0,0⟩:=by
 simp[scanT,h,G]
theorem KI{f:Nat}{pos e:Nat}{acc:List TokZ}(h:aW false l 0=(n,none))(G:¬n=l.length)(ht:tokenT (l.drop n)=(k,m,e))(J:¬e=0):
  scanT (f+1) l pos acc=⟨[],[],pos+n+m,e⟩:=by
 simp[scanT,h,G,ht,J]
theorem KW{f:Nat}{pos:Nat}{acc:List TokZ}(h:aW false l 0=(n,none))(G:¬n=l.length)(ht:tokenT (l.drop n)=(k,m,0)):
  scanT (f+1) l pos acc=scanT f (l.drop (n+m)) (pos+n+m) (acc++[⟨k,l.take n,(l.drop n).take m⟩]):=by
 simp[scanT,h,G,ht]
end Go.Proofs.YtomplbgchbfjpaaGreatDoor.Lx
namespace Go.Proofs.YtomplbgchbfjpaaGreatDoor.Sx
open Lx
inductive Tree where
 |node (kind:Int) (text:List UInt8) (leads:List (List UInt8)) (kids:List Tree)
def Tree.kind:Tree→Int|.node k _ _ _=>k
def Tree.text:Tree→List UInt8|.node _ s _ _=>s
def Tree.leads:Tree→List (List UInt8)|.node _ _ l _=>l
def Tree.kids:Tree→List Tree|.node _ _ _ k=>k
def su:Tree:=.node 0 [] [] []
def Oy:TokZ:=⟨0,[],[]⟩
structure PS where
 toks:List TokZ
 off:Nat
 size:Nat
 failed:Nat
 place:Nat
def cF(s:PS):TokZ:=s.toks.headD Oy
def zL(e:Nat)(s:PS):PS:=if s.failed=0 then⟨[],s.off,s.size,e,s.off⟩else⟨[],s.off,s.size,s.failed,s.place⟩
def fS(s:PS):PS:=
 match s.toks with
 |[]=>s
 |[_]=>⟨[],s.size,s.size,s.failed,s.place⟩
 |t::u::r=>⟨u::r,s.off+(t.text.length+u.lead.length),s.size,s.failed,s.place⟩
def iH(x:List UInt8)(s:PS):List UInt8×PS:=if(cF s).text=x then((cF s).lead,fS s)else([],zL 2 s)
def vU(k o:Int)(s:PS):List UInt8×List UInt8×PS:=
 if(cF s).kind=0∨((cF s).kind≠k∧(cF s).kind≠o)then([],[],zL 2 s)else((cF s).text,(cF s).lead,fS s)
def OK:List UInt8:=[109,111,100,117,108,101]
def Mu:List UInt8:=[100,101,102]
def Nj:List UInt8:=[116,121,112,101]
def PQ:List UInt8:=[108,101,116]
def wIn:List UInt8:=[105,110]
def wIf:List UInt8:=[105,102]
def RZ:List UInt8:=[116,104,101,110]
def Rp:List UInt8:=[101,108,115,101]
def No:List UInt8:=[116,114,117,101]
def LD:List UInt8:=[102,97,108,115,101]
def SB:List UInt8:=[73,110,116]
def Rz:List UInt8:=[84,101,120,116]
def Rq:List UInt8:=[66,111,111,108]
def RM(x:List UInt8):Bool:=x==[43]||x==[45]||x==[42]||x==[60]||x==[61,61]
def Hg(t:TokZ):Bool:=
 t.kind==5||t.kind==6||t.kind==1||t.kind==3||t.text==PQ||t.text==wIf||t.text==No||t.text==LD||t.text==[63]||t.text==[91]||t.text==[40]
def Cb:Nat→PS→Tree×PS
 |0,s=>(su,s)
 | n+1,s=>
  if(cF s).text=SB then(.node 5 [] [(cF s).lead] [],fS s)
  else if(cF s).text=Rz then(.node 6 [] [(cF s).lead] [],fS s)
  else if(cF s).text=Rq then(.node 7 [] [(cF s).lead] [],fS s)
  else if(cF s).text=[91]then
   (.node 8 [] [(cF s).lead,(iH [93] (Cb n (fS s)).2).1] [(Cb n (fS s)).1],(iH [93] (Cb n (fS s)).2).2)
  else(.node 9 (vU 2 4 s).1 [(vU 2 4 s).2.1] [],(vU 2 4 s).2.2)
def KM(n:Nat)(s0:PS):Tree×PS:=
 let a:=iH Nj s0
 let b:=vU 2 2 a.2
 let c:=iH [61] b.2.2
 let t:=Cb n c.2
 (.node 3 b.1 [a.1,b.2.1,c.1] [t.1],t.2)
def PX(n:Nat)(s0:PS):Tree×PS:=
 let b:=vU 1 1 s0
 let c:=iH [58] b.2.2
 let t:=Cb n c.2
 (.node 4 b.1 [b.2.1,c.1] [t.1],t.2)
def commaF(item:PS→Tree×PS)(most:Nat)(beg:TokZ→Bool):Nat→List (List UInt8)→List Tree→PS→List (List UInt8)×List Tree×PS
 |0,cs,ks,s=>(cs,ks,s)
 | m+1,cs,ks,s=>
  if(cF s).text=[44]then
   let s2:=if ks.length=most∧beg (cF (fS s))=true then zL 3 (fS s)else fS s
   commaF item most beg m (cs++[(cF s).lead]) (ks++[(item s2).1]) (item s2).2
  else(cs,ks,s)
def Sz(E:PS→Tree×PS)(s:PS):Tree×PS:=(.node 17 [] [] [(E s).1],(E s).2)
def PV(item:PS→Tree×PS)(most:Nat)(beg:TokZ→Bool)(s:PS):List (List UInt8)×List Tree×PS:=
 if(cF s).text=[41]then([],[],s)else commaF item most beg ((item s).2.toks.length+1) [] [(item s).1] (item s).2
def SN(E:PS→Tree×PS)(s0:PS):Tree×PS:=
 if(cF s0).kind=1∧¬(cF (fS s0)).text=[40]then(.node 12 (cF s0).text [(cF s0).lead] [],fS s0)
 else
  let a:=iH [40] (fS s0)
  let r:=PV (Sz E) 8 Hg a.2
  let z:=iH [41] r.2.2
  (.node 16 (cF s0).text ([(cF s0).lead,a.1,z.1]++r.1) r.2.1,z.2)
def RS(E:PS→Tree×PS)(s0:PS):Tree×PS:=
 let a:=iH [91] s0
 let r:=commaF E 16 Hg ((E a.2).2.toks.length+1) [] [(E a.2).1] (E a.2).2
 let z:=iH [93] r.2.2
 (.node 18 [] ([a.1,z.1]++r.1) r.2.1,z.2)
def Qn(E:PS→Tree×PS)(s0:PS):Tree×PS:=
 let e:=E (fS s0)
 let z:=iH [41] e.2
 (.node 22 [] [(cF s0).lead,z.1] [e.1],z.2)
def DK(E:PS→Tree×PS)(s:PS):Tree×PS:=
 let t:=cF s
 if t.kind=1∨t.kind=3 then SN E s
 else if t.text=No then(.node 13 [] [t.lead] [],fS s)
 else if t.text=LD then(.node 14 [] [t.lead] [],fS s)
 else if t.text=[63]then(.node 15 [] [t.lead] [],fS s)
 else if t.text=[91]then RS E s
 else if t.text=[40]then Qn E s
 else if t.kind=5 then(.node 10 t.text [t.lead] [],fS s)
 else if t.kind=6 then(.node 11 t.text [t.lead] [],fS s)
 else(su,zL 2 s)
def Pm(U:PS→Tree×PS):Nat→Tree→PS→Tree×PS
 |0,t,s=>(t,s)
 |m+1,t,s=>
  if RM (cF s).text=true then Pm U m (.node 21 (cF s).text [(cF s).lead] [t,(U (fS s)).1]) (U (fS s)).2
  else(t,s)
def SM(E:PS→Tree×PS)(s0:PS):Tree×PS:=
 let b:=vU 1 1 (fS s0)
 let c:=iH [61] b.2.2
 let x:=E c.2
 let d:=iH wIn x.2
 let y:=E d.2
 (.node 20 b.1 [(cF s0).lead,b.2.1,c.1,d.1] [x.1,y.1],y.2)
def ifF(E:PS→Tree×PS)(s0:PS):Tree×PS:=
 let x:=E (fS s0)
 let c:=iH RZ x.2
 let y:=E c.2
 let d:=iH Rp y.2
 let z:=E d.2
 (.node 19 [] [(cF s0).lead,c.1,d.1] [x.1,y.1,z.1],z.2)
def RP(E:PS→Tree×PS)(s:PS):Tree×PS:=
 if(cF s).text=PQ then SM E s
 else if(cF s).text=wIf then ifF E s
 else Pm (DK E) ((DK E s).2.toks.length+1) (DK E s).1 (DK E s).2
def NC:Nat→PS→Tree×PS
 |0,s=>(su,s)
 |n+1,s=>RP (NC n) s
def Dd(n:Nat)(s0:PS):Tree×PS:=
 let a:=iH Mu s0
 let b:=vU 1 1 a.2
 let c:=iH [40] b.2.2
 let r:=PV (PX n) 8 (λt=>t.kind==1) c.2
 let d:=iH [41] r.2.2
 let e:=iH [58] d.2
 let t:=Cb n e.2
 let g:=iH [61] t.2
 let x:=NC n g.2
 (.node 2 b.1 ([a.1,b.2.1,c.1,d.1,e.1,g.1]++r.1) (r.2.1++[t.1,x.1]),x.2)
def BN(n:Nat):Nat→List Tree→PS→List Tree×PS
 |0,ks,s=>(ks,s)
 |m+1,ks,s=>
  if s.toks=[]then(ks,s)
  else if¬(cF s).text=Mu∧¬(cF s).text=Nj then BN n m ks (zL 2 s)
  else if ks.length=40 then BN n m ks (zL 3 s)
  else if(cF s).text=Mu then BN n m (ks++[(Dd n s).1]) (Dd n s).2
  else BN n m (ks++[(KM n s).1]) (KM n s).2
def RB(n:Nat)(s0:PS):Tree×PS:=
 let a:=iH OK s0
 let b:=vU 2 2 a.2
 let r:=BN n (b.2.2.toks.length+2) [] b.2.2
 (.node 1 b.1 [a.1,b.2.1,[]] r.1,r.2)
mutual
def depthT:Tree→Nat
 |.node _ _ _ ks=>depthsT ks+1
def depthsT:List Tree→Nat
 |[]=>0
 |t::r=>max (depthT t) (depthsT r)
end
def Rc(toks:List TokZ)(size:Nat):PS:=⟨toks,match toks with|[]=>size|t::_=>t.lead.length,size,0,0⟩
def QH(l:List UInt8):Tree×Nat×Nat:=
 let r:=kg l
 if¬r.err=0 then(su,r.place,r.err)
 else
  let f:=RB (r.toks.length+1) (Rc r.toks l.length)
  if¬f.2.failed=0 then(su,f.2.place,f.2.failed)
  else if 40<depthT f.1 then(su,0,4)
  else(.node f.1.kind f.1.text (f.1.leads.set 2 r.tail) f.1.kids,0,0)
end Go.Proofs.YtomplbgchbfjpaaGreatDoor.Sx
namespace Go.Proofs.YtomplbgchbfjpaaGreatDoor
open _root_.Go.Proofs.Tryz
open Go.RowKit Lx Sx
abbrev tI(l:List UInt8):Value:=.string ⟨l.toArray⟩
def RowIn(S:Nat→Prop)(w:World)(size:Nat)(A:Option Addr)(n:Nat)(xs:List Value):Prop:=
 xs.length=n*size∧(0<n→∃b off,A=some ⟨b,off,none⟩∧S b∧b<w.heap.size∧∀j,j<n*size→w.cell? ⟨b,off+j,none⟩=xs[j]?)
mutual
def TreeIs(S:Nat→Prop)(w:World):Tree→List Value→Prop
 |.node k s ls ks,c=>∃A m B n,c=[.int .i64 k,tI s,.slice A ls.length m,.slice B ks.length n]∧ls.length≤m∧m≤maxLen∧ks.length≤n∧n≤maxLen∧
  RowIn S w 1 A ls.length (ls.map tI)∧∃cs,KidsAre S w ks cs∧RowIn S w 4 B ks.length cs
def KidsAre(S:Nat→Prop)(w:World):List Tree→List Value→Prop
 |[],cs=>cs=[]
 |t::r,cs=>∃c d,cs=c++d∧TreeIs S w t c∧KidsAre S w r d
end
variable{A:Option Addr}
variable{n:Nat}{xs:List Value}
variable{m:Nat}
section
variable{S S':Nat→Prop}{w w':World}
theorem RowIn.none_{size:Nat}:RowIn S w size A 0 []:=⟨by simp,λh=>absurd h (by omega)⟩
theorem RowIn.keep{size:Nat}(h:RowIn S w size A n xs)(J:∀b,S b→S' b)(O:∀b,S b→b<w.heap.size→w'.heap[b]?=w.heap[b]?):RowIn S' w' size A n xs:=by
 refine⟨h.1,λU=>?_⟩;obtain⟨b,off,e,hs,hb,Z⟩:=h.2 U;have G:=O b hs hb;refine⟨b,off,e,J b hs,?_,λj hj=>?_⟩
 ·rcases Nat.lt_or_ge b w'.heap.size with h1|h1
  ·exact h1
  ·rw[Array.getElem?_eq_none h1,Array.getElem?_eq_getElem hb]at G;cases G
 ·rw[←Z j hj];exact World.cell?_of_block (a:=⟨b,off+j,none⟩) G
theorem TreeIs.four{t:Tree}{c:List Value}(h:TreeIs S w t c):c.length=4:=by
 cases t;simp only[TreeIs]at h;obtain⟨A,m,B,n,e,_⟩:=h;rw[e];rfl
abbrev Any:Nat→Prop:=λ_=>True
theorem OL{k:Int}{s:List UInt8}{ls:List (List UInt8)}{ks:List Tree}{A B:Option Addr}{cs:List Value}(h1:ls.length≤m)(h2:m≤maxLen)(G:ks.length≤n)(J:n≤maxLen)
  (O:RowIn S w 1 A ls.length (ls.map tI)) (U:KidsAre S w ks cs) (Z:RowIn S w 4 B ks.length cs):TreeIs S w (.node k s ls ks) [.int .i64 k,tI s,.slice A ls.length m,.slice B ks.length n]:=by
 simp only[TreeIs];exact⟨A,m,B,n,rfl,h1,h2,G,J,O,cs,U,Z⟩
theorem TreeIs.one{t:Tree}{c:List Value}(h:TreeIs S w t c):c.all (·.oneCell')=true:=by
 cases t;simp only[TreeIs]at h;obtain⟨A,m,B,n,e,_⟩:=h;rw[e];rfl
end
open Go.RowKit
inductive V where
 |int (k:IntKind) (n:Int)
 |bool (b:Bool)
 |str (l:List UInt8)
 |nilp
 |nils
 |raw (x:Value)
 |ptr (id off:Nat)
 |el (id sz i off:Nat)
 |sl (id:Nat)
 |box (cs:List V) (off:Nat)
 |row (sz:Nat) (els:List V)
 |agg (cs:List V)
 |tup (vs:List V)
 |clo (fid:FuncId) (cs:List V)
 |lk (els:List (List V))
 |np (id:Nat)
abbrev qi(n:Int):V:=.int .i64 n
inductive Ob where
 |free
 |gone
 |var (t:TypeId) (cs:List V)
 |row (e:TypeId) (sz:Nat) (els:List V)
 |ext (bs:List Nat) (Φ:World→Prop)
 |mp (kt et:TypeId) (ks vs:List V)
abbrev ρ0:Nat→Option Value:=λ_=>none
section
variable(S:Nat→Prop)(w:World)
mutual
def VRel(ρ:Nat→Option Value):V→Value→Prop
 |.int k n,x=>x=.int k n
 |.bool b,x=>x=.bool b
 |.str l,x=>x=.string ⟨l.toArray⟩
 |.nilp,x=>x=.pointer none
 |.nils,x=>x=.slice none 0 0
 |.raw y,x=>x=y∧y.oneCell'=true
 |.ptr id o,x=>∃b,ρ id=some (.pointer (some ⟨b,0,none⟩))∧x=.pointer (some ⟨b,o,none⟩)
 |.el id sz i o,x=>∃b n c,ρ id=some (.slice (some ⟨b,0,none⟩) n c)∧x=.pointer (some ⟨b,i*sz+o,none⟩)
 |.sl id,x=>ρ id=some x∧x.oneCell'=true
 |.box cs o,x=>∃b off xs,x=.pointer (some ⟨b,off+o,none⟩)∧S b∧b<w.heap.size∧LRel ρ0 cs xs∧∀j,j<xs.length→w.cell? ⟨b,off+j,none⟩=xs[j]?
 |.row sz els,x=>∃A c xs,x=.slice A els.length c∧els.length≤c∧c≤maxLen∧CRel ρ0 sz els xs∧RowIn S w sz A els.length xs
 |.agg cs,x=>∃xs,x=.agg xs.toArray∧LRel ρ cs xs
 |.tup cs,x=>∃xs,x=.tuple xs.toArray∧LRel ρ cs xs
 |.clo fid cs,x=>∃xs,x=.func (.func fid) #[] xs.toArray∧LRel ρ cs xs
 |.lk els,x=>KRel els x
 |.np id,x=>x=.pointer none∨∃b,ρ id=some (.pointer (some ⟨b,0,none⟩))∧x=.pointer (some ⟨b,0,none⟩)
def LRel(ρ:Nat→Option Value):List V→List Value→Prop
 |[],xs=>xs=[]
 |v::r,xs=>∃x ys,xs=x::ys∧VRel ρ v x∧LRel ρ r ys
def KRel:List (List V)→Value→Prop
 |[],x=>x=.pointer none
 |cs::r,x=>∃b off xs y,x=.pointer (some ⟨b,off,none⟩)∧S b∧b<w.heap.size∧LRel ρ0 cs xs∧KRel r y∧y.oneCell'=true∧∀j,j<xs.length+1→w.cell? ⟨b,off+j,none⟩=(xs++[y])[j]?
def CRel(ρ:Nat→Option Value)(sz:Nat):List V→List Value→Prop
 |[],xs=>xs=[]
 |v::r,xs=>∃x ys,xs=x.cells.toList++ys∧(x.cells.size=sz∧x.cells.toList.all (·.oneCell')=true)∧VRel ρ v x∧CRel ρ sz r ys
end
end
structure Up (S S':Nat→Prop) (w w':World) (ρ ρ':Nat→Option Value):Prop where
 s:∀b,S b→S' b
 blk:∀b,S b→b<w.heap.size→w'.heap[b]?=w.heap[b]?
 r:∀i x,ρ i=some x→ρ' i=some x
variable{b:Nat}
variable{i:Nat}
variable{ρ ρ':Nat→Option Value}
section
variable{S S':Nat→Prop}{w w':World}
section
variable{ρ ρ':Nat→Option Value}
theorem Up.refl:Up S S w w ρ ρ:=⟨λ_ h=>h,λ_ _ _=>rfl,λ_ _ h=>h⟩
theorem Up.lt(u:Up S S' w w' ρ ρ')(hs:S b)(hb:b<w.heap.size):b<w'.heap.size:=by
 have G:=u.blk b hs hb;rcases Nat.lt_or_ge b w'.heap.size with h1|h1
 ·exact h1
 ·rw[Array.getElem?_eq_none h1,Array.getElem?_eq_getElem hb]at G;cases G
theorem Up.cell(u:Up S S' w w' ρ ρ')(hs:S b)(hb:b<w.heap.size):w'.cell? ⟨b,i,none⟩=w.cell? ⟨b,i,none⟩:=
 World.cell?_of_block (a:=⟨b,i,none⟩) (u.blk b hs hb)
end
theorem Up.z(u:Up S S' w w' ρ ρ'):Up S S' w w' ρ0 ρ0:=⟨u.s,u.blk,λ_ _ h=>h⟩
mutual
theorem VRel.up{ρ ρ':Nat→Option Value}(u:Up S S' w w' ρ ρ'):∀{v:V} {x:Value},VRel S w ρ v x→VRel S' w' ρ' v x
 |.int _ _,x,h=>by simp only[VRel]at h⊢;exact h
 |.bool _,x,h=>by simp only[VRel]at h⊢;exact h
 |.str _,x,h=>by simp only[VRel]at h⊢;exact h
 |.nilp,x,h=>by simp only[VRel]at h⊢;exact h
 |.nils,x,h=>by simp only[VRel]at h⊢;exact h
 |.raw _,x,h=>by simp only[VRel]at h⊢;exact h
 |.ptr id o,x,h=>by
  simp only[VRel]at h⊢;obtain⟨b,h1,h2⟩:=h;exact⟨b,u.r _ _ h1,h2⟩
 |.el id sz i o,x,h=>by
  simp only[VRel]at h⊢;obtain⟨b,n,c,h1,h2⟩:=h;exact⟨b,n,c,u.r _ _ h1,h2⟩
 |.sl id,x,h=>by simp only[VRel]at h⊢;exact⟨u.r _ _ h.1,h.2⟩
 |.box cs o,x,h=>by
  simp only[VRel]at h⊢;obtain⟨b,off,xs,h1,h2,h3,h4,h5⟩:=h;exact⟨b,off,xs,h1,u.s b h2,u.lt h2 h3,LRel.up u.z h4,λj hj=>(u.cell h2 h3).trans (h5 j hj)⟩
 |.row sz els,x,h=>by
  simp only[VRel]at h⊢;obtain⟨A,c,xs,h1,h2,h3,h4,h5⟩:=h;exact⟨A,c,xs,h1,h2,h3,CRel.up u.z h4,h5.keep u.s u.blk⟩
 |.agg cs,x,h=>by
  simp only[VRel]at h⊢;obtain⟨xs,h1,h2⟩:=h;exact⟨xs,h1,LRel.up u h2⟩
 |.tup cs,x,h=>by
  simp only[VRel]at h⊢;obtain⟨xs,h1,h2⟩:=h;exact⟨xs,h1,LRel.up u h2⟩
 |.clo fid cs,x,h=>by
  simp only[VRel]at h⊢;obtain⟨xs,h1,h2⟩:=h;exact⟨xs,h1,LRel.up u h2⟩
 |.lk els,x,h=>by
  simp only[VRel]at h⊢;exact KRel.up u h
 |.np id,x,h=>by
  simp only[VRel]at h⊢;exact h.imp_right λ⟨b,h1,h2⟩=>⟨b,u.r _ _ h1,h2⟩
theorem KRel.up{ρ ρ':Nat→Option Value}(u:Up S S' w w' ρ ρ'):∀{els:List (List V)} {x:Value},KRel S w els x→KRel S' w' els x
 |[],x,h=>by simp only[KRel]at h⊢;exact h
 |cs::r,x,h=>by
  simp only[KRel]at h⊢;obtain⟨b,off,xs,y,h1,h2,h3,h4,h5,h6,h7⟩:=h;exact⟨b,off,xs,y,h1,u.s b h2,u.lt h2 h3,LRel.up u.z h4,KRel.up u h5,h6,λj hj=>(u.cell h2 h3).trans (h7 j hj)⟩
theorem LRel.up{ρ ρ':Nat→Option Value}(u:Up S S' w w' ρ ρ'):∀{v:List V} {x:List Value},LRel S w ρ v x→LRel S' w' ρ' v x
 |[],x,h=>by simp only[LRel]at h⊢;exact h
 |v::r,x,h=>by
  simp only[LRel]at h⊢;obtain⟨y,ys,h1,h2,h3⟩:=h;exact⟨y,ys,h1,VRel.up u h2,LRel.up u h3⟩
theorem CRel.up{ρ ρ':Nat→Option Value}(u:Up S S' w w' ρ ρ'){sz:Nat}:∀{v:List V} {x:List Value},CRel S w ρ sz v x→CRel S' w' ρ' sz v x
 |[],x,h=>by simp only[CRel]at h⊢;exact h
 |v::r,x,h=>by
  simp only[CRel]at h⊢;obtain⟨y,ys,h1,h2,h3,h4⟩:=h;exact⟨y,ys,h1,h2,VRel.up u h3,CRel.up u h4⟩
end
end
section
variable(S:Nat→Prop)(w:World)(ρ:Nat→Option Value)
def own(id:Nat):Ob→Nat→Prop
 |.free,_=>False
 |.gone,_=>False
 |.var _ _,b=>ρ id=some (.pointer (some ⟨b,0,none⟩))
 |.row _ _ _,b=>∃v,ρ id=some v∧v.ownBlock=some b
 |.ext bs _,b=>b∈bs
 |.mp _ _ _ _,b=>ρ id=some (.map (some b))
def lD(id:Nat):Ob→Prop
 |.free=>ρ id=none
 |.gone=>True
 |.var t cs=>∃b xs,ρ id=some (.pointer (some ⟨b,0,none⟩))∧Blk w b t xs∧LRel S w ρ cs xs
 |.row e sz els=>∃v xs,ρ id=some v∧w.ownsRow 0 e sz v els.length xs∧CRel S w ρ sz els xs
 |.ext bs Φ=>Φ w∧(∀b,b∈bs→b<w.heap.size)∧∀w',(∀b,b∈bs→w'.heap[b]?=w.heap[b]?)→Φ w'
 |.mp _ _ ks vs=>∃b es clock,ρ id=some (.map (some b))∧w.heap[b]?=some (.map es clock)∧LRel S w ρ0 ks (es.toList.map (·.key))∧LRel S w ρ0 vs (es.toList.map (·.val))
def zN:List (Nat×List V):=[(0,[.int .i64 5,.int .i64 0]),(1,[.int .i64 6,.int .i64 0]),(2,[.int .i64 7,.int .i64 0])]
structure SOk:Prop where
 lt:∀b,S b→b<w.heap.size
 gl:∀p∈zN,VRel S w ρ0 (.box p.2 0) (.pointer (some ⟨p.1,0,none⟩))
structure HRel (h:Nat→Ob):Prop where
 ob:∀id,lD S w ρ id (h id)
 sep:∀id b,own ρ id (h id) b→¬S b
 dis:∀i j b,own ρ i (h i) b→own ρ j (h j) b→i=j
 slt:SOk S w
end
instance slt_fun {S:Nat→Prop} {w:World}:CoeFun (SOk S w) (λ_=>∀b,S b→b<w.heap.size):=⟨SOk.lt⟩
variable{S:Nat→Prop}{w':World}
theorem SOk.up{S':Nat→Prop}{w:World}(h:SOk S w)(u:Up S S' w w' ρ ρ')(G:∀b,S' b→b<w'.heap.size):SOk S' w':=⟨G,λp J=>VRel.up u.z (h.gl p J)⟩
variable{base sz:Nat}
section
variable{S S':Nat→Prop}{w w':World}{ρ ρ':Nat→Option Value}{h h':Nat→Ob}
theorem Ec{e:Nat}{v:Value}(G:w.ownsRow base e sz v n xs)(J:∀b,v.ownBlock=some b→w'.heap[b]?=w.heap[b]?):w'.ownsRow base e sz v n xs:=by
 refine⟨G.1,?_⟩;rcases G.2 with O|⟨g,cap,cur,rfl,hb,U,Z⟩
 ·exact .inl O
 ·exact .inr ⟨g,cap,cur,rfl,hb,(J g rfl).trans U,Z⟩
theorem gU{id:Nat}{o:Ob}(J:lD S w ρ id o)(hb:own ρ id o b):b<w.heap.size:=by
 cases o with
 |free=>exact hb.elim
 |gone=>exact hb.elim
 |var t cs=>
  obtain⟨O,xs,h1,h2,_⟩:=J;simp only[own]at hb;rw[h1]at hb;simp only[Option.some.injEq,Value.pointer.injEq,Addr.mk.injEq,and_true]at hb;subst hb;exact h2.lt
 |row e sz els=>
  obtain⟨v,xs,h1,h2,_⟩:=J;obtain⟨Z,G,U⟩:=hb;rw[h1]at G;simp only[Option.some.injEq]at G;subst G;exact(h2.lt b U).2
 |ext bs Φ=>exact J.2.1 b hb
 |mp kt et ks vs=>
  obtain⟨O,es,ck,h1,h2,_⟩:=J;simp only[own]at hb;rw[h1]at hb;simp only[Option.some.injEq,Value.map.injEq]at hb;subst hb;rcases Nat.lt_or_ge O w.heap.size with G|G
  ·exact G
  ·rw[Array.getElem?_eq_none G]at h2;cases h2
theorem lD.up{id:Nat}{o:Ob}(u:Up S S' w w' ρ ρ')(hf:o=.free→ρ' id=none)(Z:lD S w ρ id o)(J:∀b,own ρ id o b→w'.heap[b]?=w.heap[b]?):lD S' w' ρ' id o:=by
 cases o with
 |free=>exact hf rfl
 |gone=>trivial
 |var t cs=>
  obtain⟨O,xs,h1,h2,G⟩:=Z;exact⟨O,xs,u.r _ _ h1,(J O h1).trans h2,LRel.up u G⟩
 |row e sz els=>
  obtain⟨v,xs,h1,h2,G⟩:=Z;exact⟨v,xs,u.r _ _ h1,Ec h2 (λb hb=>J b ⟨v,h1,hb⟩),CRel.up u G⟩
 |mp kt et ks vs=>
  obtain⟨O,es,ck,h1,h2,G,U⟩:=Z;exact⟨O,es,ck,u.r _ _ h1,(J O h1).trans h2,LRel.up u.z G,LRel.up u.z U⟩
 |ext bs Φ=>
  obtain⟨h1,h2,G⟩:=Z;refine⟨G _ J,λb hb=>?_,λw'' h'=>G w'' (λb hb=>(h' b hb).trans (J b hb))⟩;have hh:=J b hb;rcases Nat.lt_or_ge b w'.heap.size with U|U
  ·exact U
  ·rw[Array.getElem?_eq_none U,Array.getElem?_eq_getElem (h2 b hb)]at hh;cases hh
theorem Ka{id:Nat}{o:Ob}(hr:∀i x,ρ i=some x→ρ' i=some x)(G:lD S w ρ id o)(hb:own ρ' id o b):own ρ id o b:=by
 cases o with
 |free=>exact hb
 |gone=>exact hb
 |var t cs=>
  obtain⟨U,xs,h1,h2,O⟩:=G;have :=hr _ _ h1;simp only[own]at hb⊢;rw[this]at hb;rw[h1];exact hb
 |row e sz els=>
  obtain⟨v,xs,h1,h2,O⟩:=G;obtain⟨v',J,Z⟩:=hb;rw[hr _ _ h1]at J;simp only[Option.some.injEq]at J;subst J;exact⟨v,h1,Z⟩
 |ext bs Φ=>exact hb
 |mp kt et ks vs=>
  obtain⟨U,es,ck,h1,h2,O⟩:=G;have :=hr _ _ h1;simp only[own]at hb⊢;rw[this]at hb;rw[h1];exact hb
theorem LRel.length:∀{vs:List V} {xs:List Value},LRel S w ρ vs xs→xs.length=vs.length
 |[],xs,h=>by simp only[LRel]at h;simp[h]
 |v::r,xs,h=>by
  simp only[LRel]at h;obtain⟨x,ys,rfl,_,G⟩:=h;simp[LRel.length G]
theorem LRel.get:∀{vs:List V} {xs:List Value} {i:Nat} {v:V},LRel S w ρ vs xs→vs[i]?=some v→∃x,xs[i]?=some x∧VRel S w ρ v x
 |[],xs,i,v,h,hi=>by simp at hi
 |u::r,xs,0,v,h,hi=>by
  simp only[LRel]at h;obtain⟨x,ys,rfl,h2,G⟩:=h;simp only[List.getElem?_cons_zero,Option.some.injEq]at hi;subst hi;exact⟨x,by simp,h2⟩
 |u::r,xs,i+1,v,h,hi=>by
  simp only[LRel]at h;obtain⟨x,ys,rfl,h2,G⟩:=h;simp only[List.getElem?_cons_succ]at hi⊢;exact LRel.get G hi
theorem LRel.set:∀{vs:List V} {xs:List Value} {i:Nat} {v:V} {x:Value},LRel S w ρ vs xs→VRel S w ρ v x→LRel S w ρ (vs.set i v) (xs.set i x)
 |[],xs,i,v,x,h,hx=>by simp only[LRel]at h;subst h;simp[LRel]
 |u::r,xs,0,v,x,h,hx=>by
  simp only[LRel]at h;obtain⟨y,ys,rfl,h2,G⟩:=h;exact⟨x,ys,by simp,hx,G⟩
 |u::r,xs,i+1,v,x,h,hx=>by
  simp only[LRel]at h;obtain⟨y,ys,rfl,h2,G⟩:=h;exact⟨y,ys.set i x,by simp,h2,LRel.set G hx⟩
theorem LRel.append:∀{vs us:List V} {xs ys:List Value},LRel S w ρ vs xs→LRel S w ρ us ys→LRel S w ρ (vs++us) (xs++ys)
 |[],us,xs,ys,h,G=>by simp only[LRel]at h;subst h;simpa using G
 |v::r,us,xs,ys,h,G=>by
  simp only[LRel]at h;obtain⟨y,zs,rfl,h2,J⟩:=h;exact⟨y,zs++ys,by simp,h2,LRel.append J G⟩
theorem LRel.drop:∀{vs:List V} {xs:List Value} (n:Nat),LRel S w ρ vs xs→LRel S w ρ (vs.drop n) (xs.drop n)
 |vs,xs,0,h=>by simpa using h
 |[],xs,n+1,h=>by simp only[LRel]at h;subst h;simp[LRel]
 |v::r,xs,n+1,h=>by
  simp only[LRel]at h;obtain⟨y,zs,rfl,h2,G⟩:=h;simpa using LRel.drop n G
theorem LRel.take:∀{vs:List V} {xs:List Value} (n:Nat),LRel S w ρ vs xs→LRel S w ρ (vs.take n) (xs.take n)
 |vs,xs,0,h=>by simp[LRel]
 |[],xs,n+1,h=>by simp only[LRel]at h;subst h;simp[LRel]
 |v::r,xs,n+1,h=>by
  simp only[LRel]at h;obtain⟨y,zs,rfl,h2,G⟩:=h;exact⟨y,zs.take n,by simp,h2,LRel.take n G⟩
theorem CRel.length{sz:Nat}:∀{vs:List V} {xs:List Value},CRel S w ρ sz vs xs→xs.length=vs.length*sz
 |[],xs,h=>by simp only[CRel]at h;simp[h]
 |v::r,xs,h=>by
  simp only[CRel]at h;obtain⟨x,ys,rfl,⟨h2,_⟩,J,G⟩:=h;have :=CRel.length G;simp[this,h2,Nat.add_mul];omega
theorem CRel.get{sz:Nat}:∀{vs:List V} {xs:List Value} {i:Nat} {v:V},CRel S w ρ sz vs xs→vs[i]?=some v→∃x,VRel S w ρ v x∧x.cells.size=sz∧∀j,j<sz→xs[i*sz+j]?=x.cells.toList[j]?
 |[],xs,i,v,h,hi=>by simp at hi
 |u::r,xs,0,v,h,hi=>by
  simp only[CRel]at h;obtain⟨x,ys,rfl,⟨h2,_⟩,G,J⟩:=h;simp only[List.getElem?_cons_zero,Option.some.injEq]at hi;subst hi;exact⟨x,G,h2,λj O=>by rw[List.getElem?_append_left (by simp;omega)];simp⟩
 |u::r,xs,i+1,v,h,hi=>by
  simp only[CRel]at h;obtain⟨x,ys,rfl,⟨h2,_⟩,G,J⟩:=h;simp only[List.getElem?_cons_succ]at hi;obtain⟨y,U,Z,g3⟩:=CRel.get J hi;refine⟨y,U,Z,λj O=>?_⟩;rw[List.getElem?_append_right (by simp[h2,Nat.add_mul];omega),←g3 j O]
  congr 1
  simp[h2,Nat.add_mul];omega
theorem CRel.append{sz:Nat}:∀{vs us:List V} {xs ys:List Value},CRel S w ρ sz vs xs→CRel S w ρ sz us ys→CRel S w ρ sz (vs++us) (xs++ys)
 |[],us,xs,ys,h,G=>by simp only[CRel]at h;subst h;simpa using G
 |v::r,us,xs,ys,h,G=>by
  simp only[CRel]at h;obtain⟨y,zs,rfl,h2,J,O⟩:=h;exact⟨y,zs++ys,by simp,h2,J,CRel.append O G⟩
theorem CRel.drop{sz:Nat}:∀{vs:List V} {xs:List Value} (n:Nat),CRel S w ρ sz vs xs→CRel S w ρ sz (vs.drop n) (xs.drop (n*sz))
 |vs,xs,0,h=>by simpa using h
 |[],xs,n+1,h=>by simp only[CRel]at h;subst h;simp[CRel]
 | v::r,xs,n+1,h=>by
  simp only[CRel]at h;obtain⟨y,zs,rfl,⟨h2,_⟩,h3,h4⟩:=h;have :=CRel.drop n h4;have e:(y.cells.toList++zs).drop ((n+1)*sz)=zs.drop (n*sz):=by
   rw[List.drop_append,List.drop_of_length_le (by simp[h2,Nat.add_mul])];simp[h2,Nat.add_mul]
  rw[e];simpa using this
theorem CRel.take{sz:Nat}:∀{vs:List V} {xs:List Value} (n:Nat),CRel S w ρ sz vs xs→CRel S w ρ sz (vs.take n) (xs.take (n*sz))
 |vs,xs,0,h=>by simp[CRel]
 |[],xs,n+1,h=>by simp only[CRel]at h;subst h;simp[CRel]
 | v::r,xs,n+1,h=>by
  simp only[CRel]at h;obtain⟨y,zs,rfl,⟨h2,h1⟩,h3,h4⟩:=h;have :=CRel.take n h4;have e:(y.cells.toList++zs).take ((n+1)*sz)=y.cells.toList++zs.take (n*sz):=by
   rw[List.take_append,List.take_of_length_le (by simp[h2,Nat.add_mul])]
   congr 2
   simp[h2,Nat.add_mul]
  rw[e];exact⟨y,_,rfl,⟨h2,h1⟩,h3,this⟩
theorem CRel.ones{sz:Nat}:∀{vs:List V} {xs:List Value},CRel S w ρ sz vs xs→∀u∈xs,u.oneCell'=true
 |[],xs,h=>by simp only[CRel]at h;subst h;simp
 |v::r,xs,h=>by
  simp only[CRel]at h;obtain⟨x,ys,rfl,⟨h2,h1⟩,O,G⟩:=h;intro u J;rcases List.mem_append.1 J with h|h
  ·exact List.all_eq_true.1 h1 u h
  ·exact CRel.ones G u h
def V.one:V→Bool
 |.agg _=>false
 |.tup _=>false
 |_=>true
theorem VRel.one{v:V}{x:Value}(hv:VRel S w ρ v x)(h1:v.one=true):x.oneCell'=true:=by
 cases v with
 |int _ _=>simp only[VRel]at hv;subst hv;rfl
 |bool _=>simp only[VRel]at hv;subst hv;rfl
 |str _=>simp only[VRel]at hv;subst hv;rfl
 |nilp=>simp only[VRel]at hv;subst hv;rfl
 |nils=>simp only[VRel]at hv;subst hv;rfl
 |np id=>simp only[VRel]at hv;rcases hv with rfl|⟨b,_,rfl⟩<;>rfl
 |raw y=>simp only[VRel]at hv;obtain⟨rfl,h⟩:=hv;exact h
 |ptr id o=>simp only[VRel]at hv;obtain⟨b,_,rfl⟩:=hv;rfl
 |el id sz i o=>simp only[VRel]at hv;obtain⟨b,n,c,_,rfl⟩:=hv;rfl
 |sl id=>simp only[VRel]at hv;exact hv.2
 |box cs o=>simp only[VRel]at hv;obtain⟨b,off,xs,rfl,_⟩:=hv;rfl
 |row sz els=>simp only[VRel]at hv;obtain⟨A,c,xs,rfl,_⟩:=hv;rfl
 |agg cs=>cases h1
 |tup cs=>cases h1
 |clo fid cs=>simp only[VRel]at hv;obtain⟨xs,rfl,_⟩:=hv;rfl
 |lk els=>
  simp only[VRel]at hv;cases els with
  |nil=>simp only[KRel]at hv;subst hv;rfl
  |cons c r=>simp only[KRel]at hv;obtain⟨b,off,xs,y,rfl,_⟩:=hv;rfl
theorem up0:Up S S w w ρ0 ρ:=⟨λ_ h=>h,λ_ _ _=>rfl,λ_ _ h=>by cases h⟩
def V.cells:V→List V
 |.agg cs=>cs
 |v=>[v]
theorem VRel.cells{v:V}{x:Value}(hv:VRel S w ρ v x):LRel S w ρ v.cells x.cells.toList:=by
 have one:∀{u:V},u.cells=[u]→VRel S w ρ u x→x.cells=#[x]→LRel S w ρ u.cells x.cells.toList:=λh1 h2 G=>by rw[h1,G];exact⟨x,[],rfl,h2,rfl⟩
 cases v with
 |agg cs=>
  simp only[VRel]at hv;obtain⟨xs,rfl,h⟩:=hv;exact h
 |tup cs=>
  refine one rfl hv ?_;simp only[VRel]at hv;obtain⟨xs,rfl,h⟩:=hv;rfl
 |_=>exact one rfl hv (LH (hv.one rfl))
end
mutual
def V.pure:V→Bool
 |.ptr _ _=>false
 |.el _ _ _ _=>false
 |.sl _=>false
 |.np _=>false
 |.agg cs=>pureL cs
 |.tup cs=>pureL cs
 |.clo _ cs=>pureL cs
 |.int _ _=>true
 |.bool _=>true
 |.str _=>true
 |.nilp=>true
 |.nils=>true
 |.raw _=>true
 |.box _ _=>true
 |.row _ _=>true
 |.lk _=>true
def pureL:List V→Bool
 |[]=>true
 |v::r=>match v.pure with
  |true=>pureL r
  |false=>false
end
section
variable{S:Nat→Prop}{w:World}{ρ ρ':Nat→Option Value}
theorem BI{v:V}{r:List V}(h:pureL (v::r)=true):v.pure=true∧pureL r=true:=by
 simp only[pureL]at h;split at h
 ·exact⟨‹_›,h⟩
 ·cases h
mutual
theorem VRel.pure:∀{v:V} {x:Value},v.pure=true→VRel S w ρ v x→VRel S w ρ' v x
 |.int _ _,x,_,h=>by simp only[VRel]at h⊢;exact h
 |.bool _,x,_,h=>by simp only[VRel]at h⊢;exact h
 |.str _,x,_,h=>by simp only[VRel]at h⊢;exact h
 |.nilp,x,_,h=>by simp only[VRel]at h⊢;exact h
 |.nils,x,_,h=>by simp only[VRel]at h⊢;exact h
 |.raw _,x,_,h=>by simp only[VRel]at h⊢;exact h
 |.ptr id o,x,hp,h=>by cases hp
 |.el id sz i o,x,hp,h=>by cases hp
 |.sl id,x,hp,h=>by cases hp
 |.np id,x,hp,h=>by cases hp
 |.box cs o,x,_,h=>by simp only[VRel]at h⊢;exact h
 |.row sz els,x,_,h=>by simp only[VRel]at h⊢;exact h
 |.agg cs,x,hp,h=>by
  simp only[VRel]at h⊢;obtain⟨xs,h1,h2⟩:=h;exact⟨xs,h1,LRel.pure (by simpa only[V.pure]using hp) h2⟩
 |.tup cs,x,hp,h=>by
  simp only[VRel]at h⊢;obtain⟨xs,h1,h2⟩:=h;exact⟨xs,h1,LRel.pure (by simpa only[V.pure]using hp) h2⟩
 |.lk _,x,_,h=>by simp only[VRel]at h⊢;exact h
 |.clo fid cs,x,hp,h=>by
  simp only[VRel]at h⊢;obtain⟨xs,h1,h2⟩:=h;exact⟨xs,h1,LRel.pure (by simpa only[V.pure]using hp) h2⟩
theorem LRel.pure:∀{v:List V} {x:List Value},pureL v=true→LRel S w ρ v x→LRel S w ρ' v x
 |[],x,_,h=>by simp only[LRel]at h⊢;exact h
 |v::r,x,hp,h=>by
  simp only[LRel]at h⊢;obtain⟨y,ys,h1,h2,h3⟩:=h;have hp':=BI hp;exact⟨y,ys,h1,VRel.pure hp'.1 h2,LRel.pure hp'.2 h3⟩
end
theorem CRel.pure{sz:Nat}:∀{v:List V} {x:List Value},pureL v=true→CRel S w ρ sz v x→CRel S w ρ' sz v x
 |[],x,_,h=>by simp only[CRel]at h⊢;exact h
 |v::r,x,J,h=>by
  simp only[CRel]at h⊢;obtain⟨y,ys,h1,h2,O,U⟩:=h;have G:=BI J;exact⟨y,ys,h1,h2,VRel.pure G.1 O,CRel.pure G.2 U⟩
end
theorem CY(l:List UInt8)(a b:Nat):(ByteArray.mk l.toArray).extract a b=⟨((l.drop a).take (b-a)).toArray⟩:=Lx.AD l a b
def Agree(S:Nat→Prop)(w w':World):Prop:=∀b,S b→w'.heap[b]?=w.heap[b]?
abbrev fA(a:Act):Nat→Option Value:=λi=>a.tmps[i]?
def Opd(S:Nat→Prop)(w:World)(ρ:Nat→Option Value)(a:Act)(x:Operand)(v:V):Prop:=∃y,aS (fA a) x=some y∧VRel S w ρ v y
def Yld(P:Program)(S:Nat→Prop)(w:World)(ρ:Nat→Option Value)(a:Act)(ty:TypeId)(op:Op)(v:V):Prop:=∃x,VRel S w ρ v x∧∀w',Agree S w w'→Runs P a ty op w' (.value x) w'
variable{x:Operand}
variable{cs:List V}
variable{vs:List V}
variable{t:TypeId}
variable{k:Nat}
variable{j:Nat}
variable{f:Nat→Option Value}
variable{u:TypeId}
variable{e:TypeId}
variable{els:List V}
variable{l:List UInt8}
variable{ps:List (Nat×Operand)}
section
variable{P:Program}{S:Nat→Prop}{w:World}{ρ:Nat→Option Value}{a:Act}{n:Nat}{ty:TypeId}
theorem Pl{v:V}(fr:Fr a n (fA a))(hx:Opd S w ρ a x v):Yld P S w ρ a ty (.move x) v:=by
 obtain⟨y,h1,h2⟩:=hx;exact⟨y,h2,λw' _=>Ot fr h1⟩
theorem MR{v:V}(fr:Fr a n (fA a))(hx:Opd S w ρ a x v):Yld P S w ρ a ty (.assign x) v:=by
 obtain⟨y,h1,h2⟩:=hx;exact⟨y,h2,λw' _=>Lv fr h1⟩
theorem On{c y:Operand}{v:V}(fr:Fr a n (fA a))(G:Opd S w ρ a c (.bool true))(hx:Opd S w ρ a x v):Yld P S w ρ a ty (.pick c x y) v:=by
 obtain⟨b,h1,h2⟩:=G;obtain⟨z,J,O⟩:=hx;simp only[VRel]at h2;subst h2;exact⟨z,O,λw' _=>MH fr h1 J⟩
theorem Pa{c y:Operand}{v:V}(fr:Fr a n (fA a))(G:Opd S w ρ a c (.bool false))(hx:Opd S w ρ a y v):Yld P S w ρ a ty (.pick c x y) v:=by
 obtain⟨b,h1,h2⟩:=G;obtain⟨z,J,O⟩:=hx;simp only[VRel]at h2;subst h2;exact⟨z,O,λw' _=>Mp fr h1 J⟩
theorem PE{id o:Nat}(fr:Fr a n (fA a))(hx:Opd S w ρ a x (.ptr id o)):Yld P S w ρ a ty (.nilCheck x) (.ptr id o):=by
 obtain⟨y,h1,h2⟩:=hx;refine⟨y,h2,λw' _=>?_⟩;simp only[VRel]at h2;obtain⟨b,_,rfl⟩:=h2;exact EN fr h1
theorem Qf{id o:Nat}(fr:Fr a n (fA a))(hx:Opd S w ρ a x (.el id sz i o)):Yld P S w ρ a ty (.nilCheck x) (.el id sz i o):=by
 obtain⟨y,h1,h2⟩:=hx;refine⟨y,h2,λw' _=>?_⟩;simp only[VRel]at h2;obtain⟨b,_,_,_,rfl⟩:=h2;exact EN fr h1
theorem PD{o:Nat}(fr:Fr a n (fA a))(hx:Opd S w ρ a x (.box cs o)):Yld P S w ρ a ty (.nilCheck x) (.box cs o):=by
 obtain⟨y,h1,h2⟩:=hx;refine⟨y,h2,λw' _=>?_⟩;simp only[VRel]at h2;obtain⟨b,off,xs,rfl,_⟩:=h2;exact EN fr h1
theorem Rw{v:V}(fr:Fr a n (fA a))(hx:Opd S w ρ a x (.tup vs))(hi:vs[i]?=some v):Yld P S w ρ a ty (.extract x i) v:=by
 obtain⟨y,h1,h2⟩:=hx;simp only[VRel]at h2;obtain⟨xs,rfl,G⟩:=h2;obtain⟨z,J,O⟩:=G.get hi;exact⟨z,O,λw' _=>Jo fr h1 (by simpa using J)⟩
theorem RF{b:Bool}(fr:Fr a n (fA a))(hx:Opd S w ρ a x (.bool b)):Yld P S w ρ a ty (.unOp .not t x) (.bool !b):=by
 obtain⟨y,h1,h2⟩:=hx;simp only[VRel]at h2;subst h2;exact⟨_,by simp only[VRel],λw' _=>QT fr h1 rfl⟩
theorem RD{id o:Nat}(fr:Fr a n (fA a))(hx:Opd S w ρ a x (.ptr id o))(G:rv P t i=some k):Yld P S w ρ a ty (.fieldAddr t x i) (.ptr id (o+k)):=by
 obtain⟨y,h1,h2⟩:=hx;simp only[VRel]at h2;obtain⟨b,J,rfl⟩:=h2;exact⟨_,by simp only[VRel];exact⟨b,J,rfl⟩,λw' _=>JZ fr h1 G rfl⟩
theorem RG{id o:Nat}(fr:Fr a n (fA a))(hx:Opd S w ρ a x (.el id sz j o))(G:rv P t i=some k):Yld P S w ρ a ty (.fieldAddr t x i) (.el id sz j (o+k)):=by
 obtain⟨y,h1,h2⟩:=hx;simp only[VRel]at h2;obtain⟨b,m,c,J,rfl⟩:=h2;exact⟨_,by simp only[VRel];exact⟨b,m,c,J,rfl⟩,λw' _=>JZ fr h1 G (Nat.add_assoc _ _ _)⟩
theorem RY{o:Nat}(fr:Fr a n (fA a))(hx:Opd S w ρ a x (.box cs o))(G:rv P t i=some k):Yld P S w ρ a ty (.fieldAddr t x i) (.box cs (o+k)):=by
 obtain⟨y,h1,h2⟩:=hx;simp only[VRel]at h2;obtain⟨b,off,xs,rfl,J⟩:=h2;exact⟨_,by simp only[VRel];exact⟨b,off,xs,rfl,J⟩,λw' _=>JZ fr h1 G (Nat.add_assoc _ _ _)⟩
theorem SG{v:V}(fr:Fr a n (fA a))(hx:Opd S w ρ a x (.agg cs))(G:uH P t i=some k)(hv:cs[k]?=some v):Yld P S w ρ a ty (.field t x i) v:=by
 obtain⟨y,h1,h2⟩:=hx;simp only[VRel]at h2;obtain⟨xs,rfl,J⟩:=h2;obtain⟨z,O,U⟩:=J.get hv;exact⟨z,U,λw' _=>Sb fr h1 G O⟩
def uP(P:Program)(t:TypeId)(i:Nat):Option (Nat×Nat):=match P.underlying t with
 |some (.struct fs)=>match fs[i]? with
  |some fl=>match oe P fl.type with
   |some m=>some (fl.offset,m)
   |none=>none
  |none=>none
 |_=>none
theorem Rh{cs:List Value}(h:Fr a n f)(hx:aS f x=some (.agg cs.toArray))(G:uP P t i=some (k,m)):Runs P a ty (.field t x i) w (.value (.agg ((cs.drop k).take m).toArray)) w:=by
 refine Eo h hx λw=>?_;unfold uP at G;split at G
 ·rename_i fs J;split at G
  ·rename_i fl O;split at G
   ·rename_i Z hs;simp only[Option.some.injEq,Prod.mk.injEq]at G;obtain⟨rfl,rfl⟩:=G;have U:(isAgg fl.type).run P w=.ok true w∧(sizeOf fl.type).run P w=.ok Z w:=by
     unfold oe at hs;cases J:P.underlying fl.type with
     |none=>rw[J]at hs;cases hs
     |some d=>
      rw[J]at hs;cases d<;>first|cases hs|(obtain⟨i,hi,hs⟩:=Option.map_eq_some_iff.1 hs;simp[isAgg,run_underlying J,sizeOf,typeInfo,hi,hs])
    simp[Instr.field,run_underlying J,O,part,U.1,U.2,asAgg]
   ·cases G
  ·cases G
 ·cases G
theorem RK(fr:Fr a n (fA a))(hx:Opd S w ρ a x (.agg cs))(G:uP P t i=some (k,m)):Yld P S w ρ a ty (.field t x i) (.agg ((cs.drop k).take m)):=by
 obtain⟨y,h1,h2⟩:=hx;simp only[VRel]at h2;obtain⟨xs,rfl,J⟩:=h2;exact⟨_,by simp only[VRel];exact⟨_,rfl,(J.drop k).take m⟩,λw' _=>Rh fr h1 G⟩
section
variable{t u:TypeId}{x y:Operand}{k:IntKind}{m l:Int}
theorem bu(h:Opd S w ρ a x (.int k m)):aS (fA a) x=some (.int k m):=by
 obtain⟨y,h1,h2⟩:=h;simp only[VRel]at h2;subst h2;exact h1
theorem sS{b:Bool}(h:Opd S w ρ a x (.bool b)):aS (fA a) x=some (.bool b):=by
 obtain⟨y,h1,h2⟩:=h;simp only[VRel]at h2;subst h2;exact h1
theorem lV{s:List UInt8}(h:Opd S w ρ a x (.str s)):aS (fA a) x=some (.string ⟨s.toArray⟩):=by
 obtain⟨y,h1,h2⟩:=h;simp only[VRel]at h2;subst h2;exact h1
variable(fr:Fr a n (fA a))(hx:Opd S w ρ a x (.int k m))(hy:Opd S w ρ a y (.int k l))
include fr hx hy
theorem RA:Yld P S w ρ a ty (.binOp .eql t x y u) (.bool (m==l)):=⟨_,by simp only[VRel],λw' _=>Py fr (bu hx) (bu hy) rfl⟩
theorem Rt:Yld P S w ρ a ty (.binOp .neq t x y u) (.bool (m !=l)):=⟨_,by simp only[VRel],λw' _=>Qm fr (bu hx) (bu hy) rfl⟩
theorem RQ:Yld P S w ρ a ty (.binOp .lss t x y u) (.bool (decide (m<l))):=⟨_,by simp only[VRel],λw' _=>QV fr (bu hx) (bu hy) rfl⟩
theorem RW:Yld P S w ρ a ty (.binOp .leq t x y u) (.bool (decide (m≤l))):=⟨_,by simp only[VRel],λw' _=>Pj fr (bu hx) (bu hy) rfl⟩
theorem RJ:Yld P S w ρ a ty (.binOp .gtr t x y u) (.bool (decide (l<m))):=⟨_,by simp only[VRel],λw' _=>QQ fr (bu hx) (bu hy) rfl⟩
theorem Rx:Yld P S w ρ a ty (.binOp .geq t x y u) (.bool (decide (l≤m))):=⟨_,by simp only[VRel],λw' _=>QO fr (bu hx) (bu hy) rfl⟩
end
section
variable{t u:TypeId}{x y:Operand}{m l:Int}(fr:Fr a n (fA a))(hx:Opd S w ρ a x (.int .i64 m))(hy:Opd S w ρ a y (.int .i64 l))
include fr hx hy
theorem PM:Yld P S w ρ a ty (.call {callee:=.builtin .max,args:=#[x,y],argTypes:=#[t,u]}) (.int .i64 (max m l)):=⟨_,by simp only[VRel],λw' _=>NK fr (bu hx) (bu hy)⟩
end
theorem Sa{y:Operand}{m l:Bool}(fr:Fr a n (fA a))(ht:P.underlying t=some .bool)(hx:Opd S w ρ a x (.bool m))(hy:Opd S w ρ a y (.bool l)):Yld P S w ρ a ty (.binOp .eql t x y u) (.bool (m==l)):=
 ⟨_,by simp only[VRel],λw' _=>PG ht fr (sS hx) (sS hy) rfl⟩
theorem Pu{y:Operand}{m l c:Bool}(ht:P.underlying t=some .bool)(h:Fr a n f)(hx:aS f x=some (.bool m))(hy:aS f y=some (.bool l))(G:(m !=l)=c):Runs P a ty (.binOp .neq t x y u) w (.value (.bool c)) w:=λ_ _ _ _=>by subst G;simp only[execOp,h.eval hx,h.eval hy];simp[go_sem,eqGuard,ht,bne]
theorem RN{y:Operand}{m l:Bool}(fr:Fr a n (fA a))(ht:P.underlying t=some .bool)(hx:Opd S w ρ a x (.bool m))(hy:Opd S w ρ a y (.bool l)):Yld P S w ρ a ty (.binOp .neq t x y u) (.bool (m !=l)):=
 ⟨_,by simp only[VRel],λw' _=>Pu ht fr (sS hx) (sS hy) rfl⟩
section
variable{t u:TypeId}{x y:Operand}{m l:List UInt8}(fr:Fr a n (fA a))(hx:Opd S w ρ a x (.str m))(hy:Opd S w ρ a y (.str l))
include fr hx hy
theorem RU:Yld P S w ρ a ty (.binOp .eql t x y u) (.bool (m==l)):=⟨_,by simp only[VRel],λw' _=>PB fr (lV hx) (lV hy) rfl⟩
theorem RT:Yld P S w ρ a ty (.binOp .neq t x y u) (.bool (m !=l)):=⟨_,by simp only[VRel],λw' _=>QS fr (lV hx) (lV hy) rfl⟩
end
theorem KV{m:List UInt8}(fr:Fr a n (fA a))(ht:P.underlying t=some .string)(hx:Opd S w ρ a x (.str m)):Yld P S w ρ a ty (.call {callee:=.builtin .len,args:=#[x],argTypes:=#[t]}) (.int .i64 m.length):=
 ⟨_,by simp only[VRel],λw' _=>NY fr ht (lV hx)⟩
theorem QD(fr:Fr a n (fA a))(ht:P.underlying t=some (.slice e))(hx:Opd S w ρ a x .nils):Yld P S w ρ a ty (.call {callee:=.builtin .len,args:=#[x],argTypes:=#[t]}) (.int .i64 0):=by
 obtain⟨y,h1,h2⟩:=hx;simp only[VRel]at h2;subst h2;exact⟨.int .i64 (0:Nat),by simp only[VRel];rfl,λw' _=>Fl fr ht h1⟩
theorem Ku(fr:Fr a n (fA a))(ht:P.underlying t=some (.slice e))(hx:Opd S w ρ a x (.row sz els)):Yld P S w ρ a ty (.call {callee:=.builtin .len,args:=#[x],argTypes:=#[t]}) (.int .i64 els.length):=by
 obtain⟨y,h1,h2⟩:=hx;simp only[VRel]at h2;obtain⟨A,c,xs,rfl,_⟩:=h2;exact⟨_,by simp only[VRel],λw' _=>Fl fr ht h1⟩
theorem gv{e:Nat}{v:Value}(h:w.ownsRow base e sz v k xs):∃A c,v=.slice A k c∧k≤c∧c≤maxLen:=by
 rcases h.2 with⟨rfl,rfl⟩|⟨g,cap,cur,rfl,_,_,G,J,_⟩
 ·exact⟨none,0,rfl,Nat.le_refl _,by decide⟩
 ·exact⟨_,cap,rfl,G,J⟩
theorem KP{h:Nat→Ob}{O:TypeId}{id:Nat}(hr:HRel S w ρ h)(U:h id=.row O sz els)(fr:Fr a n (fA a))(ht:P.underlying t=some (.slice e))(hx:Opd S w ρ a x (.sl id)):Yld P S w ρ a ty (.call {callee:=.builtin .len,args:=#[x],argTypes:=#[t]}) (.int .i64 els.length):=by
 obtain⟨y,h1,h2⟩:=hx;simp only[VRel]at h2;have G:=hr.ob id;rw[U]at G;obtain⟨v,xs,J,Z,h6⟩:=G;rw[h2.1]at J;cases J;obtain⟨A,c,rfl,_⟩:=gv Z;exact⟨_,by simp only[VRel],λw' _=>Fl fr ht h1⟩
theorem p_idxR{y:Operand}{v:V}(fr:Fr a n (fA a))(ht:P.underlying t=some (.slice e))(O:jt P e=some sz)(hx:Opd S w ρ a x (.row sz els))(hy:Opd S w ρ a y (.int .i64 (i:Int)))(hi:els[i]?=some v):
  Yld P S w ρ a ty (.indexAddr t x y) (.box v.cells 0):=by
 obtain⟨y',h1,h2⟩:=hx;simp only[VRel]at h2;obtain⟨A,c,xs,rfl,h3,h4,U,Z⟩:=h2;have G:i<els.length:=by
  rcases Nat.lt_or_ge i els.length with h|h
  ·exact h
  ·rw[List.getElem?_eq_none h]at hi;cases hi
 obtain⟨b,off,rfl,hS,hb,hc⟩:=Z.2 (by omega);obtain⟨z,g1,g2,g3⟩:=U.get hi;have hcell:∀j,j<sz→w.cell? ⟨b,off+i*sz+j,none⟩=z.cells.toList[j]?:=λj J=>by
  rw[←g3 j J,Nat.add_assoc];refine hc _ ?_;have :(i+1)*sz≤els.length*sz:=Nat.mul_le_mul_right _ G;rw[Nat.add_mul,Nat.one_mul]at this;omega
 refine⟨_,?_,λw' _=>DT fr ht O h1 (bu hy) rfl G rfl⟩;simp only[VRel];refine⟨b,off+i*sz,_,by simp,hS,hb,g1.cells,λj J=>?_⟩;exact hcell j (by simp at J;omega)
theorem p_idxO{h:Nat→Ob}{O:TypeId}{y:Operand}{id:Nat}(hr:HRel S w ρ h)(U:h id=.row O sz els)(fr:Fr a n (fA a))(ht:P.underlying t=some (.slice e))(Z:jt P e=some sz)(hx:Opd S w ρ a x (.sl id))(hy:Opd S w ρ a y (.int .i64 (i:Int)))(hi:i<els.length):
  Yld P S w ρ a ty (.indexAddr t x y) (.el id sz i 0):=by
 obtain⟨y',h1,h2⟩:=hx;simp only[VRel]at h2;have G:=hr.ob id;rw[U]at G;obtain⟨v,xs,J,h5,h6⟩:=G;rw[h2.1]at J;cases J;obtain⟨g,cap,rfl,_⟩:=h5.form (by omega);exact⟨_,by simp only[VRel];exact⟨g,_,_,h2.1,rfl⟩,λw' _=>DT fr ht Z h1 (bu hy) rfl hi (by simp)⟩
theorem OT{y:Operand}{c:UInt8}(h:Fr a n f)(ht:P.underlying t=some .string)(hx:aS f x=some (.string ⟨l.toArray⟩))(hy:aS f y=some (.int .i64 (i:Int)))(hi:l[i]?=some c):Runs P a ty (.index t x y) w (.value (.int .u8 c.toNat)) w:=λ_ _ _ _=>by
 simp only[execOp,h.eval hx,h.eval hy];have hb:(ByteArray.mk l.toArray)[i]?=some c:=by
  obtain⟨G,J⟩:=List.getElem?_eq_some_iff.1 hi;have :i<(ByteArray.mk l.toArray).size:=by simpa[ByteArray.size]using G
  rw[getElem?_pos (ByteArray.mk l.toArray) i this];simpa[ByteArray.getElem_eq_getElem_data]using J
 simp[Instr.index,asIntOf,run_underlying ht,hb]
theorem p_idxS{y:Operand}{c:UInt8}(fr:Fr a n (fA a))(ht:P.underlying t=some .string)(hx:Opd S w ρ a x (.str l))(hy:Opd S w ρ a y (.int .i64 (i:Int)))(hi:l[i]?=some c):Yld P S w ρ a ty (.index t x y) (.int .u8 c.toNat):=
 ⟨_,by simp only[VRel],λw' _=>OT fr ht (lV hx) (bu hy) hi⟩
theorem Ri{lo hi:Option Operand}{i j:Nat}(h:Fr a n f)(ht:P.underlying t=some .string)(hx:aS f x=some (.string ⟨l.toArray⟩))
  (G:(lo=none∧i=0)∨∃y,lo=some y∧aS f y=some (.int .i64 (i:Int))) (J:(hi=none∧j=l.length)∨∃y,hi=some y∧aS f y=some (.int .i64 (j:Int))) (U:i≤j) (Z:j≤l.length):
  Runs P a ty (.slice t x lo hi none) w (.value (.string ⟨((l.drop i).take (j-i)).toArray⟩)) w:=λ_ _ _ _=>by
 have hs:(ByteArray.mk l.toArray).size=l.length:=by simp[ByteArray.size]
 rw[←CY];rcases G with⟨rfl,rfl⟩|⟨y,rfl,hy⟩<;>rcases J with⟨rfl,rfl⟩|⟨z,rfl,O⟩
 ·simp only[execOp,h.eval hx,Option.map_none];simp[Instr.sliceAt,Instr.slice,run_underlying ht,Instr.sliceBounds,hs];rw[CY];simp
 ·simp only[execOp,h.eval hx,h.eval O,Option.map_none,Option.map_some];simp[Instr.sliceAt,Instr.slice,run_underlying ht,Instr.sliceBounds,hs,run_sliceBound _ .i64 (j:Int) l.length _ (by omega) (by omega)]
 ·simp only[execOp,h.eval hx,h.eval hy,Option.map_none,Option.map_some];simp[Instr.sliceAt,Instr.slice,run_underlying ht,Instr.sliceBounds,hs,run_sliceBound _ .i64 (i:Int) l.length _ (by omega) (by omega)]
 ·simp only[execOp,h.eval hx,h.eval hy,h.eval O,Option.map_some];simp[Instr.sliceAt,Instr.slice,run_underlying ht,Instr.sliceBounds,hs,run_sliceBound _ .i64 (j:Int) l.length _ (by omega) (by omega),run_sliceBound _ .i64 (i:Int) j _ (by omega) (by omega)]
theorem Nr{lo hi:Option Operand}{i j:Nat}(fr:Fr a n (fA a))(ht:P.underlying t=some .string)(hx:Opd S w ρ a x (.str l))
  (G:(lo=none∧i=0)∨∃y,lo=some y∧Opd S w ρ a y (.int .i64 (i:Int))) (J:(hi=none∧j=l.length)∨∃y,hi=some y∧Opd S w ρ a y (.int .i64 (j:Int))) (O:i≤j) (U:j≤l.length):
  Yld P S w ρ a ty (.slice t x lo hi none) (.str ((l.drop i).take (j-i))):=
 ⟨_,by simp only[VRel],λw' _=>Ri fr ht (lV hx) (G.imp id λ⟨y,e,h⟩=>⟨y,e,bu h⟩) (J.imp id λ⟨y,e,h⟩=>⟨y,e,bu h⟩) O U⟩
theorem Lh{lo hi:Option Operand}{c i j:Nat}(h:Fr a n f)(ht:P.underlying t=some (.slice e))(hz:jt P e=some sz)(hx:aS f x=some (.slice A m c))
  (O:(lo=none∧i=0)∨∃y,lo=some y∧aS f y=some (.int .i64 (i:Int))) (U:(hi=none∧j=m)∨∃y,hi=some y∧aS f y=some (.int .i64 (j:Int))) (hij:i≤j) (hj:j≤m) (hm:m≤c):
  Runs P a ty (.slice t x lo hi none) w (.value (.slice (if c=i then A else A.map (·.add (i*sz))) (j-i) (c-i))) w:=λ_ _ _ _=>by
 obtain⟨inf,Z,hs⟩:=Option.map_eq_some_iff.1 (show(P.info? e).map (·.size)=some sz from hz);have G:(sizeOf e).run P w=.ok sz w:=by simp[sizeOf,typeInfo,Z,hs]
 rcases O with⟨rfl,rfl⟩|⟨y,rfl,hy⟩<;>rcases U with⟨rfl,rfl⟩|⟨z,rfl,J⟩
 ·simp only[execOp,h.eval hx,Option.map_none];simp[Instr.sliceAt,Instr.slice,run_underlying ht,Instr.sliceBounds,G]
 ·simp only[execOp,h.eval hx,h.eval J,Option.map_none,Option.map_some];simp[Instr.sliceAt,Instr.slice,run_underlying ht,Instr.sliceBounds,G,run_sliceBound _ .i64 (j:Int) c _ (by omega) (by omega)]
 ·simp only[execOp,h.eval hx,h.eval hy,Option.map_none,Option.map_some];simp[Instr.sliceAt,Instr.slice,run_underlying ht,Instr.sliceBounds,G,run_sliceBound _ .i64 (i:Int) j _ (by omega) (by omega)]
 ·simp only[execOp,h.eval hx,h.eval hy,h.eval J,Option.map_some];simp[Instr.sliceAt,Instr.slice,run_underlying ht,Instr.sliceBounds,G,run_sliceBound _ .i64 (j:Int) c _ (by omega) (by omega),run_sliceBound _ .i64 (i:Int) j _ (by omega) (by omega)]
theorem Lq{c:Nat}(hr:RowIn S w sz A m xs)(G:i≤j)(J:j≤m)(hm:m≤c):RowIn S w sz (if c=i then A else A.map (·.add (i*sz))) (j-i) ((xs.drop (i*sz)).take ((j-i)*sz)):=by
 have h1:(j-i)*sz+i*sz=j*sz:=by rw[←Nat.add_mul];congr 1;omega
 have h2:j*sz≤m*sz:=Nat.mul_le_mul_right _ J;refine⟨by simp[hr.1];omega,λhn=>?_⟩;obtain⟨b,off,rfl,O,hb,U⟩:=hr.2 (by omega);rw[if_neg (by omega)];refine⟨b,off+i*sz,by simp[sM],O,hb,λk Z=>?_⟩;rw[Nat.add_assoc,U _ (by omega),List.getElem?_take,if_pos Z,List.getElem?_drop]
theorem Nt{lo hi:Option Operand}{i j:Nat}(fr:Fr a n (fA a))(ht:P.underlying t=some (.slice e))(hz:jt P e=some sz)(hx:Opd S w ρ a x (.row sz els))
  (J:(lo=none∧i=0)∨∃y,lo=some y∧Opd S w ρ a y (.int .i64 (i:Int))) (O:(hi=none∧j=els.length)∨∃y,hi=some y∧Opd S w ρ a y (.int .i64 (j:Int))) (G:i≤j) (U:j≤els.length):
  Yld P S w ρ a ty (.slice t x lo hi none) (.row sz ((els.drop i).take (j-i))):=by
 obtain⟨y,h1,h2⟩:=hx;simp only[VRel]at h2;obtain⟨A,c,xs,rfl,Z,h4,h5,h6⟩:=h2;refine⟨_,?_,λw' _=>Lh fr ht hz h1 (J.imp id λ⟨y,e,h⟩=>⟨y,e,bu h⟩) (O.imp id λ⟨y,e,h⟩=>⟨y,e,bu h⟩) G U Z⟩;simp only[VRel];have e:((els.drop i).take (j-i)).length=j-i:=by simp;omega
 rw[e];exact⟨_,_,_,rfl,by omega,by omega,(h5.drop i).take (j-i),Lq h6 G U Z⟩
theorem Of{o:Nat}{v:V}(fr:Fr a n (fA a))(ht:gq P t=true)(hx:Opd S w ρ a x (.box cs o))(hv:cs[o]?=some v):Yld P S w ρ a ty (.load t x) v:=by
 obtain⟨y,h1,h2⟩:=hx;simp only[VRel]at h2;obtain⟨b,off,xs,rfl,O,hb,U,Z⟩:=h2;obtain⟨z,G,h6⟩:=U.get hv;have J:o<xs.length:=by
  rcases Nat.lt_or_ge o xs.length with h|h
  ·exact h
  ·rw[List.getElem?_eq_none h]at G;cases G
 exact⟨z,h6.up up0,λw' hA=>Cs fr h1 ht ((World.cell?_of_block (a:=⟨b,off+o,none⟩) (hA b O)).trans ((Z o J).trans G))⟩
theorem Mn{o:Nat}(fr:Fr a n (fA a))(ht:oe P t=some m)(hx:Opd S w ρ a x (.box cs o))(hl:o+m≤cs.length):Yld P S w ρ a ty (.load t x) (.agg ((cs.drop o).take m)):=by
 obtain⟨y,h1,h2⟩:=hx;simp only[VRel]at h2;obtain⟨b,off,xs,rfl,O,hb,G,U⟩:=h2;have J:=G.length;refine⟨.agg ((xs.drop o).take m).toArray,by simp only[VRel];exact⟨_,rfl,((G.drop o).take m).up up0⟩,λw' Z=>Bg fr h1 ht (by simp;omega) λj hj=>?_⟩;rw[World.cell?_of_block (a:=⟨b,off+o+j,none⟩) (Z b O),Nat.add_assoc,U _ (by omega),List.getElem?_take,if_pos hj,List.getElem?_drop]
def wd(cs:List V)(o:Nat)(ps:List V):List V:=cs.take o++ps++cs.drop (o+ps.length)
def wc(place:Nat→Option (Nat×Nat)):List V→List (Nat×V)→Option (List V)
 |cs,[]=>some cs
 |cs,(i,v)::r=>match place i with
  |some (o,sz)=>match Nat.beq v.cells.length sz&&Nat.ble (o+sz) cs.length with
   |true=>wc place (wd cs o v.cells) r
   |false=>none
  |none=>none
def lH(S:Nat→Prop)(w:World)(ρ:Nat→Option Value):List (Nat×V)→List (Nat×Value)→Prop
 |[],ys=>ys=[]
 |(i,v)::r,ys=>∃x zs,ys=(i,x)::zs∧VRel S w ρ v x∧lH S w ρ r zs
theorem Cu{place pl:Nat→Option (Nat×Nat)}(hpl:∀i p,place i=some p→pl i=some p):∀{vs:List (Nat×V)} {ys:List (Nat×Value)} {cs cs':List V} {xs:List Value},lH S w ρ vs ys→LRel S w ρ cs xs→wc place cs vs=some cs'→∃xs',Instr.fill pl xs.toArray ys=some xs'.toArray∧LRel S w ρ cs' xs'
 |[],ys,cs,cs',xs,hp,hl,hf=>by
  simp only[lH]at hp;subst hp;simp only[wc,Option.some.injEq]at hf;subst hf;exact⟨xs,rfl,hl⟩
 | (i,v)::r,ys,cs,cs',xs,hp,hl,hf=>by
  simp only[lH]at hp;obtain⟨x,zs,rfl,hx,hr⟩:=hp;simp only[wc]at hf;split at hf
  ·rename_i o sz hpi;split at hf
   ·rename_i hc;simp only[Bool.and_eq_true,Nat.beq_eq,Nat.ble_eq]at hc;have hcl:=hx.cells.length;simp only[Array.length_toList]at hcl;have hlen:=hl.length;have hl':LRel S w ρ (wd cs o v.cells) (xs.take o++x.cells.toList++xs.drop (o+x.cells.size)):=by
     unfold wd;rw[hcl];exact((hl.take o).append hx.cells).append (hl.drop _)
    obtain⟨xs',h1,h2⟩:=Cu hpl hr hl' hf;refine⟨xs',?_,h2⟩;simp only[Instr.fill,hpl i _ hpi];rw[if_neg (by simp;omega),←h1]
    congr 1
    have hfs:=yM o x.cells.toList 0 xs (by simp;omega);simp only[Nat.add_zero,Array.length_toList]at hfs;rw[←hfs,←Array.foldl_toList,Array.toList_zipIdx]
   ·cases hf
  ·cases hf
def zX(P:Program)(t:TypeId):Option (List (Nat×Nat)):=match P.underlying t with
 |some (.struct fs)=>fs.toList.mapM λfl=>(jt P fl.type).map λs=>(fl.offset,s)
 |_=>none
theorem Bu:∀{fs:List Field} {ps:List (Nat×Nat)},(fs.mapM λfl=>(jt P fl.type).map λs=>(fl.offset,s))=some ps→(fs.mapM (m:=Sem) λfl=>do pure (fl.offset,←sizeOf fl.type)).run P w=.ok ps w
 |[],ps,h=>by simp at h;subst h;simp
 |fl::r,ps,h=>by
  simp only[List.mapM_cons]at h;obtain⟨p,h1,h⟩:=Option.bind_eq_some_iff.1 h;obtain⟨qs,h2,h⟩:=Option.bind_eq_some_iff.1 h;simp only[Option.pure_def,Option.some.injEq]at h;subst h;obtain⟨s,G,J⟩:=Option.map_eq_some_iff.1 h1;obtain⟨inf,O,U⟩:=Option.map_eq_some_iff.1 (show(P.info? fl.type).map (·.size)=some s from G);have ih:=Bu h2;have Z:(sizeOf fl.type).run P w=.ok s w:=by simp[sizeOf,typeInfo,O,U]
  subst J;simp only[List.mapM_cons];simp[Z];simp at ih;simp[ih]
theorem OC{vs:List (Nat×V)}{ys:List (Nat×Value)}{pl:List (Nat×Nat)}{z:List Value}{zv cs:List V}{place:Nat→Option (Nat×Nat)}(fr:Fr a n (fA a))(hps:io (fA a) ps=some ys)(hpr:lH S w ρ vs ys)(hz:ry P t=some z)(hzv:LRel S w ρ zv z)
  (hpl:zX P t=some pl) (hplace:∀i p,place i=some p→pl[i]?=some p) (hf:wc place zv vs=some cs):Yld P S w ρ a ty (.build t ps.toArray) (.agg cs):=by
 obtain⟨xs,h1,h2⟩:=Cu (pl:=λi=>pl.toArray[i]?) (λi p h=>by simpa using hplace i p h) hpr hzv hf;refine⟨.agg xs.toArray,by simp only[VRel];exact⟨xs,rfl,h2⟩,λw' _=>El fr hps λw=>?_⟩;unfold ry at hz;obtain⟨z0,hz1,hz2⟩:=Option.map_eq_some_iff.1 hz;obtain⟨inf,hi,hiz⟩:=Option.bind_eq_some_iff.1 hz1;have ez:z0.cells=z.toArray:=by rw[←hz2]
 unfold zX at hpl;cases hu:P.underlying t with
 |none=>rw[hu]at hpl;cases hpl
 | some d=>
  rw[hu]at hpl;cases d with
  | struct fs=>
   have hm:=Bu (w:=w) hpl;have hm':(fs.mapM (m:=Sem) λfl=>do pure (fl.offset,←sizeOf fl.type)).run P w=.ok pl.toArray w:=by
    have e:fs.mapM (m:=Sem) (λfl=>do pure (fl.offset,←sizeOf fl.type))=List.toArray<$>fs.toList.mapM (m:=Sem) (λfl=>do pure (fl.offset,←sizeOf fl.type)):=by
     rw[←List.mapM_toArray]
    rw[e];simp at hm;simp[hm]
   simp only[Instr.build];simp at hm';simp[zeroValue,typeInfo,hi,hiz,run_underlying hu,hm',ez];simp at h1;rw[h1];simp
  |_=>cases hpl
theorem LV{vs:List (Nat×V)}{ys:List (Nat×Value)}{sz len:Nat}{e:TypeId}{z:List Value}{zv cs:List V}(fr:Fr a n (fA a))(G:io (fA a) ps=some ys)(J:lH S w ρ vs ys)(hz:ry P t=some z)(O:LRel S w ρ zv z)
  (ht:P.underlying t=some (.array len e)) (he:jt P e=some sz) (hf:wc (λi=>some (i*sz,sz)) zv vs=some cs):Yld P S w ρ a ty (.build t ps.toArray) (.agg cs):=by
 obtain⟨xs,h1,h2⟩:=Cu (pl:=λi=>some (i*sz,sz)) (λi p h=>h) J O hf;refine⟨.agg xs.toArray,by simp only[VRel];exact⟨xs,rfl,h2⟩,λw' _=>El fr G λw=>?_⟩;unfold ry at hz;obtain⟨z0,U,Z⟩:=Option.map_eq_some_iff.1 hz;obtain⟨inf,hi,hiz⟩:=Option.bind_eq_some_iff.1 U;have ez:z0.cells=z.toArray:=by rw[←Z]
 obtain⟨inf',h5,h6⟩:=Option.map_eq_some_iff.1 (show(P.info? e).map (·.size)=some sz from he);have h7:(sizeOf e).run P w=.ok sz w:=by simp[sizeOf,typeInfo,h5,h6]
 simp only[Instr.build];simp[zeroValue,typeInfo,hi,hiz,run_underlying ht,h7,ez];rw[h1];simp
end
structure ChgP (X:Nat→Prop) (w w':World):Prop where
 os:w'.os=w.os
 tape:w'.tape=w.tape
 output:w'.output=w.output
 size:w.heap.size≤w'.heap.size
 block:∀k,k<w.heap.size→¬X k→w'.heap[k]?=w.heap[k]?
theorem ChgP.refl(X:Nat→Prop)(w:World):ChgP X w w:=⟨rfl,rfl,rfl,Nat.le_refl _,λ_ _ _=>rfl⟩
variable{X:Nat→Prop}{w1:World}
theorem ChgP.trans{Y:Nat→Prop}{w w2:World}(h:ChgP X w w1)(k:ChgP Y w1 w2)(J:∀b,Y b→X b∨w.heap.size≤b):ChgP X w w2:=
 ⟨k.os.trans h.os,k.tape.trans h.tape,k.output.trans h.output,Nat.le_trans h.size k.size,λb hb G=>by
  rw[k.block b (Nat.lt_of_lt_of_le hb h.size) (λO=>by rcases J b O with h1|h1;exact G h1;omega),h.block b hb G]⟩
theorem ChgP.mono{Y:Nat→Prop}{w:World}(h:ChgP X w w1)(G:∀b,X b→Y b):ChgP Y w w1:=⟨h.os,h.tape,h.output,h.size,λb hb J=>h.block b hb (λO=>J (G b O))⟩
theorem ChgP.of{X:List Nat}{w:World}(h:Chg X w w1):ChgP (·∈X) w w1:=⟨h.os,h.tape,h.output,h.size,h.block⟩
theorem ChgP.of0{w:World}(h:Chg [] w w1):ChgP X w w1:=(ChgP.of h).mono (λb hb=>by simp at hb)
def co(h:Nat→Ob)(id:Nat)(o:Ob):Nat→Ob:=λi=>match Nat.beq i id with|true=>o|false=>h i
def eN(ρ:Nat→Option Value)(id:Nat)(x:Value):Nat→Option Value:=λi=>match Nat.beq i id with|true=>some x|false=>ρ i
theorem bO(h:Nat→Ob)(id:Nat)(o:Ob):co h id o id=o:=by simp[co]
theorem dj(h:Nat→Ob){id:Nat}(o:Ob)(hi:i≠id):co h id o i=h i:=by
 unfold co;split
 ·rename_i hb;exact absurd (Nat.eq_of_beq_eq_true hb) hi
 ·rfl
theorem bd(ρ:Nat→Option Value)(id:Nat)(x:Value):eN ρ id x id=some x:=by simp[eN]
theorem ss(ρ:Nat→Option Value){id:Nat}(x:Value)(hi:i≠id):eN ρ id x i=ρ i:=by
 unfold eN;split
 ·rename_i hb;exact absurd (Nat.eq_of_beq_eq_true hb) hi
 ·rfl
structure Eff (S:Nat→Prop) (w w':World) (ρ ρ':Nat→Option Value) (h h':Nat→Ob) (X:Nat→Prop):Prop where
 hr:HRel S w' ρ' h'
 up:Up S S w w' ρ ρ'
 chg:ChgP (λb=>∃id,X id∧own ρ id (h id) b) w w'
 new:∀id b,own ρ' id (h' id) b→(∃j,own ρ j (h j) b)∨w.heap.size≤b
def Does (P:Program) (S:Nat→Prop) (w:World) (ρ:Nat→Option Value) (h:Nat→Ob) (a:Act) (ty:TypeId) (op:Op) (v:Option V) (h':Nat→Ob) (X:Nat→Prop):Prop:=
  ∃ nx w' ρ',Runs P a ty op w nx w'∧Eff S w w' ρ ρ' h h' X∧match v with
    |some v=>∃x,nx=.value x∧VRel S w' ρ' v x
    |none=>nx=.skip
variable{nid:Nat}
variable{tb:TypeId}
variable{v0:V}
section
variable{P:Program}{S:Nat→Prop}{w w':World}{ρ ρ':Nat→Option Value}{h h':Nat→Ob}{a:Act}{n:Nat}{ty:TypeId}
theorem Eff.refl(hr:HRel S w ρ h):Eff S w w ρ ρ h h X:=⟨hr,Up.refl,ChgP.refl _ _,λid b hb=>.inl ⟨id,hb⟩⟩
theorem FL{Y:Nat→Prop}(k src:Nat)(hr:HRel S w ρ h)(hc:ChgP X w w')(hρ:∀i x,ρ i=some x→ρ' i=some x)(hX:∀b,X b→∃id,Y id∧own ρ id (h id) b)
  (hk:lD S w' ρ' k (h' k)) (Z:∀b,own ρ' k (h' k) b→w.heap.size≤b∨own ρ src (h src) b) (hsrc:src≠k→h' src=.gone)
  (hi:∀i,i≠k→h' i=.gone∨(h' i=h i∧(h i=.free→ρ' i=none)∧∀b,own ρ i (h i) b→¬X b)):Eff S w w' ρ ρ' h h' Y:=by
 have hnS:∀b,S b→¬X b:=λb hb hx=>by obtain⟨id,_,ho⟩:=hX b hx;exact hr.sep id b ho hb
 have up:Up S S w w' ρ ρ':=⟨λ_ h=>h,λb hb hlt=>hc.block b hlt (hnS b hb),hρ⟩;have back:∀i b,i≠k→own ρ' i (h' i) b→own ρ i (h i) b:=λi b G hb=>by
  rcases hi i G with e|⟨e,_,_⟩
  ·rw[e]at hb;exact hb.elim
  ·rw[e]at hb;exact Ka hρ (hr.ob i) hb
 refine⟨⟨λi=>?_,λi b hb=>?_,λi j b O U=>?_,hr.slt.up up λb hb=>Nat.lt_of_lt_of_le (hr.slt b hb) hc.size⟩,up,hc.mono hX,λi b hb=>?_⟩
 ·by_cases G:i=k
  ·subst G;exact hk
  ·rcases hi i G with e|⟨e,hf,hb⟩
   ·rw[e];trivial
   ·rw[e];exact(hr.ob i).up up hf (λb hob=>hc.block b (gU (hr.ob i) hob) (hb b hob))
 ·by_cases G:i=k
  ·subst G;rcases Z b hb with h1|h1
   ·intro hS;have :=hr.slt b hS;omega
   ·exact hr.sep src b h1
  ·exact hr.sep i b (back i b G hb)
 ·by_cases G:i=k
  ·by_cases J:j=k
   ·rw[G,J]
   ·subst G;have h1:=back j b J U;rcases Z b O with h2|h2
    ·have :=gU (hr.ob j) h1;omega
    ·have h3:=hr.dis src j b h2 h1;subst h3;rw[hsrc J]at U;exact U.elim
  ·by_cases J:j=k
   ·subst J;have h1:=back i b G O;rcases Z b U with h2|h2
    ·have :=gU (hr.ob i) h1;omega
    ·have h3:=hr.dis src i b h2 h1;subst h3;rw[hsrc G]at O;exact O.elim
   ·exact hr.dis i j b (back i b G O) (back j b J U)
 ·by_cases G:i=k
  ·subst G;rcases Z b hb with h1|h1
   ·exact .inr h1
   ·exact .inl ⟨src,h1⟩
  ·exact .inl ⟨i,back i b G hb⟩
theorem eff_new{x:Value}{o:Ob}(hr:HRel S w ρ h)(hf:h nid=.free)(O:Chg [] w w')(U:lD S w' (eN ρ nid x) nid o)(hb:∀b,own (eN ρ nid x) nid o b→w.heap.size≤b):Eff S w w' ρ (eN ρ nid x) h (co h nid o) (λ_=>False):=by
 have Z:ρ nid=none:=by have :=hr.ob nid;rw[hf]at this;exact this
 refine FL (X:=λ_=>False) nid nid hr (ChgP.of0 O) (λi y hy=>?_) (λb hb=>hb.elim) (by rw[bO];exact U) (λb G=>by rw[bO]at G;exact .inl (hb b G)) (λh=>absurd rfl h)
  (λi hi=>.inr ⟨dj _ _ hi,λJ=>?_,λb _ hx=>hx⟩)
 ·have :i≠nid:=λe=>by subst e;rw[Z]at hy;cases hy
  rw[ss _ _ this];exact hy
 ·rw[ss _ _ hi];have :=hr.ob i;rw[J]at this;exact this
theorem zQ{id:Nat}{o:Ob}{X:List Nat}(hr:HRel S w ρ h)(U:Chg X w w')(O:∀b,b∈X→own ρ id (h id) b)(Z:lD S w' ρ id o)(hb:∀b,own ρ id o b→own ρ id (h id) b):Eff S w w' ρ ρ h (co h id o) (·=id):=by
 refine FL (X:=(·∈X)) id id hr (ChgP.of U) (λi y hy=>hy) (λb hb=>⟨id,rfl,O b hb⟩) (by rw[bO];exact Z) (λb G=>by rw[bO]at G;exact .inr (hb b G)) (λh=>absurd rfl h)
  (λi hi=>.inr ⟨dj _ _ hi,λJ=>?_,λb G hx=>hi (hr.dis i id b G (O b hx))⟩)
 have :=hr.ob i;rw[J]at this;exact this
theorem EK{id:Nat}{x:Value}{o:Ob}{X:List Nat}(hr:HRel S w ρ h)(hf:h nid=.free)(hid:h id≠.free)(hc:Chg X w w')(Z:∀b,b∈X→own ρ id (h id) b)(hk:lD S w' (eN ρ nid x) nid o)(hb:∀b,own (eN ρ nid x) nid o b→own ρ id (h id) b∨w.heap.size≤b):
  Eff S w w' ρ (eN ρ nid x) h (co (co h id .gone) nid o) (·=id):=by
 have hn:ρ nid=none:=by have :=hr.ob nid;rw[hf]at this;exact this
 have O:id≠nid:=λe=>by subst e;exact hid hf
 refine FL (X:=(·∈X)) nid id hr (ChgP.of hc) (λi y hy=>?_) (λb hb=>⟨id,rfl,Z b hb⟩) (by rw[bO];exact hk) (λb G=>by rw[bO]at G;exact(hb b G).symm) (λ_=>by rw[dj _ _ O,bO])
  (λi hi=>?_)
 ·have :i≠nid:=λe=>by subst e;rw[hn]at hy;cases hy
  rw[ss _ _ this];exact hy
 ·rw[dj _ _ hi];by_cases J:i=id
  ·subst J;exact .inl (bO _ _ _)
  ·refine .inr ⟨dj _ _ J,λU=>?_,λb G hx=>J (hr.dis i id b G (Z b hx))⟩;rw[ss _ _ hi];have :=hr.ob i;rw[U]at this;exact this
theorem BU{x:Value}(hr:HRel S w ρ h)(hf:h nid=.free)(J:Chg [] w w'):Up S S w w' ρ (eN ρ nid x):=by
 have O:ρ nid=none:=by have :=hr.ob nid;rw[hf]at this;exact this
 refine⟨λ_ h=>h,λb hb G=>J.block b G (by simp),λi y hy=>?_⟩;have :i≠nid:=λe=>by subst e;rw[O]at hy;cases hy
 rw[ss _ _ this];exact hy
theorem vb{id:Nat}(hr:HRel S w ρ h)(G:h id=.var t cs):∃b xs,ρ id=some (.pointer (some ⟨b,0,none⟩))∧Blk w b t xs∧LRel S w ρ cs xs:=by
 have :=hr.ob id;rw[G]at this;exact this
theorem kQ{id:Nat}(hr:HRel S w ρ h)(G:h id=.row e sz els):∃v xs,ρ id=some v∧w.ownsRow 0 e sz v els.length xs∧CRel S w ρ sz els xs:=by
 have :=hr.ob id;rw[G]at this;exact this
theorem Cr{id o:Nat}(hx:Opd S w ρ a x (.ptr id o))(hb:ρ id=some (.pointer (some ⟨b,0,none⟩))):aS (fA a) x=some (.pointer (some ⟨b,o,none⟩)):=by
 obtain⟨y,h1,h2⟩:=hx;simp only[VRel]at h2;obtain⟨J,G,rfl⟩:=h2;rw[hb]at G;simp only[Option.some.injEq,Value.pointer.injEq,Addr.mk.injEq,and_true]at G;subst G;exact h1
theorem Ic{id o:Nat}{v:V}(hr:HRel S w ρ h)(fr:Fr a n (fA a))(hx:Opd S w ρ a x (.ptr id o))(G:h id=.var tb cs)(ht:gq P t=true)(hv:cs[o]?=some v):
  ∃b y,ρ id=some (.pointer (some ⟨b,0,none⟩))∧w.cell? ⟨b,o,none⟩=some y∧VRel S w ρ v y∧∀w',w'.cell? ⟨b,o,none⟩=some y→Runs P a ty (.load t x) w' (.value y) w':=by
 obtain⟨b,xs,h1,h2,J⟩:=vb hr G;obtain⟨y,O,U⟩:=J.get hv;exact⟨b,y,h1,by rw[h2.cell,O],U,λw' Z=>Cs fr (Cr hx h1) ht Z⟩
theorem PI{id o:Nat}{v:V}(hr:HRel S w ρ h)(fr:Fr a n (fA a))(hx:Opd S w ρ a x (.ptr id o))(G:h id=.var tb cs)(ht:gq P t=true)(hv:cs[o]?=some v):Does P S w ρ h a ty (.load t x) (some v) h (λ_=>False):=by
 obtain⟨b,y,h1,h2,J,O⟩:=Ic (P:=P) (ty:=ty) hr fr hx G ht hv;exact⟨_,w,ρ,O w h2,Eff.refl hr,y,rfl,J⟩
theorem EW{id o:Nat}(hr:HRel S w ρ h)(fr:Fr a n (fA a))(hx:Opd S w ρ a x (.ptr id o))(O:h id=.var tb cs)(ht:oe P t=some m)(hl:o+m≤cs.length):
  ∃b ys,ρ id=some (.pointer (some ⟨b,0,none⟩))∧(∀j,j<m→w.cell? ⟨b,o+j,none⟩=ys[j]?)∧LRel S w ρ ((cs.drop o).take m) ys∧∀w',(∀j,j<m→w'.cell? ⟨b,o+j,none⟩=ys[j]?)→Runs P a ty (.load t x) w' (.value (.agg ys.toArray)) w':=by
 obtain⟨b,xs,h1,h2,G⟩:=vb hr O;have J:=G.length;refine⟨b,(xs.drop o).take m,h1,λj U=>?_,(G.drop o).take m,λw' Z=>Bg fr (Cr hx h1) ht (by simp;omega) Z⟩;rw[h2.cell,List.getElem?_take,if_pos U,List.getElem?_drop]
theorem ON{id o:Nat}(hr:HRel S w ρ h)(fr:Fr a n (fA a))(hx:Opd S w ρ a x (.ptr id o))(G:h id=.var tb cs)(ht:oe P t=some m)(J:o+m≤cs.length):Does P S w ρ h a ty (.load t x) (some (.agg ((cs.drop o).take m))) h (λ_=>False):=by
 obtain⟨b,ys,h1,h2,O,U⟩:=EW (P:=P) (ty:=ty) hr fr hx G ht J;exact⟨_,w,ρ,U w h2,Eff.refl hr,_,rfl,by simp only[VRel];exact⟨ys,rfl,O⟩⟩
theorem Eg{id o:Nat}{v:Value}(hx:Opd S w ρ a x (.el id sz i o))(hb:ρ id=some v):∃b m c,v=.slice (some ⟨b,0,none⟩) m c∧aS (fA a) x=some (.pointer (some ⟨b,i*sz+o,none⟩)):=by
 obtain⟨y,h1,h2⟩:=hx;simp only[VRel]at h2;obtain⟨J,m,c,G,rfl⟩:=h2;rw[hb]at G;cases G;exact⟨J,m,c,rfl,h1⟩
theorem ve{e c:Nat}(J:w.ownsRow base e sz (.slice (some ⟨b,0,none⟩) m c) k xs)(O:j<k*sz):w.cell? ⟨b,j,none⟩=xs[j]?:=by
 rcases J.2 with⟨U,_⟩|⟨g,cap,cur,hv,hb,Z,h4,h5,h6,h7⟩
 ·cases U
 ·injection hv with G _ hv2
  injection G with G
  injection G with G
  subst G;rw[←h7];simp[World.cell?,Z,List.getElem?_take,O]
theorem Gk{id o:Nat}{v:V}(hr:HRel S w ρ h)(fr:Fr a n (fA a))(hx:Opd S w ρ a x (.el id sz i o))(Z:h id=.row e sz els)(ht:gq P t=true)(hi:els[i]?=some v0)(hv:v0.cells[o]?=some v):
  ∃b u y,ρ id=some u∧u.ownBlock=some b∧w.cell? ⟨b,i*sz+o,none⟩=some y∧VRel S w ρ v y∧∀w',w'.cell? ⟨b,i*sz+o,none⟩=some y→Runs P a ty (.load t x) w' (.value y) w':=by
 obtain⟨u,xs,h1,h2,h3⟩:=kQ hr Z;obtain⟨b,m,c,rfl,G⟩:=Eg hx h1;obtain⟨z,g1,g2,g3⟩:=h3.get hi;obtain⟨y,U,h5⟩:=g1.cells.get hv;have J:o<sz:=by
  have :=(List.getElem?_eq_some_iff.1 U).1;simp at this;omega
 have O:i<els.length:=(List.getElem?_eq_some_iff.1 hi).1;have :(i+1)*sz≤els.length*sz:=Nat.mul_le_mul_right _ O;rw[Nat.add_mul,Nat.one_mul]at this;exact⟨b,_,y,h1,rfl,by rw[ve h2 (by omega),g3 o J,U],h5,λw' hc=>Cs fr G ht hc⟩
theorem GT{id o:Nat}{v:V}(hr:HRel S w ρ h)(fr:Fr a n (fA a))(hx:Opd S w ρ a x (.el id sz i o))(G:h id=.row e sz els)(ht:gq P t=true)(hi:els[i]?=some v0)(hv:v0.cells[o]?=some v):Does P S w ρ h a ty (.load t x) (some v) h (λ_=>False):=by
 obtain⟨b,u,y,h1,_,h2,J,O⟩:=Gk (P:=P) (ty:=ty) hr fr hx G ht hi hv;exact⟨_,w,ρ,O w h2,Eff.refl hr,y,rfl,J⟩
theorem CI{id o:Nat}(hr:HRel S w ρ h)(fr:Fr a n (fA a))(hx:Opd S w ρ a x (.el id sz i o))(Z:h id=.row e sz els)(ht:oe P t=some m)(hi:els[i]?=some v0)(hl:o+m≤v0.cells.length):
  ∃b u ys,ρ id=some u∧u.ownBlock=some b∧(∀j,j<m→w.cell? ⟨b,i*sz+o+j,none⟩=ys[j]?)∧LRel S w ρ ((v0.cells.drop o).take m) ys∧∀w',(∀j,j<m→w'.cell? ⟨b,i*sz+o+j,none⟩=ys[j]?)→Runs P a ty (.load t x) w' (.value (.agg ys.toArray)) w':=by
 obtain⟨u,xs,h1,h2,h3⟩:=kQ hr Z;obtain⟨b,k,c,rfl,J⟩:=Eg hx h1;obtain⟨z,U,g2,g3⟩:=h3.get hi;have G:=U.cells.length;simp only[Array.length_toList]at G;have O:i<els.length:=(List.getElem?_eq_some_iff.1 hi).1;have :(i+1)*sz≤els.length*sz:=Nat.mul_le_mul_right _ O;rw[Nat.add_mul,Nat.one_mul]at this;refine⟨b,_,(z.cells.toList.drop o).take m,h1,rfl,λj hj=>?_,(U.cells.drop o).take m,λw' hc=>Bg fr J ht (by simp;omega) hc⟩;rw[ve h2 (by omega),Nat.add_assoc,g3 _ (by omega),List.getElem?_take,if_pos hj,List.getElem?_drop]
theorem Fu{id o:Nat}(hr:HRel S w ρ h)(fr:Fr a n (fA a))(hx:Opd S w ρ a x (.el id sz i o))(G:h id=.row e sz els)(ht:oe P t=some m)(hi:els[i]?=some v0)(J:o+m≤v0.cells.length):Does P S w ρ h a ty (.load t x) (some (.agg ((v0.cells.drop o).take m))) h (λ_=>False):=by
 obtain⟨b,u,ys,h1,_,h2,O,U⟩:=CI (P:=P) (ty:=ty) hr fr hx G ht hi J;exact⟨_,w,ρ,U w h2,Eff.refl hr,_,rfl,by simp only[VRel];exact⟨ys,rfl,O⟩⟩
theorem NF{z:List Value}{zv:List V}(hr:HRel S w ρ h)(hf:h nid=.free)(O:ry P t=some z)(G:∀S w ρ,LRel S w ρ zv z):Does P S w ρ h a ty (.alloc t) (some (.ptr nid 0)) (co h nid (.var t zv)) (λ_=>False):=by
 obtain⟨w',b,h1,h2,U,Z,h5⟩:=MP (P:=P) z O a w ty;refine⟨_,w',eN ρ nid (.pointer (some ⟨b,0,none⟩)),h1,eff_new hr hf U ⟨b,z,bd _ _ _,h2,G _ _ _⟩ (λb' J=>?_),_,rfl,?_⟩
 ·simp only[own,bd,Option.some.injEq,Value.pointer.injEq,Addr.mk.injEq,and_true]at J;omega
 ·simp only[VRel];exact⟨b,bd _ _ _,rfl⟩
theorem RR{v:V}(hr:HRel S w ρ h)(fr:Fr a n (fA a))(hf:h nid=.free)(hx:Opd S w ρ a x v):Does P S w ρ h a ty (.box t x) (some (.ptr nid 0)) (co h nid (.var t v.cells)) (λ_=>False):=by
 obtain⟨y,O,U⟩:=hx;obtain⟨w',b,h1,h2,J,Z,h5⟩:=Re (P:=P) (t:=t) (cs:=y.cells.toList) fr O (by simp) w ty;refine⟨_,w',eN ρ nid (.pointer (some ⟨b,0,none⟩)),h1,eff_new hr hf J ⟨b,_,bd _ _ _,h2,U.cells.up (BU hr hf J)⟩ (λb' G=>?_),_,rfl,?_⟩
 ·simp only[own,bd,Option.some.injEq,Value.pointer.injEq,Addr.mk.injEq,and_true]at G;omega
 ·simp only[VRel];exact⟨b,bd _ _ _,rfl⟩
theorem CT{y:Operand}{o:Nat}{v:Value}{cs:List Value}(h:Fr a n f)(hx:aS f x=some (.pointer (some ⟨b,o,none⟩)))(hy:aS f y=some v)(hz:jt P t=some m)(hv:v.cells.size=m)(hone:v.cells.toList.all (·.oneCell')=true)(hb:Blk w b tb cs)(hm:o+m≤cs.length)(ty:TypeId):
  ∃w',Runs P a ty (.store t x y) w .skip w'∧Blk w' b tb (cs.take o++v.cells.toList++cs.drop (o+m))∧Chg [b] w w':=by
 obtain⟨i,hi,hs⟩:=Option.map_eq_some_iff.1 (show(P.info? t).map (·.size)=some m from hz);have key:∀(l:List Value) (j:Nat) (w:World) (cs:List Value),Blk w b tb cs→o+j+l.length≤cs.length→l.all (·.oneCell')=true→∃w',(storeCells ⟨b,o,none⟩ l j).run P w=.ok () w'∧Blk w' b tb (cs.take (o+j)++l++cs.drop (o+j+l.length))∧Chg [b] w w':=by
  intro l
  induction l with
  |nil=>intro j w cs hb hj _;exact⟨w,by simp[storeCells],by simpa using hb,Chg.refl _ _⟩
  | cons c r ih=>
   intro j w cs hb hj hone;simp only[List.all_cons,Bool.and_eq_true]at hone;simp only[List.length_cons]at hj;have ho:o+j<cs.length:=by omega
   have hc:w.cell? ⟨b,o+j,none⟩=some cs[o+j]:=by rw[hb.cell];simp[ho]
   have hfz:=hb.frozen (o+j);have ha:(⟨b,o,none⟩:Addr).add j=⟨b,o+j,none⟩:=sM b o j;obtain⟨w2,h1,h2,h3⟩:=ih (j+1) (w.setCell ⟨b,o+j,none⟩ c) (cs.set (o+j) c) (hb.set (o+j) c) (by simp;omega) hone.2;refine⟨w2,?_,?_,(Chg.set w b (o+j) c).trans h3 (λx hx=>.inl hx)⟩
   ·simp only[storeCells,ha];have hst:=run_store P w ⟨b,o+j,none⟩ c .plain hone.1;simp[hst,stored,hc,hfz];exact h1
   ·have e1:(cs.set (o+j) c).take (o+(j+1))=cs.take (o+j)++[c]:=by
     rw[←Nat.add_assoc,List.take_succ_eq_append_getElem (by simpa using ho),List.take_set_of_le (Nat.le_refl _)];simp
    have e2:(cs.set (o+j) c).drop (o+(j+1)+r.length)=cs.drop (o+j+(r.length+1)):=by
     rw[List.drop_set_of_lt (by omega)];congr 1;omega
    rw[e1,e2]at h2;simpa using h2
 obtain⟨w1,h1,h2,h3⟩:=key v.cells.toList 0 w cs hb (by simp;omega) hone;refine⟨w1,λ_ _ _ _=>?_,by simpa[hv]using h2,h3⟩;simp only[execOp,h.eval hx,h.eval hy];simp[Instr.storeAt,Instr.sureAddr,storeVar,sizeOf,typeInfo,hi,hs,hv,h1]
theorem wM:∀{vs:List V} {xs:List Value},LRel S w ρ vs xs→vs.all V.one=true→xs.all (·.oneCell')=true
 |[],xs,G,h1=>by simp only[LRel]at G;subst G;rfl
 |v::r,xs,G,h1=>by
  simp only[LRel]at G;obtain⟨x,ys,rfl,h2,J⟩:=G;simp only[List.all_cons,Bool.and_eq_true]at h1⊢;exact⟨h2.one h1.1,wM J h1.2⟩
theorem Lc{X:List Nat}{id:Nat}(hr:HRel S w ρ h)(J:Chg X w w')(O:∀b,b∈X→own ρ id (h id) b):Up S S w w' ρ ρ:=
 ⟨λ_ h=>h,λb hb G=>J.block b G (λhx=>hr.sep id b (O b hx) hb),λ_ _ h=>h⟩
theorem Oc{y:Operand}{id o:Nat}{v:V}(hr:HRel S w ρ h)(fr:Fr a n (fA a))(hx:Opd S w ρ a x (.ptr id o))(hy:Opd S w ρ a y v)(O:h id=.var tb cs)(hz:jt P t=some m)(hv:v.cells.length=m)(h1:v.cells.all V.one=true)(hm:o+m≤cs.length):
  Does P S w ρ h a ty (.store t x y) none (co h id (.var tb (wd cs o v.cells))) (·=id):=by
 obtain⟨b,xs,U,g2,Z⟩:=vb hr O;obtain⟨z,k1,k2⟩:=hy;have G:=k2.cells.length;simp only[Array.length_toList]at G;obtain⟨w',r1,r2,r3⟩:=CT (P:=P) (t:=t) (m:=m) fr (Cr hx U) k1 hz (by omega) (wM k2.cells h1) g2 (by have :=Z.length;omega) ty;have hX:∀c,c∈[b]→own ρ id (h id) c:=λc J=>by simp at J;subst J;rw[O];exact U
 have u:=Lc hr r3 hX;refine⟨_,w',ρ,r1,zQ hr r3 hX ⟨b,_,U,r2,?_⟩ (λc J=>by rw[O];exact J),rfl⟩;unfold wd;rw[hv];exact(((Z.take o).append k2.cells).append (Z.drop _)).up u
theorem CRel.set{sz:Nat}:∀{vs:List V} {xs:List Value} {i:Nat} {v:V} {x:Value},CRel S w ρ sz vs xs→i<vs.length→VRel S w ρ v x→x.cells.size=sz→x.cells.toList.all (·.oneCell')=true→CRel S w ρ sz (vs.set i v) (xs.take (i*sz)++x.cells.toList++xs.drop (i*sz+sz))
 |[],xs,i,v,x,hc,hi,hx,hs,h1=>by simp at hi
 |u::r,xs,0,v,x,hc,hi,hx,hs,h1=>by
  simp only[CRel]at hc;obtain⟨y,ys,rfl,⟨h2,h2'⟩,h3,h4⟩:=hc;refine⟨x,ys,?_,⟨hs,h1⟩,hx,h4⟩;simp[h2,List.drop_append]
 | u::r,xs,i+1,v,x,hc,hi,hx,hs,h1=>by
  simp only[CRel]at hc;obtain⟨y,ys,rfl,⟨h2,h2'⟩,h3,h4⟩:=hc;have ih:=CRel.set (i:=i) h4 (by simpa using hi) hx hs h1;refine⟨y,_,?_,⟨h2,h2'⟩,h3,ih⟩;have e1:(y.cells.toList++ys).take ((i+1)*sz)=y.cells.toList++ys.take (i*sz):=by
   rw[List.take_append,List.take_of_length_le (by simp[h2,Nat.add_mul])]
   congr 2
   simp[h2,Nat.add_mul]
  have e2:(y.cells.toList++ys).drop ((i+1)*sz+sz)=ys.drop (i*sz+sz):=by
   rw[List.drop_append,List.drop_of_length_le (by simp[h2,Nat.add_mul])];simp[h2,Nat.add_mul]
  rw[e1,e2];simp
def V.over(v0:V)(o:Nat)(ps:List V):V:=match v0 with
 |.agg cs=>.agg (wd cs o ps)
 |v0=>match ps with
  |[p]=>p
  |_=>v0
theorem AQ{y:Operand}{id o:Nat}{v:V}(hr:HRel S w ρ h)(fr:Fr a n (fA a))(hx:Opd S w ρ a x (.el id sz i o))(hy:Opd S w ρ a y v)(ho:h id=.row e sz els)(hz:jt P t=some m)(hi:els[i]?=some v0)(hv:v.cells.length=m)(h1:v.cells.all V.one=true)(hm:o+m≤v0.cells.length)
  (hv0:(∃cs,v0=.agg cs)∨(v0.cells=[v0]∧v.cells=[v])):Does P S w ρ h a ty (.store t x y) none (co h id (.row e sz (els.set i (v0.over o v.cells)))) (·=id):=by
 obtain⟨u,xs,g1,g2,g3⟩:=kQ hr ho;obtain⟨b,k,c,rfl,hx'⟩:=Eg hx g1;obtain⟨z,k1,k2⟩:=hy;have hlen:=k2.cells.length;simp only[Array.length_toList]at hlen;obtain⟨z0,q1,q2,q3⟩:=g3.get hi;have hle:i<els.length:=(List.getElem?_eq_some_iff.1 hi).1;have hmul:(i+1)*sz≤els.length*sz:=Nat.mul_le_mul_right _ hle;rw[Nat.add_mul,Nat.one_mul]at hmul;have hl0:=q1.cells.length;simp only[Array.length_toList]at hl0;have hxl:=g3.length;rcases g2.2 with⟨hc,_⟩|⟨g,cap,cur,hv1,hb,hg,h4,h5,h6,h7⟩
 ·cases hc
 ·injection hv1 with hv2 hv3 hv4
  injection hv2 with hv2
  injection hv2 with hv2
  subst hv2 hv3 hv4;have hcap:els.length*sz≤c*sz:=Nat.mul_le_mul_right _ h4;have hB:Blk w b e cur.toList:=by unfold Blk;rw[hg]
  obtain⟨w',r1,r2,r3⟩:=CT (P:=P) (t:=t) (m:=m) fr hx' k1 hz (by omega) (wM k2.cells h1) hB (by simp;omega) ty;have hX:∀d,d∈[b]→own ρ id (h id) d:=λd hd=>by simp at hd;subst hd;rw[ho];exact⟨_,g1,rfl⟩
  have up:=Lc hr r3 hX;have hnew:∃q,VRel S w ρ (v0.over o v.cells) q∧q.cells.toList=z0.cells.toList.take o++z.cells.toList++z0.cells.toList.drop (o+m):=by
   rcases hv0 with⟨cs,rfl⟩|⟨e1,e2⟩
   ·refine⟨.agg (z0.cells.toList.take o++z.cells.toList++z0.cells.toList.drop (o+m)).toArray,?_,by simp[Value.cells]⟩;simp only[V.over,VRel];refine⟨_,rfl,?_⟩;unfold wd;rw[hv];exact((q1.cells.take o).append k2.cells).append (q1.cells.drop _)
   ·have :v0.over o v.cells=v:=by
     rw[e2];cases v0 with
     |agg cs=>
      simp only[V.cells]at e1;have hs:=congrArg SizeOf.sizeOf e1;simp at hs;omega
     |_=>rfl
    rw[this];refine⟨z,k2,?_⟩;rw[e1]at hm hl0;rw[e2]at hv;simp at hm hl0 hv;subst hv;obtain rfl:o=0:=by omega
    rw[List.drop_of_length_le (l:=z0.cells.toList) (by simp[hl0])];simp
  obtain⟨q,hn1,hn2⟩:=hnew;have hsz':q.cells.size=sz:=by
   have :=congrArg List.length hn2;simp only[Array.length_toList,List.length_append,List.length_take,List.length_drop]at this;rw[this];omega
  have hones:(z0.cells.toList.take o++z.cells.toList++z0.cells.toList.drop (o+m)).all (·.oneCell')=true:=by
   have hall:z0.cells.toList.all (·.oneCell')=true:=by
    have h0:∀j,j<sz→∃u,z0.cells.toList[j]?=some u∧u.oneCell'=true:=λj hj=>by
     have hq:=q3 j hj;have :i*sz+j<xs.length:=by omega
     refine⟨xs[i*sz+j],?_,g3.ones _ (List.getElem_mem _)⟩;rw[←hq];simp[this]
    rw[List.all_eq_true];intro u hu;obtain⟨j,hj,rfl⟩:=List.getElem_of_mem hu;obtain⟨u',e1,e2⟩:=h0 j (by simp at hj;omega);rw[List.getElem?_eq_getElem hj]at e1;cases e1;exact e2
   have hall2:=wM k2.cells h1;rw[List.all_eq_true]at hall hall2⊢;intro u hu;simp only[List.mem_append]at hu;rcases hu with(hu|hu)|hu
   ·exact hall u (List.mem_of_mem_take hu)
   ·exact hall2 u hu
   ·exact hall u (List.mem_of_mem_drop hu)
  have hset:=CRel.set (i:=i) g3 hle hn1 hsz' (by rw[hn2];exact hones);rw[hn2]at hset;have hcur:cur.toList.take (els.length*sz)=xs:=h7;have e9:xs.take (i*sz)++(z0.cells.toList.take o++z.cells.toList++z0.cells.toList.drop (o+m))++xs.drop (i*sz+sz)=xs.take (i*sz+o)++z.cells.toList++xs.drop (i*sz+o+m):=by
   apply List.ext_getElem?;intro j;have hz0:∀j,j<sz→z0.cells.toList[j]?=xs[i*sz+j]?:=λj hj=>(q3 j hj).symm;have L1:(xs.take (i*sz)).length=i*sz:=by simp;omega
   have L2:(z0.cells.toList.take o).length=o:=by simp;omega
   have L3:z.cells.toList.length=m:=by simp;omega
   have L4:(z0.cells.toList.drop (o+m)).length=sz-(o+m):=by simp;omega
   have L5:(xs.take (i*sz+o)).length=i*sz+o:=by simp;omega
   simp only[List.getElem?_append,L1,L2,L3,L4,L5,List.length_append,List.getElem?_take,List.getElem?_drop];by_cases c1:j<i*sz
   ·simp[c1,show j<i*sz+(o+m+(sz-(o+m))) by omega,show j<i*sz+o+m by omega,show j<i*sz+o by omega]
   ·by_cases c2:j<i*sz+o
    ·simp[c1,c2,show j<i*sz+(o+m+(sz-(o+m))) by omega,show j<i*sz+o+m by omega,show j-i*sz<o+m by omega,show j-i*sz<o by omega];have :=hz0 (j-i*sz) (by omega);simp at this;rw[this];congr 1;omega
    ·by_cases c3:j<i*sz+o+m
     ·simp[c1,c2,c3,show j<i*sz+(o+m+(sz-(o+m))) by omega,show j-i*sz<o+m by omega,show¬j-i*sz<o by omega]
      congr 1;omega
     ·by_cases c4:j<i*sz+sz
      ·simp[c1,c2,c3,show j<i*sz+(o+m+(sz-(o+m))) by omega,show¬j-i*sz<o+m by omega];rw[show o+m+(j-i*sz-(o+m))=j-i*sz by omega];have :=hz0 (j-i*sz) (by omega);simp at this;rw[this];congr 1;omega
      ·simp[c1,c2,c3,show¬j<i*sz+(o+m+(sz-(o+m))) by omega]
       congr 1;omega
  rw[e9]at hset;refine⟨_,w',ρ,r1,zQ hr r3 hX ⟨_,_,g1,⟨?_,.inr ⟨b,c,(cur.toList.take (i*sz+o)++z.cells.toList++cur.toList.drop (i*sz+o+m)).toArray,?_,hb,r2,by simpa using h4,h5,?_,rfl⟩⟩,?_⟩ (λd hd=>by rw[ho];exact hd),rfl⟩
  ·simp;omega
  ·simp
  ·simp;omega
  ·have e10:List.take ((els.set i (v0.over o v.cells)).length*sz) (cur.toList.take (i*sz+o)++z.cells.toList++cur.toList.drop (i*sz+o+m)).toArray.toList=xs.take (i*sz+o)++z.cells.toList++xs.drop (i*sz+o+m):=by
    simp only[List.length_set];rw[←hcur];apply List.ext_getElem?;intro j;have K1:(cur.toList.take (i*sz+o)).length=i*sz+o:=by simp;omega
    have K2:(List.take (i*sz+o) (List.take (els.length*sz) cur.toList)).length=i*sz+o:=by simp;omega
    simp only[List.getElem?_take,List.getElem?_append,K1,K2,List.length_append,Array.length_toList,List.getElem?_drop];by_cases c0:j<els.length*sz
    ·by_cases c1:j<i*sz+o
     ·simp[c0,c1,show j<i*sz+o+z.cells.size by omega]
     ·by_cases c2:j<i*sz+o+z.cells.size
      ·simp[c0,c1,c2]
      ·simp[c0,c1,c2,show i*sz+o+m+(j-(i*sz+o+z.cells.size))<els.length*sz by omega]
    ·simp[c0,show¬j<i*sz+o+z.cells.size by omega,show¬i*sz+o+m+(j-(i*sz+o+z.cells.size))<els.length*sz by omega]
   rw[e10];exact hset.up up
end
section
variable{P:Program}{S:Nat→Prop}{w w':World}{ρ ρ':Nat→Option Value}{h h':Nat→Ob}{a:Act}{n:Nat}{ty:TypeId}
def oH(sz:Nat):Nat→List (Nat×V)→Option (List V)
 |_,[]=>some []
 |i,(j,v)::r=>match Nat.beq i j&&Nat.beq v.cells.length sz&&v.cells.all V.one with
  |true=>match oH sz (i+1) r with
   |some vs=>some (v::vs)
   |none=>none
  |false=>none
theorem wj{sz:Nat}:∀{vs:List (Nat×V)} {ys:List (Nat×Value)} {i:Nat} {els:List V},lH S w ρ vs ys→oH sz i vs=some els→
  ys.map (·.1)=(List.range' i els.length)∧(ys.all λp=>p.2.cells.size==sz)=true∧CRel S w ρ sz els (ys.flatMap λp=>p.2.cells.toList)
 |[],ys,i,els,hp,hr=>by
  simp only[lH]at hp;subst hp;simp only[oH,Option.some.injEq]at hr;subst hr;simp[CRel]
 | (j,v)::r,ys,i,els,hp,hr=>by
  simp only[lH]at hp;obtain⟨x,zs,rfl,hx,hq⟩:=hp;simp only[oH]at hr;split at hr
  ·rename_i hc;simp only[Bool.and_eq_true,Nat.beq_eq]at hc;split at hr
   ·rename_i vs hvs;simp only[Option.some.injEq]at hr;subst hr;obtain⟨h1,h2,h3⟩:=wj hq hvs;have hl:=hx.cells.length;simp only[Array.length_toList]at hl;refine⟨?_,?_,?_⟩
    ·simp[h1,hc.1.1,List.range'_succ]
    ·simp only[List.all_cons,h2,Bool.and_true,beq_iff_eq];rw[hl,hc.1.2]
    ·simp only[List.flatMap_cons];exact⟨x,_,rfl,⟨by rw[hl,hc.1.2],wM hx.cells hc.2⟩,hx,h3⟩
   ·cases hr
  ·cases hr
theorem Mb{vs:List (Nat×V)}{ys:List (Nat×Value)}{m:Nat}{z:List Value}{els:List V}(hr:HRel S w ρ h)(fr:Fr a n (fA a))(hf:h nid=.free)(G:io (fA a) ps=some ys)(U:lH S w ρ vs ys)(ht:P.underlying t=some (.slice e))(hz:jt P e=some sz)(hzero:ry P e=some z)
  (hp:oH sz 0 vs=some els) (Z:els.length=m) (hsm:Nat.ble (m*sz) 16777216=true) (hm:Nat.ble m 16777216=true):Does P S w ρ h a ty (.buildSlice t m ps.toArray) (some (.sl nid)) (co h nid (.row e sz els)) (λ_=>False):=by
 obtain⟨h1,h2,h3⟩:=wj U hp;have J:ps.map (·.1)=List.range m:=by
  have :ps.map (·.1)=ys.map (·.1):=by rw[←fr.parts G];simp
  rw[this,h1,Z,List.range_eq_range']
 obtain⟨w',b,g1,g2,g3,g4,g5⟩:=Ds (P:=P) (t:=t) (m:=m) fr G ht hz hzero J h2 hsm rfl w ty;have O:=h3.length;have hmm:m≤16777216:=Nat.le_of_ble_eq_true hm;have own:=BV (base:=0) g2 (Nat.zero_le _) (m:=m) (size:=sz) (by rw[O,Z]) (by simp only[Nat.ble_eq,maxLen];omega);refine⟨_,w',eN ρ nid (.slice (some ⟨b,0,none⟩) m m),g1,eff_new hr hf g3 ⟨_,_,bd _ _ _,by rw[Z];exact own,h3.up (BU hr hf g3)⟩ (λb' hb'=>?_),_,rfl,?_⟩
 ·obtain⟨v,e1,e2⟩:=hb';rw[bd]at e1;cases e1;simp[Value.ownBlock]at e2;omega
 ·simp only[VRel];exact⟨bd _ _ _,rfl⟩
theorem Dz{z:List Value}(hz:0<z.length):∀m,(madeCells z.toArray (m*z.length)).toList=(List.replicate m z).flatten:=by
 intro m;apply List.ext_getElem?;intro j;have hl:((List.replicate m z).flatten).length=m*z.length:=by simp
 by_cases hj:j<m*z.length
 ·have hlt:j%z.length<z.length:=Nat.mod_lt _ hz;have h1:(madeCells z.toArray (m*z.length)).toList[j]?=some z[j%z.length]:=by
   simp[madeCells,hj,hlt]
  rw[h1];have key:∀(m j:Nat),j<m*z.length→((List.replicate m z).flatten)[j]?=some (z[j%z.length]'(Nat.mod_lt _ hz)):=by
   intro m
   induction m with
   |zero=>intro j hj;simp at hj
   | succ m ih=>
    intro j hj;simp only[List.replicate_succ,List.flatten_cons];by_cases hc:j<z.length
    ·rw[List.getElem?_append_left hc];simp[Nat.mod_eq_of_lt hc,hc]
    ·rw[List.getElem?_append_right (by omega),ih (j-z.length) (by rw[Nat.add_mul]at hj;omega)]
     congr 1
     have :(j-z.length)%z.length=j%z.length:=by
      conv=>rhs;rw[show j=(j-z.length)+z.length by omega]
      simp
     simp[this]
  exact(key m j hj).symm
 ·rw[List.getElem?_eq_none (by simp[madeCells];omega),List.getElem?_eq_none (by rw[hl];omega)]
theorem FA{sz:Nat}{zv:V}{z:Value}(G:z.cells.size=sz)(h1:z.cells.toList.all (·.oneCell')=true)(hv:VRel S w ρ zv z):∀m,CRel S w ρ sz (List.replicate m zv) ((List.replicate m z.cells.toList).flatten)
 |0=>by simp[CRel]
 |m+1=>by
  simp only[List.replicate_succ,List.flatten_cons];exact⟨z,_,rfl,⟨G,h1⟩,hv,FA G h1 hv m⟩
theorem Ln{y:Operand}{sz by_:Nat}{z:Value}{zv:V}(hr:HRel S w ρ h)(fr:Fr a n (fA a))(hf:h nid=.free)(hx:Opd S w ρ a x (.int .i64 (m:Int)))(hy:Opd S w ρ a y (.int .i64 (m:Int)))(ht:P.underlying t=some (.slice e))
  (hi:(P.info? e).map (λi=>(i.zero,i.size,i.bytes))=some (some z,sz,by_)) (hzs:z.cells.size=sz) (hsz:0<sz) (h1:z.cells.toList.all (·.oneCell')=true) (O:∀S w ρ,VRel S w ρ zv z) (hb:by_*m≤281474976710656) (hm:m≤maxLen):
  Does P S w ρ h a ty (.makeSlice t x y) (some (.sl nid)) (co h nid (.row e sz (List.replicate m zv))) (λ_=>False):=by
 have U:m≤9223372036854775807:=by simp only[maxLen]at hm;omega
 have Z:madeCells z.cells (m*sz)=(List.replicate m z.cells.toList).flatten.toArray:=by
  rw[←Dz (by simp;omega)];simp[hzs]
 obtain⟨w',b,g1,g2,g3,g4,g5⟩:=NL (P:=P) fr (bu hx) (bu hy) ht hi (by simpa using hb) (by simpa using U) Z w ty;have J:=FA (S:=S) (w:=w) (ρ:=ρ) hzs h1 (O _ _ _) m;have G:=J.length;simp only[List.length_replicate]at G;have own:=BV (base:=0) g2 (Nat.zero_le _) (m:=m) (size:=sz) G (by simpa using hm);refine⟨_,w',eN ρ nid (.slice (some ⟨b,0,none⟩) m m),g1,eff_new hr hf g3 ⟨_,_,bd _ _ _,by simpa using own,J.up (BU hr hf g3)⟩ (λb' hb'=>?_),_,rfl,?_⟩
 ·obtain⟨v,e1,e2⟩:=hb';rw[bd]at e1;cases e1;simp[Value.ownBlock]at e2;omega
 ·simp only[VRel];exact⟨bd _ _ _,rfl⟩
theorem BC{c d:Nat}{B:Option Addr}(ht:P.underlying t=some (.slice e))(J:jt P e=some sz)(O:k≤c):(Builtin.append_ #[t,t] ty #[.slice A k c,.slice B 0 d]).run P w=.ok (.slice A k c) w:=by
 obtain⟨inf,hi,hs⟩:=Option.map_eq_some_iff.1 (show(P.info? e).map (·.size)=some sz from J);have G:(sizeOf e).run P w=.ok sz w:=by simp[sizeOf,typeInfo,hi,hs]
 cases A<;>cases B<;>simp[Builtin.append_,run_underlying ht,G,Builtin.lenOf,Builtin.firstCells,O,loadCells,loadCellsFrom,storeCells]
def wL(S:Nat→Prop)(w:World)(ρ:Nat→Option Value)(sz:Nat)(els:List V)(y:Value):Prop:=
 ∃A c xs,y=.slice A els.length c∧CRel S w ρ sz els xs∧(0<els.length→∃b off,A=some ⟨b,off,none⟩∧∀j,j<els.length*sz→w.cell? ⟨b,off+j,none⟩=xs[j]?)
theorem Oa{y:Value}(hy:VRel S w ρ (.row sz els) y):wL S w ρ sz els y:=by
 simp only[VRel]at hy;obtain⟨A,c,xs,rfl,Z,h4,G,J⟩:=hy;exact⟨A,c,xs,rfl,G.up up0,λO=>by obtain⟨b,off,e,_,_,U⟩:=J.2 O;exact⟨b,off,e,U⟩⟩
theorem LU{y:Value}(hy:VRel S w ρ .nils y):wL S w ρ sz [] y:=by
 simp only[VRel]at hy;subst hy;exact⟨none,0,[],rfl,by simp[CRel],λG=>by simp at G⟩
theorem NQ{id:Nat}{y:Value}(hr:HRel S w ρ h)(J:h id=.row e sz els)(hy:VRel S w ρ (.sl id) y):wL S w ρ sz els y:=by
 simp only[VRel]at hy;obtain⟨v,xs,h1,h2,O⟩:=kQ hr J;rw[hy.1]at h1;cases h1;obtain⟨A,c,rfl,_⟩:=gv h2;refine⟨A,c,xs,rfl,O,λU=>?_⟩;obtain⟨g,cap,hv,_⟩:=h2.form U;injection hv with G _ Z
 subst G;exact⟨g,0,rfl,λj hj=>by rw[Nat.zero_add];exact ve h2 hj⟩
theorem Br{y:Operand}{by_:Nat}{z u v:Value}{news:List V}(fr:Fr a n (fA a))(hx:aS (fA a) x=some u)(hy:aS (fA a) y=some v)(hu:w.ownsRow 0 e sz u els.length xs)(U:CRel S w ρ sz els xs)(hv:wL S w ρ sz news v)(ht:P.underlying t=some (.slice e))
  (hi:(P.info? e).map (λi=>(i.zero,i.size,i.bytes))=some (some z,sz,by_)) (hzs:z.cells.size=sz) (hsz:0<sz) (h63:els.length+news.length≤maxLen) (hby:(els.length+news.length)*by_≤140737488355328):
  ∃O w' ys,Runs P a ty (.call {callee:=.builtin .append,args:=#[x,y],argTypes:=#[t,t]}) w (.value O) w'∧w'.ownsRow 0 e sz O (els.length+news.length) ys∧CRel S w ρ sz (els++news) ys∧Chg u.ownBlock.toList w w'∧(O.ownBlock=u.ownBlock∨O.ownBlock=some w.heap.size):=by
 obtain⟨A,c,ns,rfl,G,hcell⟩:=hv;have hsize:jt P e=some sz:=by
  obtain⟨i0,hi0,J⟩:=Option.map_eq_some_iff.1 hi;simp only[Prod.mk.injEq]at J;simp[jt,hi0,J.2.1]
 by_cases hn:news=[]
 ·subst hn;simp only[CRel]at G;subst G;obtain⟨B,d,rfl,hd,_⟩:=gv hu;refine⟨.slice B els.length d,w,xs,λ_ _ _ _=>?_,by simpa using hu,by simpa using U,Chg.refl _ _,.inl rfl⟩;simp only[execOp,resolve,invoke,builtin,List.map_toArray,List.map_cons,List.map_nil,fr.eval hx,fr.eval hy];have :=BC (P:=P) (w:=w) (ty:=ty) (A:=B) (B:=A) (d:=c) ht hsize hd;simp only[List.length_nil];simp[this]
 ·have Z:0<news.length:=List.length_pos_iff.2 hn;obtain⟨b,off,rfl,hc⟩:=hcell Z;obtain⟨i0,hi0,J⟩:=Option.map_eq_some_iff.1 hi;simp only[Prod.mk.injEq]at J;obtain⟨hz,hs,hbb⟩:=J;obtain⟨O,w',hrun,h2,h3,_,h5⟩:=run_append_own_at (P:=P) w 0 t ty e i0 z sz by_ ht hi0 hz hs hbb hzs hsz u els.length xs hu ⟨b,off,none⟩ news.length c ns G.length
   (λj q hq=>by
    have hj:j<ns.length:=(List.getElem?_eq_some_iff.1 hq).1;rw[sM,hc j (by rw[←G.length];exact hj)];exact hq) G.ones h63 hby (Nat.zero_le _)
  refine⟨O,w',xs++ns,λ_ _ _ _=>?_,h2,U.append G,Chg.grown h3,h5⟩;simp only[execOp,resolve,invoke,builtin,List.map_toArray,List.map_cons,List.map_nil,fr.eval hx,fr.eval hy];simp[hrun]
theorem CB{e:Nat}{v:Value}(hv:w.ownsRow base e sz v k xs):v.oneCell'=true:=by
 obtain⟨A,c,rfl,_⟩:=gv hv;rfl
section
variable{t e:TypeId}{x y:Operand}{sz by_ nid:Nat}{z v:Value}{els news:List V}(hr:HRel S w ρ h)(fr:Fr a n (fA a))(hf:h nid=.free)(hy:aS (fA a) y=some v)(hv:wL S w ρ sz news v)(ht:P.underlying t=some (.slice e))
    (hi:(P.info? e).map (λi=>(i.zero,i.size,i.bytes))=some (some z,sz,by_)) (hzs:z.cells.size=sz) (hsz:0<sz)
include hr fr hf hy hv ht hi hzs hsz
theorem Fn{id:Nat}(hx:Opd S w ρ a x (.sl id))(J:h id=.row e sz els)(U:els.length+news.length≤maxLen)(Z:(els.length+news.length)*by_≤140737488355328):
  Does P S w ρ h a ty (.call {callee:=.builtin .append,args:=#[x,y],argTypes:=#[t,t]}) (some (.sl nid)) (co (co h id .gone) nid (.row e sz (els++news))) (·=id):=by
 obtain⟨u,k1,O⟩:=hx;simp only[VRel]at O;obtain⟨u',xs,h1,h2,h3⟩:=kQ hr J;rw[O.1]at h1;cases h1;obtain⟨v',w',ys,g1,g2,g3,g4,G⟩:=Br (P:=P) (ty:=ty) fr k1 hy h2 h3 hv ht hi hzs hsz U Z;have hX:∀b,b∈u.ownBlock.toList→own ρ id (h id) b:=λb hb=>by simp at hb;rw[J];exact⟨u,O.1,hb⟩
 have hn:ρ nid=none:=by have :=hr.ob nid;rw[hf]at this;exact this
 have up:Up S S w w' ρ (eN ρ nid v'):=by
  refine⟨λ_ h=>h,λb hb hlt=>g4.block b hlt (λhc=>hr.sep id b (hX b hc) hb),λi q hq=>?_⟩;have :i≠nid:=λe=>by subst e;rw[hn]at hq;cases hq
  rw[ss _ _ this];exact hq
 refine⟨_,w',eN ρ nid v',g1,EK hr hf (by rw[J];simp) g4 hX ⟨v',ys,bd _ _ _,by simpa using g2,g3.up up⟩ (λb hb=>?_),_,rfl,?_⟩
 ·obtain⟨q,e1,e2⟩:=hb;rw[bd]at e1;cases e1;rcases G with G|G
  ·exact .inl (by rw[J];exact⟨u,O.1,by rw[←G];exact e2⟩)
  ·rw[G]at e2;simp at e2;exact .inr (by omega)
 ·simp only[VRel];exact⟨bd _ _ _,CB g2⟩
theorem KN(hx:Opd S w ρ a x .nils)(O:news.length≤maxLen)(U:news.length*by_≤140737488355328):
  Does P S w ρ h a ty (.call {callee:=.builtin .append,args:=#[x,y],argTypes:=#[t,t]}) (some (.sl nid)) (co h nid (.row e sz news)) (λ_=>False):=by
 obtain⟨u,k1,k2⟩:=hx;simp only[VRel]at k2;subst k2;obtain⟨Z,w',ys,g1,g2,g3,g4,G⟩:=Br (P:=P) (ty:=ty) (els:=[]) (xs:=[]) fr k1 hy (World.ownsRow_nil w 0 e sz) (by simp[CRel]) hv ht hi hzs hsz (by simpa using O) (by simpa using U);have up:=BU (x:=Z) hr hf g4;simp only[List.length_nil,Nat.zero_add,List.nil_append]at g2 g3;refine⟨_,w',eN ρ nid Z,g1,eff_new hr hf g4 ⟨Z,ys,bd _ _ _,g2,g3.up up⟩ (λb hb=>?_),_,rfl,?_⟩
 ·obtain⟨q,e1,J⟩:=hb;rw[bd]at e1;cases e1;rcases G with G|G
  ·rw[G]at J;cases J
  ·rw[G]at J;simp at J;omega
 ·simp only[VRel];exact⟨bd _ _ _,CB g2⟩
end
theorem Ho{y:Operand}{id:Nat}(hr:HRel S w ρ h)(fr:Fr a n (fA a))(hf:h nid=.free)(hx:Opd S w ρ a x (.sl id))(hy:Opd S w ρ a y (.int .i64 (k:Int)))(ho:h id=.row e sz els)(ht:P.underlying t=some (.slice e))(hz:jt P e=some sz)(hk:k≤els.length):
  Does P S w ρ h a ty (.slice t x none (some y) none) (some (.sl nid)) (co (co h id .gone) nid (.row e sz (els.take k))) (·=id):=by
 obtain⟨u,k1,k2⟩:=hx;simp only[VRel]at k2;obtain⟨u',xs,h1,h2,h3⟩:=kQ hr ho;rw[k2.1]at h1;cases h1;obtain⟨A,c,rfl,hc,hcm⟩:=gv h2;have G:=Lh (P:=P) (w:=w) (ty:=ty) (lo:=none) (hi:=some y) (i:=0) (j:=k) fr ht hz k1 (.inl ⟨rfl,rfl⟩) (.inr ⟨y,rfl,bu hy⟩) (Nat.zero_le _) hk hc;have eA:(if c=0 then A else A.map (·.add (0*sz)))=A:=by
  split
  ·rfl
  ·cases A with
   |none=>rfl
   |some ad=>simp[Addr.add]
 rw[eA]at G;simp only[Nat.sub_zero]at G;have hn:ρ nid=none:=by have :=hr.ob nid;rw[hf]at this;exact this
 have up:Up S S w w ρ (eN ρ nid (.slice A k c)):=by
  refine⟨λ_ h=>h,λb hb hlt=>rfl,λi q hq=>?_⟩;have :i≠nid:=λe=>by subst e;rw[hn]at hq;cases hq
  rw[ss _ _ this];exact hq
 have U:(els.take k).length=k:=by simp;omega
 have own':w.ownsRow 0 e sz (.slice A k c) k (xs.take (k*sz)):=by
  have J:k*sz≤els.length*sz:=Nat.mul_le_mul_right _ hk;refine⟨by rw[List.length_take,h2.1,Nat.min_eq_left J],?_⟩;rcases h2.2 with⟨h0,h0'⟩|⟨g,cap,cur,hv,q1,q2,q3,q4,q5,q6⟩
  ·injection h0 with O Z e3
   subst O e3;exact .inl ⟨by rw[show k=0 by omega],by omega⟩
  ·injection hv with O Z e3
   subst O e3;refine .inr ⟨g,c,cur,rfl,q1,q2,by omega,q4,q5,?_⟩;rw[←q6,List.take_take,Nat.min_eq_left J]
 refine⟨_,w,eN ρ nid (.slice A k c),G,EK (X:=[]) hr hf (by rw[ho];simp) (Chg.refl _ _) (by simp) ⟨_,_,bd _ _ _,by rw[U];exact own',(h3.take k).up up⟩ (λb hb=>?_),_,rfl,?_⟩
 ·obtain⟨q,O,Z⟩:=hb;rw[bd]at O;cases O;exact .inl (by rw[ho];exact⟨_,k2.1,by cases A<;>simp[Value.ownBlock]at Z⊢;exact Z⟩)
 ·simp only[VRel];exact⟨bd _ _ _,rfl⟩
theorem gx{id:Nat}(hr:HRel S w ρ h):HRel (λb=>S b∨own ρ id (h id) b) w ρ (co h id .gone)∧Up S (λb=>S b∨own ρ id (h id) b) w w ρ ρ:=by
 have up:Up S (λb=>S b∨own ρ id (h id) b) w w ρ ρ:=⟨λ_ h=>.inl h,λ_ _ _=>rfl,λ_ _ h=>h⟩;have back:∀i b,own ρ i (co h id .gone i) b→i≠id∧own ρ i (h i) b:=λi b hb=>by
  by_cases hi:i=id
  ·subst hi;rw[bO]at hb;exact hb.elim
  ·rw[dj _ _ hi]at hb;exact⟨hi,hb⟩
 refine⟨⟨λi=>?_,λi b hb=>?_,λi j b G J=>hr.dis i j b (back i b G).2 (back j b J).2,hr.slt.up up λb hb=>?_⟩,up⟩
 ·by_cases hi:i=id
  ·subst hi;rw[bO];trivial
  ·rw[dj _ _ hi];refine(hr.ob i).up up (λhf=>?_) (λ_ _=>rfl);have :=hr.ob i;rw[hf]at this;exact this
 ·obtain⟨h1,h2⟩:=back i b hb;rintro(O|O)
  ·exact hr.sep i b h2 O
  ·exact h1 (hr.dis i id b h2 O)
 ·rcases hb with hb|hb
  ·exact hr.slt b hb
  ·exact gU (hr.ob id) hb
theorem uv{id:Nat}{x:Value}(hr:HRel S w ρ h)(O:h id=.row e sz els)(Z:pureL els=true)(hx:VRel S w ρ (.sl id) x):VRel (λb=>S b∨own ρ id (h id) b) w ρ (.row sz els) x:=by
 simp only[VRel]at hx;obtain⟨v,xs,h1,h2,U⟩:=kQ hr O;rw[hx.1]at h1;cases h1;obtain⟨A,c,rfl,hc,G⟩:=gv h2;simp only[VRel];refine⟨A,c,xs,rfl,hc,G,(U.up (gx hr).2).pure Z,U.length,λhn=>?_⟩;obtain⟨g,cap,hv,_,J⟩:=h2.form hn;injection hv with e1 e2 e3
 subst e1 e3;exact⟨g,0,rfl,.inr (by rw[O];exact⟨_,hx.1,rfl⟩),J,λj hj=>by rw[Nat.zero_add];exact ve h2 hj⟩
theorem IV{id o:Nat}{x:Value}(hr:HRel S w ρ h)(J:h id=.var t cs)(O:pureL cs=true)(hx:VRel S w ρ (.ptr id o) x):VRel (λb=>S b∨own ρ id (h id) b) w ρ (.box cs o) x:=by
 simp only[VRel]at hx;obtain⟨b,xs,h1,h2,U⟩:=vb hr J;obtain⟨Z,G,rfl⟩:=hx;rw[h1]at G;simp only[Option.some.injEq,Value.pointer.injEq,Addr.mk.injEq,and_true]at G;subst G;simp only[VRel];exact⟨b,0,xs,by simp,.inr (by rw[J];exact h1),h2.lt,(U.up (gx hr).2).pure O,λj hj=>by rw[Nat.zero_add,h2.cell]⟩
end
abbrev Fm:=List (Option V)
def Fm.get:Fm→Nat→Option V
 |[],_=>none
 |x::_,0=>x
 |_::r,i+1=>Fm.get r i
def Fm.put{α:Type}:Fm→Nat→Option V→(Fm→α)→α
 |[],_,_,c=>c []
 |_::r,0,v,c=>c (v::r)
 |x::r,i+1,v,c=>Fm.put r i v λG=>c (x::G)
variable{α:Type}
def Fm.puto(F:Fm)(d:Option Tmp)(v:Option V)(c:Fm→α):α:=match d with
 |some d=>F.put d v c
 |none=>c F
def jj(n:Nat)(c:Nat→α):α:=match n with
 |0=>c 0
 |m+1=>c (Nat.succ m)
def Jx(n:Int)(c:Int→α):α:=match n with
 |.ofNat m=>jj m λm=>c (.ofNat m)
 |.negSucc m=>jj m λm=>c (.negSucc m)
def listK{α β:Type}:List β→(List β→α)→α
 |[],c=>c []
 |x::r,c=>listK r λG=>c (x::G)
theorem eU(n:Nat)(c:Nat→α):jj n c=c n:=by cases n<;>rfl
theorem Im(n:Int)(c:Int→α):Jx n c=c n:=by cases n<;>simp[Jx,eU]
theorem dG{α β:Type}:∀(l:List β) (c:List β→α),listK l c=c l
 |[],c=>rfl
 |x::r,c=>by simp[listK,dG r]
theorem Fm.get_eq:∀(F:Fm) (i:Nat),F.get i=(F[i]?).bind id
 |[],i=>by simp[Fm.get]
 |x::r,0=>by simp[Fm.get]
 |x::r,i+1=>by simp[Fm.get,Fm.get_eq r i]
theorem Fm.put_eq{α:Type}:∀(F:Fm) (i:Nat) (v:Option V) (c:Fm→α),F.put i v c=c (F.set i v)
 |[],i,v,c=>by simp[Fm.put]
 |x::r,0,v,c=>by simp[Fm.put]
 |x::r,i+1,v,c=>by simp[Fm.put,Fm.put_eq r i]
def Fm.seto(F:Fm)(d:Option Tmp)(v:Option V):Fm:=match d with
 |some d=>F.set d v
 |none=>F
theorem Fm.puto_eq(F:Fm)(d:Option Tmp)(v:Option V)(c:Fm→α):F.puto d v c=c (F.seto d v):=by
 cases d with
 |none=>rfl
 |some d=>exact Fm.put_eq F d v c
inductive TK where
 |sc
 |bool
 |str
 |sl (e:TypeId)
 |struct (fs:List (Nat×Nat×Bool))
 |arr (len:Nat) (e:TypeId)
structure TD where
 size:Nat
 bytes:Nat
 zero:V
 kind:TK
structure Tab where
 frc:Bool
 ty:TypeId→Option TD
 fn:FuncId→Option Func
 nat:FuncId→List V→Option V
 keep:FuncId→Bool
def Ji:Value→V→Bool
 |.int k n,.int k' m=>k==k'&&n==m
 |.bool b,.bool c=>b==c
 |.string s,.str l=>s.data.toList==l
 |.pointer none,.nilp=>true
 |.slice none 0 0,.nils=>true
 |.map none,.raw (.map none)=>true
 |_,_=>false
def Js:List Value→List V→Bool
 |[],[]=>true
 |x::r,v::q=>Ji x v&&Js r q
 |_,_=>false
def zEq:Value→V→Bool
 |.agg cs,.agg vs=>Js cs.toList vs
 |x,v=>Ji x v
def xa(P:Program)(t:TypeId):Nat→List (Nat×Nat×Bool)→Bool
 |_,[]=>true
 |i,(o,s,b)::r=>(match b with
  |true=>uH P t i==some o
  |false=>uP P t i==some (o,s))&&rv P t i==some o&&xa P t (i+1) r
def ql(P:Program)(t:TypeId)(size:Nat):TK→Bool
 |.sc=>gq P t
 |.bool=>gq P t&&match P.underlying t with|some .bool=>true|_=>false
 |.str=>gq P t&&match P.underlying t with|some .string=>true|_=>false
 |.sl e=>gq P t&&match P.underlying t with|some (.slice G)=>e==G|_=>false
 |.struct fs=>oe P t==some size&&zX P t==some (fs.map λp=>(p.1,p.2.1))&&xa P t 0 fs
 |.arr len e=>oe P t==some size&&match P.underlying t with|some (.array len' G)=>len==len'&&e==G|_=>false
def tdB(P:Program)(t:TypeId)(d:TD):Bool:=
 match P.info? t with
 |some inf=>match inf.zero with
  |some z=>inf.size==d.size&&inf.bytes==d.bytes&&zEq z d.zero&&z.cells.size==d.size&&ql P t d.size d.kind&&z.cells.toList.all (·.oneCell')
  |none=>false
 |none=>false
structure TdOk (P:Program) (t:TypeId) (d:TD):Prop where
 size:jt P t=some d.size
 info:∃z:Value,(P.info? t).map (λi=>(i.zero,i.size,i.bytes))=some (some z,d.size,d.bytes)∧(∀S w ρ,VRel S w ρ d.zero z)∧z.cells.size=d.size∧z.cells.toList.all (·.oneCell')=true
 kind:ql P t d.size d.kind=true
theorem GP{w:World}{x:Value}{v:V}(h:Ji x v=true):VRel S w ρ v x:=by
 unfold Ji at h;split at h
 ·simp only[Bool.and_eq_true,beq_iff_eq]at h;simp only[VRel];rw[h.1,h.2]
 ·simp only[beq_iff_eq]at h;simp only[VRel];rw[h]
 ·simp only[beq_iff_eq]at h;simp only[VRel];rw[←h]
 ·simp only[VRel]
 ·simp only[VRel]
 ·simp only[VRel];exact⟨trivial,rfl⟩
 ·cases h
theorem GY{S:Nat→Prop}{w:World}{ρ:Nat→Option Value}:∀{xs:List Value} {vs:List V},Js xs vs=true→LRel S w ρ vs xs
 |[],[],h=>by simp[LRel]
 |x::r,v::q,h=>by
  simp only[Js,Bool.and_eq_true]at h;exact⟨x,r,rfl,GP h.1,GY h.2⟩
 |[],_::_,h=>by cases h
 |_::_,[],h=>by cases h
theorem FM{w:World}{x:Value}{v:V}(h:zEq x v=true):VRel S w ρ v x:=by
 unfold zEq at h;split at h
 ·simp only[VRel];exact⟨_,rfl,GY h⟩
 ·exact GP h
variable{P:Program}{d:TD}
theorem Pq(h:tdB P t d=true):TdOk P t d:=by
 unfold tdB at h;split at h
 ·rename_i inf hi;split at h
  ·rename_i z G;simp only[Bool.and_eq_true,beq_iff_eq]at h;obtain⟨⟨⟨⟨⟨h1,h2⟩,J⟩,O⟩,U⟩,Z⟩:=h;exact⟨by simp[jt,hi,h1],⟨z,by simp[hi,G,h1,h2],λS w ρ=>FM J,O,Z⟩,U⟩
  ·cases h
 ·cases h
theorem TdOk.zeroT(h:TdOk P t d):∃z,ry P t=some z∧∀S w ρ,LRel S w ρ d.zero.cells z:=by
 obtain⟨z,h1,h2,_⟩:=h.info;obtain⟨J,hi0,G⟩:=Option.map_eq_some_iff.1 h1;simp only[Prod.mk.injEq]at G;exact⟨z.cells.toList,by unfold Go.Proofs.YtomplbgchbfjpaaGreatDoor.ry;simp[hi0,G.1],λS w ρ=>(h2 S w ρ).cells⟩
def TD.agg(d:TD):Bool:=match d.kind with
 |.struct _=>true
 |.arr _ _=>true
 |_=>false
theorem TdOk.sc(h:TdOk P t d)(O:d.agg=false):gq P t=true:=by
 have G:=h.kind;unfold TD.agg at O;cases J:d.kind with
 |sc=>rw[J]at G;exact G
 |bool=>rw[J]at G;simp only[ql,Bool.and_eq_true]at G;exact G.1
 |str=>rw[J]at G;simp only[ql,Bool.and_eq_true]at G;exact G.1
 |sl e=>rw[J]at G;simp only[ql,Bool.and_eq_true]at G;exact G.1
 |struct fs=>rw[J]at O;cases O
 |arr _ _=>rw[J]at O;cases O
theorem TdOk.ag(h:TdOk P t d)(J:d.agg=true):oe P t=some d.size:=by
 have G:=h.kind;unfold TD.agg at J;cases O:d.kind with
 |struct fs=>rw[O]at G;simp only[ql,Bool.and_eq_true,beq_iff_eq]at G;exact G.1.1
 |arr _ _=>rw[O]at G;simp only[ql,Bool.and_eq_true,beq_iff_eq]at G;exact G.1
 |_=>rw[O]at J;cases J
theorem TdOk.bool(h:TdOk P t d)(J:d.kind=.bool):P.underlying t=some .bool:=by
 have G:=h.kind;rw[J]at G;simp only[ql,Bool.and_eq_true]at G;have :=G.2;split at this
 ·assumption
 ·cases this
theorem TdOk.str(h:TdOk P t d)(J:d.kind=.str):P.underlying t=some .string:=by
 have G:=h.kind;rw[J]at G;simp only[ql,Bool.and_eq_true]at G;have :=G.2;split at this
 ·assumption
 ·cases this
theorem TdOk.sl(h:TdOk P t d)(J:d.kind=.sl e):P.underlying t=some (.slice e):=by
 have G:=h.kind;rw[J]at G;simp only[ql,Bool.and_eq_true]at G;have :=G.2;split at this
 ·rename_i U O;simp only[beq_iff_eq]at this;rw[this];exact O
 ·cases this
theorem TdOk.arr(h:TdOk P t d)(J:d.kind=.arr n e):P.underlying t=some (.array n e):=by
 have G:=h.kind;rw[J]at G;simp only[ql,Bool.and_eq_true]at G;have :=G.2;split at this
 ·rename_i U Z O;simp only[Bool.and_eq_true,beq_iff_eq]at this;rw[this.1,this.2];exact O
 ·cases this
theorem BS{P:Program}{t:TypeId}:∀{fs:List (Nat×Nat×Bool)} {k:Nat},xa P t k fs=true→∀i o s b,fs[i]?=some (o,s,b)→rv P t (k+i)=some o∧(b=true→uH P t (k+i)=some o)∧(b=false→uP P t (k+i)=some (o,s))
 |[],k,h,i,o,s,b,hi=>by simp at hi
 |(o',s',G)::r,k,h,0,o,s,b,hi=>by
  simp only[List.getElem?_cons_zero,Option.some.injEq,Prod.mk.injEq]at hi;obtain⟨rfl,rfl,rfl⟩:=hi;simp only[xa,Bool.and_eq_true,beq_iff_eq]at h;refine⟨h.1.2,λhb=>?_,λhb=>?_⟩
  ·subst hb;have :=h.1.1;simpa using this
  ·subst hb;have :=h.1.1;simpa using this
 |(o',s',G)::r,k,h,i+1,o,s,b,hi=>by
  simp only[xa,Bool.and_eq_true]at h;have :=BS h.2 i o s b (by simpa using hi);rw[show k+1+i=k+(i+1) by omega]at this;exact this
theorem TdOk.fields{fs:List (Nat×Nat×Bool)}(h:TdOk P t d)(J:d.kind=.struct fs):zX P t=some (fs.map λp=>(p.1,p.2.1))∧∀i o s b,fs[i]?=some (o,s,b)→rv P t i=some o∧(b=true→uH P t i=some o)∧(b=false→uP P t i=some (o,s)):=by
 have G:=h.kind;rw[J]at G;simp only[ql,Bool.and_eq_true,beq_iff_eq]at G;refine⟨G.1.2,λi o s b hi=>?_⟩;have :=BS G.2 i o s b hi
 rwa [Nat.zero_add]at this
structure TabOk (P:Program) (T:Tab):Prop where
 ty:∀t d,T.ty t=some d→TdOk P t d
 fn:∀i f,T.fn i=some f→P.funcs[i]?=some f∧dg P i=true
 nat:∀i vs v,T.nat i vs=some v→dg P i=true∧∀S w ρ xs,LRel S w ρ vs xs→∃x,VRel S w ρ v x∧Calls P i xs.toArray w λe w'=>e=.returned x∧w=w'
structure FRel (S:Nat→Prop) (w:World) (ρ:Nat→Option Value) (a:Act) (n:Nat) (F:Fm):Prop where
 size:a.tmps.size=n
 defers:a.defers=[]
 gl:∀p∈zN,VRel S w ρ0 (.box p.2 0) (.pointer (some ⟨p.1,0,none⟩))
 len:F.length≤n
 get:∀i v,F.get i=some v→∃x,a.tmps[i]?=some x∧VRel S w ρ v x
section
variable{S S':Nat→Prop}{w w':World}{ρ ρ':Nat→Option Value}{a:Act}{n:Nat}{F:Fm}
theorem FRel.fr(h:FRel S w ρ a n F):Fr a n (fA a):=⟨h.size,h.defers,λ_ _ h=>h⟩
theorem FRel.up(u:Up S S' w w' ρ ρ')(h:FRel S w ρ a n F):FRel S' w' ρ' a n F:=
 ⟨h.size,h.defers,λp G=>(h.gl p G).up u.z,h.len,λi v hv=>by obtain⟨x,h1,h2⟩:=h.get i v hv;exact⟨x,h1,h2.up u⟩⟩
theorem FRel.set(h:FRel S w ρ a n F)(d:Option Tmp){v:Option V}{x:Value}(hx:∀u,v=some u→VRel S w ρ u x):FRel S w ρ (a.put d x) n (F.seto d v):=by
 cases d with
 |none=>exact h
 | some d=>
  refine⟨by simp[Act.put,h.size],h.defers,h.gl,by simp[Fm.seto];exact h.len,λi u hu=>?_⟩;simp only[Fm.seto,Fm.get_eq,List.getElem?_set]at hu;simp only[Act.put,Array.getElem?_setIfInBounds,h.size];by_cases hid:d=i
  ·subst hid;simp only[if_true]at hu⊢;split at hu
   ·rename_i hlt;simp only[Option.bind_some,id_eq]at hu;exact⟨x,by simp[Nat.lt_of_lt_of_le hlt h.len],hx u hu⟩
   ·cases hu
  ·simp only[if_neg hid]at hu⊢;exact h.get i u (by rw[Fm.get_eq];exact hu)
end
def Ix:Value→Option V
 |.int k n=>some (.int k n)
 |.bool b=>some (.bool b)
 |.string s=>some (.str s.data.toList)
 |.pointer none=>some .nilp
 |.slice none 0 0=>some .nils
 |_=>none
def Fe:List Value→Option (List V)
 |[]=>some []
 |v::r=>match Ix v with
  |some x=>match Fe r with
   |some xs=>some (x::xs)
   |none=>none
  |none=>none
def ofV:Value→Option V
 |.agg cs=>match Fe cs.toList with
  |some l=>some (.agg l)
  |none=>none
 |v=>Ix v
def BH:List (Nat×List V)→Nat→Option (List V)
 |[],_=>none
 |(i,cs)::r,j=>match Nat.beq i j with
  |true=>some cs
  |false=>BH r j
theorem BJ:∀{l:List (Nat×List V)} {j:Nat} {cs:List V},BH l j=some cs→(j,cs)∈l
 |[],j,cs,h=>by cases h
 | (i,c)::r,j,cs,h=>by
  simp only[BH]at h;split at h
  ·rename_i hb;have :=Nat.eq_of_beq_eq_true hb;injection h with h;subst this h;exact List.mem_cons_self
  ·exact List.mem_cons_of_mem _ (BJ h)
def aM(F:Fm):Operand→Option V
 |.tmp t=>F.get t
 |.const v=>ofV v
 |.global g=>match BH zN g with
  |some cs=>some (.box cs 0)
  |none=>none
 |.func g=>some (.clo g [])
def gz(F:Fm):List Operand→Option (List V)
 |[]=>some []
 |x::r=>match aM F x with
  |some v=>match gz F r with
   |some vs=>some (v::vs)
   |none=>none
  |none=>none
def pY(F:Fm):List (Nat×Operand)→Option (List (Nat×V))
 |[]=>some []
 |(i,x)::r=>match aM F x with
  |some v=>match pY F r with
   |some vs=>some ((i,v)::vs)
   |none=>none
  |none=>none
section
variable{S S':Nat→Prop}{w w':World}{ρ ρ':Nat→Option Value}{a:Act}{n:Nat}{F:Fm}
theorem HV{x:Value}{v:V}(h:Ix x=some v):VRel S w ρ v x:=by
 unfold Ix at h;split at h<;>first|(simp only[Option.some.injEq]at h;subst h;simp only[VRel];done)|cases h
theorem Ig:∀{xs:List Value} {vs:List V},Fe xs=some vs→LRel S w ρ vs xs
 |[],vs,h=>by simp only[Fe,Option.some.injEq]at h;subst h;simp[LRel]
 | x::r,vs,h=>by
  simp only[Fe]at h;split at h
  ·rename_i v hv;split at h
   ·rename_i us hu;simp only[Option.some.injEq]at h;subst h;exact⟨x,r,rfl,HV hv,Ig hu⟩
   ·cases h
  ·cases h
theorem Pv{x:Value}{v:V}(h:ofV x=some v):VRel S w ρ v x:=by
 unfold ofV at h;split at h
 ·split at h
  ·rename_i l G;simp only[Option.some.injEq]at h;subst h;simp only[VRel];exact⟨_,rfl,Ig G⟩
  ·cases h
 ·exact HV h
theorem au(G:FRel S w ρ a n F){v:V}(h:aM F x=some v):Opd S w ρ a x v:=by
 unfold aM at h;split at h
 ·rename_i t;obtain⟨y,h1,h2⟩:=G.get t v h;exact⟨y,h1,h2⟩
 ·rename_i c;exact⟨c,rfl,Pv h⟩
 ·rename_i g;split at h
  ·rename_i cs J;injection h with h;subst h
   exact⟨_,rfl,(G.gl _ (BJ J)).pure (by rfl)⟩
  ·cases h
 ·rename_i g;injection h with h;subst h
  exact⟨_,rfl,by simp only[VRel,LRel];exact⟨[],rfl,rfl⟩⟩
theorem qB(hF:FRel S w ρ a n F):∀{l:List Operand} {vs:List V},gz F l=some vs→∃xs,zK (fA a) l=some xs∧LRel S w ρ vs xs
 |[],vs,h=>by simp only[gz,Option.some.injEq]at h;subst h;exact⟨[],rfl,by simp[LRel]⟩
 | x::r,vs,h=>by
  simp only[gz]at h;split at h
  ·rename_i v hv;split at h
   ·rename_i us hu;simp only[Option.some.injEq]at h;subst h;obtain⟨y,h1,h2⟩:=au hF hv;obtain⟨ys,h3,h4⟩:=qB hF hu;exact⟨y::ys,by simp only[zK,h1,h3],⟨y,ys,rfl,h2,h4⟩⟩
   ·cases h
  ·cases h
theorem tq(hF:FRel S w ρ a n F):∀{l:List (Nat×Operand)} {vs:List (Nat×V)},pY F l=some vs→∃ys,io (fA a) l=some ys∧lH S w ρ vs ys
 |[],vs,h=>by simp only[pY,Option.some.injEq]at h;subst h;exact⟨[],rfl,by simp[lH]⟩
 | (i,x)::r,vs,h=>by
  simp only[pY]at h;split at h
  ·rename_i v hv;split at h
   ·rename_i us hu;simp only[Option.some.injEq]at h;subst h;obtain⟨y,h1,h2⟩:=au hF hv;obtain⟨ys,h3,h4⟩:=tq hF hu;exact⟨(i,y)::ys,by simp only[io,h1,h3],⟨y,ys,rfl,h2,h4⟩⟩
   ·cases h
  ·cases h
end
def iEq:Int→Int→Bool
 |.ofNat a,.ofNat b=>Nat.beq a b
 |.negSucc a,.negSucc b=>Nat.beq a b
 |_,_=>false
def iLt:Int→Int→Bool
 |.ofNat a,.ofNat b=>Nat.blt a b
 |.negSucc a,.negSucc b=>Nat.blt b a
 |.negSucc _,.ofNat _=>true
 |.ofNat _,.negSucc _=>false
def inR:Int→Bool
 |.ofNat a=>Nat.ble a 9223372036854775807
 |.negSucc a=>Nat.ble a 9223372036854775807
def lEq:List UInt8→List UInt8→Bool
 |[],[]=>true
 |a::r,b::q=>match Nat.beq a.toNat b.toNat with
  |true=>lEq r q
  |false=>false
 |_,_=>false
def kEq:IntKind→IntKind→Bool
 |.i64,.i64=>true
 |.u8,.u8=>true
 |_,_=>false
theorem yN(m l:Int):iEq m l=(m==l):=by
 rw[Bool.eq_iff_iff];cases m<;>cases l<;>simp[iEq]<;>omega
theorem wN(m l:Int):iLt m l=decide (m<l):=by
 rw[Bool.eq_iff_iff];cases m<;>cases l<;>simp[iLt]<;>omega
theorem Pf{n:Int}(h:inR n=true):-9223372036854775808≤n∧n≤9223372036854775807:=by
 cases n with
 |ofNat a=>simp only[inR,Nat.ble_eq]at h;simp only[Int.ofNat_eq_natCast];omega
 |negSucc a=>simp only[inR,Nat.ble_eq]at h;omega
theorem xm:∀(m l:List UInt8),lEq m l=(m==l)
 |[],[]=>rfl
 |[],_::_=>rfl
 |_::_,[]=>rfl
 | a::r,b::q=>by
  simp only[lEq];split
  ·rename_i hb;have :a=b:=UInt8.toNat_inj.1 (Nat.eq_of_beq_eq_true hb);subst this;simp[xm r q]
  ·rename_i hb;have :a≠b:=λe=>by subst e;simp at hb
   simp[this]
theorem PZ{k k':IntKind}(h:kEq k k'=true):k=k':=by
 unfold kEq at h;split at h<;>first|rfl|cases h
def mkB(b:Bool):Option V:=match b with
 |true=>some (.bool true)
 |false=>some (.bool false)
theorem Ph(b:Bool):mkB b=some (.bool b):=by cases b<;>rfl
def sQ(f:Bool)(fast slow:Bool):Option V:=match f with
 |true=>mkB fast
 |false=>some (.bool slow)
theorem lO{f fast slow:Bool}{v:V}(G:fast=slow)(h:sQ f fast slow=some v):v=.bool slow:=by
 subst G;unfold sQ at h;split at h
 ·rw[Ph]at h;simpa using h.symm
 ·simpa using h.symm
def JV(f:Bool)(k:IntKind)(n:Int):Option V:=match f with
 |true=>match k with
  |.i64=>Jx n λn=>match inR n with
   |true=>some (.int .i64 n)
   |false=>none
  |_=>none
 |false=>some (.int k (k.wrap n))
theorem Hn{f:Bool}{k:IntKind}{n:Int}{v:V}(h:JV f k n=some v):v=.int k (k.wrap n):=by
 unfold JV at h;split at h
 ·split at h
  ·rw[Im]at h;split at h
   ·rename_i hr;have e:IntKind.i64.wrap n=n:=IntWalk.i64_in _ (by have :=Pf hr;omega);rw[e];simpa using h.symm
   ·cases h
  ·cases h
 ·simpa using h.symm
def Mx (T:Tab) (op:BinOp) (t:TypeId):V→V→Option V
 |.int k m,.int k' l=>match kEq k k' with
  |false=>none
  |true=>match op with
   |.eql=>sQ T.frc (iEq m l) (m==l)
   |.neq=>sQ T.frc (!iEq m l) (m !=l)
   |.lss=>sQ T.frc (iLt m l) (decide (m<l))
   |.gtr=>sQ T.frc (iLt l m) (decide (l<m))
   |.leq=>sQ T.frc (!iLt l m) (decide (m≤l))
   |.geq=>sQ T.frc (!iLt m l) (decide (l≤m))
   |.add=>JV T.frc k (m+l)
   |.sub=>JV T.frc k (m-l)
   |_=>none
 |.str m,.str l=>match op with
  |.eql=>sQ T.frc (lEq m l) (m==l)
  |.neq=>sQ T.frc (!lEq m l) (m !=l)
  |.add=>match T.frc with
   |true=>match Nat.ble (m.length+l.length) 9223372036854775807 with
    |true=>listK (m++l) λr=>some (.str r)
    |false=>none
   |false=>none
  |_=>none
 |.bool m,.bool l=>match T.ty t with
  |some ⟨_,_,_,.bool⟩=>match op with
   |.eql=>sQ T.frc (m==l) (m==l)
   |.neq=>sQ T.frc (m !=l) (m !=l)
   |_=>none
  |_=>none
 |_,_=>none
def atV:List V→Nat→Option V
 |[],_=>none
 |x::_,0=>some x
 |_::r,i+1=>atV r i
theorem pW:∀(l:List V) (i:Nat),atV l i=l[i]?
 |[],i=>by simp[atV]
 |x::r,0=>by simp[atV]
 |x::r,i+1=>by simp[atV,pW r i]
def atB:List UInt8→Nat→Option UInt8
 |[],_=>none
 |x::_,0=>some x
 |_::r,i+1=>atB r i
theorem Km:∀(l:List UInt8) (i:Nat),atB l i=l[i]?
 |[],i=>by simp[atB]
 |x::r,0=>by simp[atB]
 |x::r,i+1=>by simp[atB,Km r i]
def atF:List (Nat×Nat×Bool)→Nat→Option (Nat×Nat×Bool)
 |[],_=>none
 |x::_,0=>some x
 |_::r,i+1=>atF r i
theorem Ew:∀(l:List (Nat×Nat×Bool)) (i:Nat),atF l i=l[i]?
 |[],i=>by simp[atF]
 |x::r,0=>by simp[atF]
 |x::r,i+1=>by simp[atF,Ew r i]
def JX(T:Tab)(t:TypeId)(i:Nat):Option (Nat×Nat×Bool):=match T.ty t with
 |some ⟨_,_,_,.struct fs⟩=>atF fs i
 |_=>none
def zF:List V→Nat→List V
 |l,0=>l
 |[],_+1=>[]
 |_::r,i+1=>zF r i
theorem xo:∀(l:List V) (i:Nat),zF l i=l.drop i
 |[],0=>rfl
 |_::_,0=>rfl
 |[],i+1=>by simp[zF]
 |_::r,i+1=>by simp[zF,xo r i]
def yn{α:Type}:List V→Nat→(List V→Option α)→Option α
 |_,0,c=>c []
 |[],_+1,_=>none
 |x::r,i+1,c=>yn r i λG=>c (x::G)
theorem yd{α:Type}:∀{l:List V} {i:Nat} {c:List V→Option α} {v:α},yn l i c=some v→i≤l.length∧c (l.take i)=some v
 |l,0,c,v,h=>by simpa[yn]using h
 |[],i+1,c,v,h=>by simp[yn]at h
 |x::r,i+1,c,v,h=>by
  simp only[yn]at h;have :=yd h;simpa using this
def rh(d:TD)(cs:List V)(o:Nat):Option V:=match d.agg with
 |true=>match Nat.blt 0 d.size with
  |true=>yn (zF cs o) d.size λl=>some (.agg l)
  |false=>none
 |false=>atV cs o
def MS(f:Bool)(m l:Int):Option V:=match f with
 |true=>match iLt m l with
  |true=>some (.int .i64 l)
  |false=>some (.int .i64 m)
 |false=>some (.int .i64 (max m l))
theorem Pb{f:Bool}{m l:Int}{v:V}(h:MS f m l=some v):v=.int .i64 (max m l):=by
 unfold MS at h;split at h
 ·split at h
  ·rename_i hb;rw[wN]at hb;simp only[decide_eq_true_eq]at hb;injection h with h;rw[←h,Int.max_eq_right (by omega)]
  ·rename_i hb;rw[wN]at hb;simp only[decide_eq_false_iff_not]at hb;injection h with h;rw[←h,Int.max_eq_left (by omega)]
 ·injection h with h;exact h.symm
def rp (T:Tab) (h:Nat→Ob) (F:Fm) (op:Op):Option V:=
 match op with
 |.move x=>aM F x
 |.assign x=>aM F x
 |.pick c x y=>match aM F c with
  |some (.bool true)=>aM F x
  |some (.bool false)=>aM F y
  |_=>none
 |.nilCheck x=>match aM F x with
  |some (.ptr id o)=>some (.ptr id o)
  |some (.el id sz i o)=>some (.el id sz i o)
  |some (.box cs o)=>some (.box cs o)
  |_=>none
 |.extract x i=>match aM F x with
  |some (.tup vs)=>atV vs i
  |_=>none
 |.unOp .not _ x=>match aM F x with
  |some (.bool b)=>sQ T.frc (!b) (!b)
  |_=>none
 |.fieldAddr t x i=>match JX T t i with
  |some (k,_,_)=>match aM F x with
   |some (.ptr id o)=>jj (o+k) λr=>some (.ptr id r)
   |some (.el id sz j o)=>jj (o+k) λr=>some (.el id sz j r)
   |some (.box cs o)=>jj (o+k) λr=>some (.box cs r)
   |_=>none
  |none=>none
 |.field t x i=>match aM F x with
  |some (.agg cs)=>match JX T t i with
   |some (k,_,true)=>atV cs k
   |some (k,m,false)=>yn (zF cs k) m λl=>some (.agg l)
   |none=>none
  |_=>none
 |.binOp op t x y _=>match aM F x with
  |some a=>match aM F y with
   |some b=>Mx T op t a b
   |none=>none
  |none=>none
 |.call ⟨.builtin .len,⟨[x]⟩,⟨[t]⟩⟩=>match T.ty t with
  |some ⟨_,_,_,.sl _⟩=>match aM F x with
   |some .nils=>some (.int .i64 0)
   |some (.row _ els)=>match T.frc with
    |true=>jj els.length λn=>some (.int .i64 (.ofNat n))
    |false=>some (.int .i64 els.length)
   |some (.sl id)=>match h id with
    |.row _ _ els=>match T.frc with
     |true=>jj els.length λn=>some (.int .i64 (.ofNat n))
     |false=>some (.int .i64 els.length)
    |_=>none
   |_=>none
  |some ⟨_,_,_,.str⟩=>match aM F x with
   |some (.str l)=>match T.frc with
    |true=>jj l.length λn=>some (.int .i64 (.ofNat n))
    |false=>some (.int .i64 l.length)
   |_=>none
  |_=>none
 |.call ⟨.builtin .max,⟨[x,y]⟩,⟨[t,u]⟩⟩=>match aM F x with
  |some (.int .i64 m)=>match aM F y with
   |some (.int .i64 l)=>MS T.frc m l
   |_=>none
  |_=>none
 |.index t x y=>match T.ty t with
  |some ⟨_,_,_,.str⟩=>match aM F x with
   |some (.str l)=>match aM F y with
    |some (.int .i64 (.ofNat i))=>match atB l i with
     |some c=>jj c.toNat λc=>some (.int .u8 (.ofNat c))
     |none=>none
    |_=>none
   |_=>none
  |_=>none
 |.indexAddr t x y=>match T.ty t with
  |some ⟨_,_,_,.sl e⟩=>match T.ty e with
   |some d=>match aM F x with
    |some (.row sz els)=>match aM F y with
     |some (.int .i64 (.ofNat i))=>match Nat.beq sz d.size with
      |true=>match atV els i with
       |some v=>listK v.cells λcs=>some (.box cs 0)
       |none=>none
      |false=>none
     |_=>none
    |some (.sl id)=>match h id with
     |.row _ sz els=>match aM F y with
      |some (.int .i64 (.ofNat i))=>match Nat.beq sz d.size&&Nat.blt i els.length with
       |true=>some (.el id sz i 0)
       |false=>none
      |_=>none
     |_=>none
    |_=>none
   |none=>none
  |_=>none
 |.build t ⟨ps⟩=>match T.ty t with
  |some ⟨_,_,z,.struct fs⟩=>match pY F ps with
   |some vs=>match wc (λi=>match atF fs i with|some (o,s,_)=>some (o,s)|none=>none) z.cells vs with
    |some cs=>listK cs λcs=>some (.agg cs)
    |none=>none
   |none=>none
  |some ⟨_,_,z,.arr _ e⟩=>match T.ty e with
   |some d=>match pY F ps with
    |some vs=>match wc (λi=>some (i*d.size,d.size)) z.cells vs with
     |some cs=>listK cs λcs=>some (.agg cs)
     |none=>none
    |none=>none
   |none=>none
  |_=>none
 |.slice t x lo hi none=>match T.ty t with
  |some ⟨_,_,_,.str⟩=>match aM F x with
   |some (.str l)=>match(match lo with|none=>some (V.int .i64 (.ofNat 0))|some y=>aM F y)with
    |some (.int .i64 (.ofNat i))=>match(match hi with|none=>some (V.int .i64 (.ofNat l.length))|some y=>aM F y)with
     |some (.int .i64 (.ofNat j))=>match Nat.ble i j&&Nat.ble j l.length with
      |true=>listK ((l.drop i).take (j-i)) λr=>some (.str r)
      |false=>none
     |_=>none
    |_=>none
   |_=>none
  |some ⟨_,_,_,.sl e⟩=>match T.ty e with
   |some d=>match aM F x with
    |some (.row sz els)=>match(match lo with|none=>some (V.int .i64 (.ofNat 0))|some y=>aM F y)with
     |some (.int .i64 (.ofNat i))=>match(match hi with|none=>some (V.int .i64 (.ofNat els.length))|some y=>aM F y)with
      |some (.int .i64 (.ofNat j))=>match Nat.ble i j&&Nat.ble j els.length&&Nat.beq sz d.size with
       |true=>listK ((els.drop i).take (j-i)) λr=>some (.row sz r)
       |false=>none
      |_=>none
     |_=>none
    |_=>none
   |none=>none
  |_=>none
 |.load t x=>match aM F x with
  |some (.box cs o)=>match T.ty t with
   |some d=>rh d cs o
   |none=>none
  |_=>none
 |_=>none
section
variable{P:Program}{T:Tab}{S:Nat→Prop}{w:World}{ρ:Nat→Option Value}{h:Nat→Ob}{a:Act}{n:Nat}{F:Fm}{ty:TypeId}
theorem Rj{y:Operand}{k:IntKind}{m l:Int}(fr:Fr a n (fA a))(hx:Opd S w ρ a x (.int k m))(hy:Opd S w ρ a y (.int k l)):Yld P S w ρ a ty (.binOp .add t x y u) (.int k (k.wrap (m+l))):=
 ⟨.int k (k.wrap (m+l)),by simp only[VRel],λw' _ _ _ _ _=>by simp only[execOp,fr.eval (bu hx),fr.eval (bu hy)];simp[go_sem,eqGuard]⟩
theorem Qv{y:Operand}{k:IntKind}{m l:Int}(fr:Fr a n (fA a))(hx:Opd S w ρ a x (.int k m))(hy:Opd S w ρ a y (.int k l)):Yld P S w ρ a ty (.binOp .sub t x y u) (.int k (k.wrap (m-l))):=
 ⟨.int k (k.wrap (m-l)),by simp only[VRel],λw' _ _ _ _ _=>by simp only[execOp,fr.eval (bu hx),fr.eval (bu hy)];simp[go_sem,eqGuard]⟩
theorem KB(m l:List UInt8):(ByteArray.mk m.toArray++ByteArray.mk l.toArray)=⟨(m++l).toArray⟩:=by
 apply ByteArray.ext;simp[ByteArray.data_append]
theorem PP{y:Operand}{m:List UInt8}(fr:Fr a n (fA a))(hx:Opd S w ρ a x (.str m))(hy:Opd S w ρ a y (.str l))(G:m.length+l.length≤9223372036854775807):Yld P S w ρ a ty (.binOp .add t x y u) (.str (m++l)):=
 ⟨.string ⟨(m++l).toArray⟩,by simp only[VRel],λw' _ _ _ _ _=>by simp only[execOp,fr.eval (lV hx),fr.eval (lV hy)];simp[go_sem,eqGuard,KB,show¬9223372036854775807<m.length+l.length by omega]⟩
theorem OR(G:TabOk P T){op:BinOp}{y:Operand}{c d v:V}(fr:Fr a n (fA a))(hx:Opd S w ρ a x c)(hy:Opd S w ρ a y d)(hv:Mx T op t c d=some v):Yld P S w ρ a ty (.binOp op t x y u) v:=by
 unfold Mx at hv;split at hv
 ·split at hv
  ·cases hv
  ·rename_i J;have :=PZ J;subst this;split at hv
   ·rw[lO (yN _ _) hv];exact RA fr hx hy
   ·rw[lO (by rw[yN];rfl) hv];exact Rt fr hx hy
   ·rw[lO (wN _ _) hv];exact RQ fr hx hy
   ·rw[lO (wN _ _) hv];exact RJ fr hx hy
   ·rw[lO (by rw[wN,Bool.eq_iff_iff];simp) hv];exact RW fr hx hy
   ·rw[lO (by rw[wN,Bool.eq_iff_iff];simp) hv];exact Rx fr hx hy
   ·rw[Hn hv];exact Rj fr hx hy
   ·rw[Hn hv];exact Qv fr hx hy
   ·cases hv
 ·split at hv
  ·rw[lO (xm _ _) hv];exact RU fr hx hy
  ·rw[lO (by rw[xm];rfl) hv];exact RT fr hx hy
  ·split at hv
   ·split at hv
    ·rename_i hb;rw[dG]at hv;simp only[Option.some.injEq]at hv;subst hv;exact PP fr hx hy (by simpa using hb)
    ·cases hv
   ·cases hv
  ·cases hv
 ·split at hv
  ·rename_i O;have ht:=(G.ty _ _ O).bool rfl;split at hv
   ·rw[lO rfl hv];exact Sa fr ht hx hy
   ·rw[lO rfl hv];exact RN fr ht hx hy
   ·cases hv
  ·cases hv
 ·cases hv
theorem Ck(G:TabOk P T){o s:Nat}{b:Bool}(hf:JX T t i=some (o,s,b)):rv P t i=some o∧(b=true→uH P t i=some o)∧(b=false→uP P t i=some (o,s)):=by
 unfold JX at hf;split at hf
 ·rename_i J;rw[Ew]at hf;exact((G.ty _ _ J).fields rfl).2 i o s b hf
 ·cases hf
theorem ye (hT:TabOk P T) (hr:HRel S w ρ h) (hF:FRel S w ρ a n F) {op:Op} {v:V} (hv:rp T h F op=some v):Yld P S w ρ a ty op v:=by
 have fr:=hF.fr;unfold rp at hv;split at hv
 ·exact Pl fr (au hF hv)
 ·exact MR fr (au hF hv)
 ·split at hv
  ·exact On fr (au hF ‹_›) (au hF hv)
  ·exact Pa fr (au hF ‹_›) (au hF hv)
  ·cases hv
 ·split at hv
  ·injection hv with hv;subst hv;exact PE fr (au hF ‹_›)
  ·injection hv with hv;subst hv;exact Qf fr (au hF ‹_›)
  ·injection hv with hv;subst hv;exact PD fr (au hF ‹_›)
  ·cases hv
 ·split at hv
  ·rw[pW]at hv;exact Rw fr (au hF ‹_›) hv
  ·cases hv
 ·split at hv
  ·rw[lO rfl hv];exact RF fr (au hF ‹_›)
  ·cases hv
 ·split at hv
  ·rename_i hfl;have hfo:=(Ck hT hfl).1;split at hv
   ·rw[eU]at hv;injection hv with hv;subst hv;exact RD fr (au hF ‹_›) hfo
   ·rw[eU]at hv;injection hv with hv;subst hv;exact RG fr (au hF ‹_›) hfo
   ·rw[eU]at hv;injection hv with hv;subst hv;exact RY fr (au hF ‹_›) hfo
   ·cases hv
  ·cases hv
 ·split at hv
  ·split at hv
   ·rename_i hfl;rw[pW]at hv;exact SG fr (au hF ‹_›) ((Ck hT hfl).2.1 rfl) hv
   ·rename_i hfl;obtain⟨_,hv⟩:=yd hv;rw[xo]at hv;injection hv with hv;subst hv
    exact RK fr (au hF ‹_›) ((Ck hT hfl).2.2 rfl)
   ·cases hv
  ·cases hv
 ·split at hv
  ·split at hv
   ·exact OR hT fr (au hF ‹_›) (au hF ‹_›) hv
   ·cases hv
  ·cases hv
 ·split at hv
  ·rename_i hd;have ht:=(hT.ty _ _ hd).sl rfl;split at hv
   ·injection hv with hv;subst hv;exact QD fr ht (au hF ‹_›)
   ·split at hv
    ·rw[eU]at hv;injection hv with hv;subst hv;exact Ku fr ht (au hF ‹_›)
    ·injection hv with hv;subst hv;exact Ku fr ht (au hF ‹_›)
   ·split at hv
    ·split at hv
     ·rw[eU]at hv;injection hv with hv;subst hv;exact KP hr ‹_› fr ht (au hF ‹_›)
     ·injection hv with hv;subst hv;exact KP hr ‹_› fr ht (au hF ‹_›)
    ·cases hv
   ·cases hv
  ·rename_i hd;have ht:=(hT.ty _ _ hd).str rfl;split at hv
   ·split at hv
    ·rw[eU]at hv;injection hv with hv;subst hv;exact KV fr ht (au hF ‹_›)
    ·injection hv with hv;subst hv;exact KV fr ht (au hF ‹_›)
   ·cases hv
  ·cases hv
 ·split at hv
  ·split at hv
   ·rw[Pb hv];exact PM fr (au hF ‹_›) (au hF ‹_›)
   ·cases hv
  ·cases hv
 ·split at hv
  ·rename_i hd;have ht:=(hT.ty _ _ hd).str rfl;split at hv
   ·split at hv
    ·split at hv
     ·rename_i hb;rw[Km]at hb;rw[eU]at hv;injection hv with hv;subst hv
      exact p_idxS fr ht (au hF ‹_›) (au hF ‹_›) hb
     ·cases hv
    ·cases hv
   ·cases hv
  ·cases hv
 ·split at hv
  ·rename_i hd;have ht:=(hT.ty _ _ hd).sl rfl;split at hv
   ·rename_i d he;have hz:=(hT.ty _ _ he).size;split at hv
    ·split at hv
     ·split at hv
      ·rename_i hb;have :=Nat.eq_of_beq_eq_true hb;subst this;split at hv
       ·rename_i hi;rw[pW]at hi;rw[dG]at hv;injection hv with hv;subst hv
        exact p_idxR fr ht hz (au hF ‹_›) (au hF ‹_›) hi
       ·cases hv
      ·cases hv
     ·cases hv
    ·split at hv
     ·split at hv
      ·split at hv
       ·rename_i hb;simp only[Bool.and_eq_true,Nat.beq_eq,Nat.blt_eq]at hb;obtain⟨rfl,hlt⟩:=hb;injection hv with hv;subst hv
        exact p_idxO hr ‹_› fr ht hz (au hF ‹_›) (au hF ‹_›) hlt
       ·cases hv
      ·cases hv
     ·cases hv
    ·cases hv
   ·cases hv
  ·cases hv
 ·split at hv
  ·rename_i fs hd;have hf:=(hT.ty _ _ hd).fields rfl;obtain⟨z,hz1,hz2⟩:=(hT.ty _ _ hd).zeroT;split at hv
   ·rename_i vs hps;obtain⟨ys,g1,g2⟩:=tq hF hps;split at hv
    ·rename_i cs hfl;rw[dG]at hv;injection hv with hv;subst hv
     refine OC fr g1 g2 hz1 (hz2 _ _ _) hf.1 (λi p hp=>?_) hfl;rw[Ew]at hp;split at hp
     ·rename_i o s b hi;simp only[Option.some.injEq]at hp;subst hp;simp[hi]
     ·cases hp
    ·cases hv
   ·cases hv
  ·rename_i e hd;have ht:=(hT.ty _ _ hd).arr rfl;obtain⟨z,hz1,hz2⟩:=(hT.ty _ _ hd).zeroT;split at hv
   ·rename_i d he;have hz:=(hT.ty _ _ he).size;split at hv
    ·rename_i vs hps;obtain⟨ys,g1,g2⟩:=tq hF hps;split at hv
     ·rename_i cs hfl;rw[dG]at hv;injection hv with hv;subst hv
      exact LV fr g1 g2 hz1 (hz2 _ _ _) ht hz hfl
     ·cases hv
    ·cases hv
   ·cases hv
  ·cases hv
 ·rename_i t x lo hi;split at hv
  ·rename_i hd;have ht:=(hT.ty _ _ hd).str rfl;split at hv
   ·split at hv
    ·rename_i i hi1;split at hv
     ·rename_i j hj1;split at hv
      ·rename_i hb;simp only[Bool.and_eq_true,Nat.ble_eq]at hb;rw[dG]at hv;injection hv with hv;subst hv
       refine Nr fr ht (au hF ‹_›) ?_ ?_ hb.1 hb.2
       ·cases lo with
        |none=>injection hi1 with hi1;injection hi1 with _ hi1;injection hi1 with hi1;exact .inl ⟨rfl,hi1.symm⟩
        |some y=>exact .inr ⟨y,rfl,au hF hi1⟩
       ·cases hi with
        |none=>injection hj1 with hj1;injection hj1 with _ hj1;injection hj1 with hj1;exact .inl ⟨rfl,hj1.symm⟩
        |some y=>exact .inr ⟨y,rfl,au hF hj1⟩
      ·cases hv
     ·cases hv
    ·cases hv
   ·cases hv
  ·rename_i hd;have ht:=(hT.ty _ _ hd).sl rfl;split at hv
   ·rename_i d he;have hz:=(hT.ty _ _ he).size;split at hv
    ·split at hv
     ·rename_i i hi1;split at hv
      ·rename_i j hj1;split at hv
       ·rename_i hb;simp only[Bool.and_eq_true,Nat.ble_eq,Nat.beq_eq]at hb;obtain⟨⟨hb1,hb2⟩,rfl⟩:=hb;rw[dG]at hv;injection hv with hv;subst hv
        refine Nt fr ht hz (au hF ‹_›) ?_ ?_ hb1 hb2
        ·cases lo with
         |none=>injection hi1 with hi1;injection hi1 with _ hi1;injection hi1 with hi1;exact .inl ⟨rfl,hi1.symm⟩
         |some y=>exact .inr ⟨y,rfl,au hF hi1⟩
        ·cases hi with
         |none=>injection hj1 with hj1;injection hj1 with _ hj1;injection hj1 with hj1;exact .inl ⟨rfl,hj1.symm⟩
         |some y=>exact .inr ⟨y,rfl,au hF hj1⟩
       ·cases hv
      ·cases hv
     ·cases hv
    ·cases hv
   ·cases hv
  ·cases hv
 ·split at hv
  ·rename_i cs o hx;split at hv
   ·rename_i d hd;have td:=hT.ty _ _ hd;unfold rh at hv;split at hv
    ·rename_i ha;split at hv
     ·rename_i h0;obtain⟨hl,hv⟩:=yd hv;rw[xo]at hv hl;injection hv with hv;subst hv
      have h0':0<d.size:=by simpa using h0
      exact Mn fr (td.ag ha) (au hF hx) (by simp at hl;omega)
     ·cases hv
    ·rename_i ha;rw[pW]at hv;exact Of fr (td.sc ha) (au hF hx) hv
   ·cases hv
  ·cases hv
 ·cases hv
end
inductive ED where
 |nop
 |new (o:Ob)
 |set (id:Nat) (o:Ob)
 |repl (id:Nat) (o:Ob)
def ED.app(h:Nat→Ob)(nid:Nat):ED→Nat→Ob
 |.nop=>h
 |.new o=>co h nid o
 |.set id o=>co h id o
 |.repl id o=>co (co h id .gone) nid o
def ED.tch:ED→Nat→Prop
 |.nop,_=>False
 |.new _,_=>False
 |.set id _,i=>i=id
 |.repl id _,i=>i=id
def FN(h:Nat→Ob)(sz:Nat):V→Option (List V)
 |.nils=>some []
 |.row sz' els=>match Nat.beq sz sz' with
  |true=>some els
  |false=>none
 |.sl g=>match h g with
  |.row _ sz' els=>match Nat.beq sz sz' with
   |true=>some els
   |false=>none
  |_=>none
 |_=>none
def od (T :Tab) (h:Nat→Ob) (F:Fm) (nid:Nat) (op:Op):Option (Option V×ED):=
 match op with
 |.load t x=>match aM F x with
  |some (.ptr id o)=>match T.ty t with
   |some d=>match h id with
    |.var _ cs=>match rh d cs o with
     |some v=>some (some v,.nop)
     |none=>none
    |_=>none
   |none=>none
  |some (.el id sz i o)=>match T.ty t with
   |some d=>match h id with
    |.row _ sz' els=>match Nat.beq sz sz' with
     |true=>match atV els i with
      |some v0=>match rh d v0.cells o with
       |some v=>some (some v,.nop)
       |none=>none
      |none=>none
     |false=>none
    |_=>none
   |none=>none
  |_=>none
 |.alloc t=>match T.ty t with
  |some d=>listK d.zero.cells λcs=>some (some (.ptr nid 0),.new (.var t cs))
  |none=>none
 |.box t x=>match aM F x with
  |some v=>listK v.cells λcs=>some (some (.ptr nid 0),.new (.var t cs))
  |none=>none
 |.store t x y=>match T.ty t with
  |some d =>match aM F y with
   |some v =>match Nat.beq v.cells.length d.size&&v.cells.all V.one with
    |true =>match aM F x with
     |some (.ptr id o)=>match h id with
      |.var tb cs=>match Nat.ble (o+d.size) cs.length with
       |true=>listK (wd cs o v.cells) λcs=>some (none,.set id (.var tb cs))
       |false=>none
      |_=>none
     |some (.el id sz i o)=>match h id with
      |.row e sz' els=>match Nat.beq sz sz' with
       |true=>match atV els i with
        |some v0=>match Nat.ble (o+d.size) v0.cells.length with
         |true=>match v0 with
          |.agg cs=>listK (els.set i (V.over (.agg cs) o v.cells)) λels=>some (none,.set id (.row e sz els))
          |v0=>match v.one with
           |true=>listK (els.set i (v0.over o v.cells)) λels=>some (none,.set id (.row e sz els))
           |false=>none
         |false=>none
        |none=>none
       |false=>none
      |_=>none
     |_=>none
    |false=>none
   |none=>none
  |none=>none
 |.buildSlice t m ⟨ps⟩=>match T.ty t with
  |some ⟨_,_,_,.sl e⟩=>match T.ty e with
   |some d=>match pY F ps with
    |some vs=>match oH d.size 0 vs with
     |some els=>match Nat.beq els.length m&&Nat.ble (m*d.size) 16777216&&Nat.ble m 16777216 with
      |true=>jj d.size λsz=>some (some (.sl nid),.new (.row e sz els))
      |false=>none
     |none=>none
    |none=>none
   |none=>none
  |_=>none
 |.makeSlice t x y=>match T.ty t with
  |some ⟨_,_,_,.sl e⟩=>match T.ty e with
   |some d=>match aM F x with
    |some (.int .i64 (.ofNat m))=>match aM F y with
     |some (.int .i64 (.ofNat m'))=>match Nat.beq m m'&&Nat.ble (d.bytes*m) 1000000&&Nat.ble m 1000000&&Nat.blt 0 d.size with
      |true=>listK (List.replicate m d.zero) λels=>jj d.size λsz=>some (some (.sl nid),.new (.row e sz els))
      |false=>none
     |_=>none
    |_=>none
   |none=>none
  |_=>none
 |.call ⟨.builtin .append,⟨[x,y]⟩,⟨[t,t']⟩⟩=>match T.frc&&Nat.beq t t' with
  |true =>match T.ty t with
   |some ⟨_,_,_,.sl e⟩=>match T.ty e with
    |some d=>match aM F y with
     |some v=>match FN h d.size v with
      |some news=>match aM F x with
       |some .nils=>match Nat.ble news.length 100000&&Nat.ble d.bytes 100000&&Nat.blt 0 d.size with
        |true=>jj d.size λsz=>some (some (.sl nid),.new (.row e sz news))
        |false=>none
       |some (.sl id)=>match h id with
        |.row e' sz els=>match Nat.beq e e'&&Nat.beq sz d.size&&Nat.ble (els.length+news.length) 100000&&Nat.ble d.bytes 100000&&Nat.blt 0 d.size with
         |true=>listK (els++news) λels=>some (some (.sl nid),.repl id (.row e sz els))
         |false=>none
        |_=>none
       |_=>none
      |none=>none
     |none=>none
    |none=>none
   |_=>none
  |false=>none
 |.slice t x none (some y) none=>match T.ty t with
  |some ⟨_,_,_,.sl e⟩=>match T.ty e with
   |some d=>match aM F x with
    |some (.sl id)=>match h id with
     |.row e' sz els=>match aM F y with
      |some (.int .i64 (.ofNat k))=>match Nat.beq e e'&&Nat.beq sz d.size&&Nat.ble k els.length with
       |true=>listK (els.take k) λels=>some (some (.sl nid),.repl id (.row e sz els))
       |false=>none
      |_=>none
     |_=>none
    |_=>none
   |none=>none
  |_=>none
 |_=>none
variable{ed:ED}
section
variable{P:Program}{T:Tab}{S:Nat→Prop}{w:World}{ρ:Nat→Option Value}{h:Nat→Ob}{a:Act}{n:Nat}{F:Fm}{ty:TypeId}
theorem sK(td:TdOk P t d){o:Nat}{v:V}(hv:rh d cs o=some v):(gq P t=true∧cs[o]?=some v)∨(oe P t=some d.size∧o+d.size≤cs.length∧v=.agg ((cs.drop o).take d.size)):=by
 unfold rh at hv;split at hv
 ·rename_i G;split at hv
  ·rename_i O;obtain⟨J,hv⟩:=yd hv;rw[xo]at hv J;injection hv with hv;subst hv
   have U:0<d.size:=by simpa using O
   exact .inr ⟨td.ag G,by simp at J;omega,rfl⟩
  ·cases hv
 ·rename_i G;rw[pW]at hv;exact .inl ⟨td.sc G,hv⟩
theorem xu{v:V}(h:v.one=true):v.cells=[v]:=by cases v<;>first|rfl|cases h
theorem GZ(hr:HRel S w ρ h)(G:FRel S w ρ a n F){y:Operand}{v:V}{news:List V}(hy:aM F y=some v)(hs:FN h sz v=some news):∃u,aS (fA a) y=some u∧wL S w ρ sz news u:=by
 obtain⟨u,h1,h2⟩:=au G hy;refine⟨u,h1,?_⟩;unfold FN at hs;split at hs
 ·injection hs with hs;subst hs;exact LU h2
 ·split at hs
  ·rename_i hb;have :=Nat.eq_of_beq_eq_true hb;subst this;injection hs with hs;subst hs;exact Oa h2
  ·cases hs
 ·split at hs
  ·split at hs
   ·rename_i J _ hb;have :=Nat.eq_of_beq_eq_true hb;subst this;injection hs with hs;subst hs;exact NQ hr J h2
   ·cases hs
  ·cases hs
 ·cases hs
theorem zA (hT:TabOk P T) (hr:HRel S w ρ h) (hF:FRel S w ρ a n F) {nid:Nat} (hn:h nid=.free) {op:Op} {v:Option V} {ed:ED} (hv:od T h F nid op=some (v,ed)):Does P S w ρ h a ty op v (ed.app h nid) ed.tch:=by
 have fr:=hF.fr;unfold od at hv;split at hv
 ·split at hv
  ·split at hv
   ·rename_i d hd;split at hv
    ·rename_i ho;split at hv
     ·rename_i u hu;simp only[Option.some.injEq,Prod.mk.injEq]at hv;obtain⟨rfl,rfl⟩:=hv;rcases sK (hT.ty _ _ hd) hu with⟨h1,h2⟩|⟨h1,h2,rfl⟩
      ·exact PI hr fr (au hF ‹_›) ho h1 h2
      ·exact ON hr fr (au hF ‹_›) ho h1 h2
     ·cases hv
    ·cases hv
   ·cases hv
  ·split at hv
   ·rename_i d hd;split at hv
    ·rename_i ho;split at hv
     ·rename_i hb;have :=Nat.eq_of_beq_eq_true hb;subst this;split at hv
      ·rename_i v0 hi;rw[pW]at hi;split at hv
       ·rename_i u hu;simp only[Option.some.injEq,Prod.mk.injEq]at hv;obtain⟨rfl,rfl⟩:=hv;rcases sK (hT.ty _ _ hd) hu with⟨h1,h2⟩|⟨h1,h2,rfl⟩
        ·exact GT hr fr (au hF ‹_›) ho h1 hi h2
        ·exact Fu hr fr (au hF ‹_›) ho h1 hi h2
       ·cases hv
      ·cases hv
     ·cases hv
    ·cases hv
   ·cases hv
  ·cases hv
 ·split at hv
  ·rename_i d hd;rw[dG]at hv;simp only[Option.some.injEq,Prod.mk.injEq]at hv;obtain⟨rfl,rfl⟩:=hv;obtain⟨z,h1,h2⟩:=(hT.ty _ _ hd).zeroT;exact NF hr hn h1 h2
  ·cases hv
 ·split at hv
  ·rw[dG]at hv;simp only[Option.some.injEq,Prod.mk.injEq]at hv;obtain⟨rfl,rfl⟩:=hv;exact RR hr fr hn (au hF ‹_›)
  ·cases hv
 ·split at hv
  ·rename_i d hd;have hz:=(hT.ty _ _ hd).size;split at hv
   ·rename_i u hu;split at hv
    ·rename_i hb;simp only[Bool.and_eq_true,Nat.beq_eq]at hb;split at hv
     ·split at hv
      ·split at hv
       ·rename_i ho _ hle;rw[dG]at hv;simp only[Option.some.injEq,Prod.mk.injEq]at hv;obtain⟨rfl,rfl⟩:=hv;exact Oc hr fr (au hF ‹_›) (au hF hu) ho hz hb.1 hb.2 (Nat.le_of_ble_eq_true hle)
       ·cases hv
      ·cases hv
     ·split at hv
      ·rename_i ho;split at hv
       ·rename_i hq;have :=Nat.eq_of_beq_eq_true hq;subst this;split at hv
        ·rename_i v0 hi;rw[pW]at hi;split at hv
         ·rename_i hle;split at hv
          ·rename_i cs;rw[dG]at hv;simp only[Option.some.injEq,Prod.mk.injEq]at hv;obtain⟨rfl,rfl⟩:=hv;exact AQ hr fr (au hF ‹_›) (au hF hu) ho hz hi hb.1 hb.2 (Nat.le_of_ble_eq_true hle) (.inl ⟨cs,rfl⟩)
          ·rename_i hna;split at hv
           ·rename_i h1;rw[dG]at hv;simp only[Option.some.injEq,Prod.mk.injEq]at hv;obtain⟨rfl,rfl⟩:=hv;refine AQ hr fr (au hF ‹_›) (au hF hu) ho hz hi hb.1 hb.2 (Nat.le_of_ble_eq_true hle) (.inr ⟨?_,xu h1⟩);cases v0 with
            |agg cs=>exact absurd rfl (hna cs)
            |_=>rfl
           ·cases hv
         ·cases hv
        ·cases hv
       ·cases hv
      ·cases hv
     ·cases hv
    ·cases hv
   ·cases hv
  ·cases hv
 ·split at hv
  ·rename_i e ht;split at hv
   ·rename_i d hd;split at hv
    ·rename_i vs hps;split at hv
     ·rename_i els hrp;split at hv
      ·rename_i hb;simp only[Bool.and_eq_true,Nat.beq_eq]at hb;rw[eU]at hv;simp only[Option.some.injEq,Prod.mk.injEq]at hv;obtain⟨rfl,rfl⟩:=hv;obtain⟨ys,g1,g2⟩:=tq hF hps;obtain⟨z,h1,h2⟩:=(hT.ty _ _ hd).zeroT;exact Mb hr fr hn g1 g2 ((hT.ty _ _ ht).sl rfl) (hT.ty _ _ hd).size h1 hrp hb.1.1 hb.1.2 hb.2
      ·cases hv
     ·cases hv
    ·cases hv
   ·cases hv
  ·cases hv
 ·split at hv
  ·rename_i e ht;split at hv
   ·rename_i d hd;split at hv
    ·split at hv
     ·split at hv
      ·rename_i hb;simp only[Bool.and_eq_true,Nat.beq_eq,Nat.ble_eq,Nat.blt_eq]at hb;obtain⟨⟨⟨rfl,hb1⟩,hb2⟩,hb3⟩:=hb;rw[dG,eU]at hv;simp only[Option.some.injEq,Prod.mk.injEq]at hv;obtain⟨rfl,rfl⟩:=hv;obtain⟨z,h1,h2,h3,h4⟩:=(hT.ty _ _ hd).info;exact Ln hr fr hn (au hF ‹_›) (au hF ‹_›) ((hT.ty _ _ ht).sl rfl) h1 h3 hb3 h4 h2 (by omega) (by simp only[maxLen];omega)
      ·cases hv
     ·cases hv
    ·cases hv
   ·cases hv
  ·cases hv
 ·split at hv
  ·rename_i hb0;simp only[Bool.and_eq_true,Nat.beq_eq]at hb0;obtain⟨_,rfl⟩:=hb0;split at hv
   ·rename_i e ht;split at hv
    ·rename_i d hd;obtain⟨z,h1,h2,h3,h4⟩:=(hT.ty _ _ hd).info;split at hv
     ·rename_i u hu;split at hv
      ·rename_i news hs;obtain⟨y',g1,g2⟩:=GZ hr hF hu hs;split at hv
       ·split at hv
        ·rename_i hb;simp only[Bool.and_eq_true,Nat.ble_eq,Nat.blt_eq]at hb;obtain⟨⟨hb1,hb2⟩,hb3⟩:=hb;rw[eU]at hv;simp only[Option.some.injEq,Prod.mk.injEq]at hv;obtain⟨rfl,rfl⟩:=hv;refine KN hr fr hn g1 g2 ((hT.ty _ _ ht).sl rfl) h1 h3 hb3 (au hF ‹_›) (by simp only[maxLen];omega) ?_;exact Nat.le_trans (Nat.mul_le_mul hb1 hb2) (by decide)
        ·cases hv
       ·split at hv
        ·rename_i ho;split at hv
         ·rename_i hb;simp only[Bool.and_eq_true,Nat.ble_eq,Nat.blt_eq,Nat.beq_eq]at hb;obtain⟨⟨⟨⟨rfl,rfl⟩,hb1⟩,hb2⟩,hb3⟩:=hb;rw[dG]at hv;simp only[Option.some.injEq,Prod.mk.injEq]at hv;obtain⟨rfl,rfl⟩:=hv;refine Fn hr fr hn g1 g2 ((hT.ty _ _ ht).sl rfl) h1 h3 hb3 (au hF ‹_›) ho (by simp only[maxLen];omega) ?_;exact Nat.le_trans (Nat.mul_le_mul hb1 hb2) (by decide)
         ·cases hv
        ·cases hv
       ·cases hv
      ·cases hv
     ·cases hv
    ·cases hv
   ·cases hv
  ·cases hv
 ·split at hv
  ·rename_i e ht;split at hv
   ·rename_i d hd;split at hv
    ·split at hv
     ·rename_i ho;split at hv
      ·split at hv
       ·rename_i hb;simp only[Bool.and_eq_true,Nat.ble_eq,Nat.beq_eq]at hb;obtain⟨⟨rfl,rfl⟩,hb1⟩:=hb;rw[dG]at hv;simp only[Option.some.injEq,Prod.mk.injEq]at hv;obtain⟨rfl,rfl⟩:=hv;exact Ho hr fr hn (au hF ‹_›) (au hF ‹_›) ho ((hT.ty _ _ ht).sl rfl) (hT.ty _ _ hd).size hb1
       ·cases hv
      ·cases hv
     ·cases hv
    ·cases hv
   ·cases hv
  ·cases hv
 ·cases hv
def ED.ok(h:Nat→Ob):ED→Prop
 |.nop=>True
 |.new o=>True
 |.set id o=>h id≠.gone∧h id≠.free
 |.repl id o=>h id≠.gone∧h id≠.free
theorem vN{op:Op}{v:Option V}(hv:od T h F nid op=some (v,ed)):ed.ok h:=by
 unfold od at hv
 repeat' (split at hv)
 all_goals first
  |(cases hv;done)
  |(simp only[dG,eU,Option.some.injEq,Prod.mk.injEq]at hv;obtain⟨_,rfl⟩:=hv;first|exact trivial|(constructor<;>simp_all))
end
section
variable{P:Program}{ops:Array Oper}{Q:Exit→Act→World→Prop}{B S:World→Prop}
def wpB(P:Program)(ops:Array Oper)(Q:Exit→Act→World→Prop)(B S:World→Prop)(m:Nat):Nat→Array Bool→Act→World→Prop
 |0,listed,a,w=>Region.ready .any ops listed=[]∧Q .normal a w
 |fuel+1,listed,a,w=>
  (Region.ready .any ops listed=[]→Q .normal a w)∧
  ∀i∈Region.ready .any ops listed,wpOp P ops Q i (λa' w'=>B w'∧(S w'∨(listed.setIfInBounds i true).getD m false=true)∧wpB P ops Q B S m fuel (listed.setIfInBounds i true) a' w') a w
theorem Ca{m:Nat}:∀(fuel:Nat) (listed:Array Bool) (a:Act) (w:World),wpB P ops Q B S m fuel listed a w→wpAny P .any ops Q fuel listed a w
 |0,_,_,_,h=>h
 |fuel+1,_,_,_,h=>⟨h.1,λi hi=>wpOp_mono (λa' w' h'=>Ca fuel _ a' w' h'.2.2) (h.2 i hi)⟩
theorem Aq{B' S':World→Prop}{m:Nat}(G:∀w,B' w→B w)(J:∀w,B' w→S' w→S w):∀(fuel:Nat) (listed:Array Bool) (a:Act) (w:World),wpB P ops Q B' S' m fuel listed a w→wpB P ops Q B S m fuel listed a w
 |0,_,_,_,h=>h
 |fuel+1,_,_,_,h=>⟨h.1,λi hi=>wpOp_mono (λa' w' h'=>⟨G _ h'.1,h'.2.1.imp (J _ h'.1) id,Aq G J fuel _ a' w' h'.2.2⟩) (h.2 i hi)⟩
theorem wpB_pure {m:Nat} {i:Nat} {oi:Oper} {v:Value} (him:i≠m) (hi:ops[i]?=some oi) (hsel:∀(j:Nat) (o:Oper) cs b,ops[j]?=some o→o.op≠.select cs b)
    (hQ:∀c a w,Q (.panic c) (a.put oi.dst v) w→Q (.panic c) a w):
    ∀ (fuel:Nat) (listed:Array Bool) (a:Act) (w:World),
      (∀j oj,ops[j]?=some oj→j≠i→listed.getD j true=false→(∀e∈oj.after,Region.binds .any e=true→e.on≠i)→oi.apart ops oj=true)→
      i∈Region.ready .any ops listed→YieldsIf P ops B oi v a→B w→(S w∨listed.getD m false=true)→
      wpB P ops Q B S m fuel (listed.setIfInBounds i true) (a.put oi.dst v) w→wpB P ops Q B S m (fuel+1) listed a w:=by
  intro fuel
  induction fuel with
  | zero=>
    intro listed a w _ hr hy hB hS H;refine⟨λh=>(by rw[h]at hr;cases hr),λj hj=>?_⟩;by_cases hji:j=i
    ·subst hji;exact hy.wpOp hi hB ⟨hB,hS.imp id qo,H⟩
    · have :=ready_mono hj hji;rw[H.1]at this;cases this
  | succ fuel ih=>
    intro listed a w hfree hr hy hB hS H;refine⟨λh=>(by rw[h]at hr;cases hr),λj hj=>?_⟩;by_cases hji:j=i
    ·subst hji;exact hy.wpOp hi hB ⟨hB,hS.imp id qo,H⟩
    · have h1:=H.2 j (ready_mono hj hji);obtain⟨hjun,oj,hoj,hall⟩:=mem_ready.1 hj;have hnot:=CO (j:=j) hr hall;have h2:=wpOp_putIf hoj (hfree j oj hoj hji hjun hnot) (λcs b=>hsel i oi cs b hi) (λcs b=>hsel j oj cs b hoj) hQ hy h1;have hfree':∀k ok,ops[k]?=some ok→k≠i→(listed.setIfInBounds j true).getD k true=false→
          (∀e∈ok.after,Region.binds .any e=true→e.on≠i)→oi.apart ops ok=true:=λk ok hk hki hun hno=>by
        refine hfree k ok hk hki ?_ hno;by_cases hjk:j=k
        ·subst hjk;exact hjun
        ·rw[getD_set_ne true hjk]at hun;exact hun
      refine wpOp_mono (λa' w' h3=>?_) h2;have hS3:S w'∨(listed.setIfInBounds j true).getD m false=true:=h3.2.2.1.imp id λh=>by
        rw[Array.setIfInBounds_comm _ _ (λe=>hji e.symm),getD_set_ne false him]at h;exact h
      refine⟨h3.2.1,hS3,ih (listed.setIfInBounds j true) a' w' hfree' (ready_mono hr (Ne.symm hji)) h3.1 h3.2.1 hS3 ?_⟩;rw[Array.setIfInBounds_comm _ _ hji];exact h3.2.2.2
theorem Mq {m:Nat} {i:Nat} {oi:Oper} {v:Value} (him:i≠m) (hwt:zO .any ops m i=true) (hi:ops[i]?=some oi) (hsel:∀(j:Nat) (o:Oper) cs b,ops[j]?=some o→o.op≠.select cs b)
    (hQ:∀c a w,Q (.panic c) (a.put oi.dst v) w→Q (.panic c) a w):
    ∀ (fuel:Nat) (listed:Array Bool) (a:Act) (w:World),
      (∀j oj,ops[j]?=some oj→j≠i→listed.getD j true=false→(∀e∈oj.after,Region.binds .any e=true→e.on≠i)→oi.apart ops oj=true)→
      i∈Region.ready .any ops listed→YieldsIf P ops (λw=>B w∧S w) oi v a→B w→S w→listed.getD m false=false→
      wpB P ops Q B S m fuel (listed.setIfInBounds i true) (a.put oi.dst v) w→wpB P ops Q B S m (fuel+1) listed a w:=by
  intro fuel
  induction fuel with
  | zero=>
    intro listed a w _ hr hy hB hS _ H;refine⟨λh=>(by rw[h]at hr;cases hr),λj hj=>?_⟩;by_cases hji:j=i
    ·subst hji;exact hy.wpOp hi ⟨hB,hS⟩ ⟨hB,.inl hS,H⟩
    · have :=ready_mono hj hji;rw[H.1]at this;cases this
  | succ fuel ih=>
    intro listed a w hfree hr hy hB hS hlm H;refine⟨λh=>(by rw[h]at hr;cases hr),λj hj=>?_⟩;by_cases hji:j=i
    ·subst hji;exact hy.wpOp hi ⟨hB,hS⟩ ⟨hB,.inl hS,H⟩
    · have h1:=H.2 j (ready_mono hj hji);obtain⟨hjun,oj,hoj,hall⟩:=mem_ready.1 hj;have hnot:=CO (j:=j) hr hall;have hjm:j≠m:=by
        rintro rfl;unfold zO at hwt;rw[hoj]at hwt;obtain⟨e,he,hb⟩:=Array.any_eq_true'.1 hwt;simp only[Bool.and_eq_true,beq_iff_eq]at hb;exact hnot e he hb.1 hb.2
      have h2:=wpOp_putIf hoj (hfree j oj hoj hji hjun hnot) (λcs b=>hsel i oi cs b hi) (λcs b=>hsel j oj cs b hoj) hQ hy h1;have hfree':∀k ok,ops[k]?=some ok→k≠i→(listed.setIfInBounds j true).getD k true=false→
          (∀e∈ok.after,Region.binds .any e=true→e.on≠i)→oi.apart ops ok=true:=λk ok hk hki hun hno=>by
        refine hfree k ok hk hki ?_ hno;by_cases hjk:j=k
        ·subst hjk;exact hjun
        ·rw[getD_set_ne true hjk]at hun;exact hun
      refine wpOp_mono (λa' w' h3=>?_) h2;have hlm':(listed.setIfInBounds j true).getD m false=false:=by rw[getD_set_ne false hjm];exact hlm
      have hS':S w':=by
        rcases h3.2.2.1 with h|h
        ·exact h
        · rw[Array.setIfInBounds_comm _ _ (λe=>hji e.symm),getD_set_ne false him,hlm']at h;cases h
      refine⟨h3.2.1,.inl hS',ih (listed.setIfInBounds j true) a' w' hfree' (ready_mono hr (Ne.symm hji)) h3.1 h3.2.1 hS' hlm' ?_⟩;rw[Array.setIfInBounds_comm _ _ hji];exact h3.2.2.2
end
inductive EI where
 |seq (c:Code)
 |blk (id:Nat)
 |loop (c:Code) (j:Nat)
 |scp
inductive EP where
 |code (c:Code)
 |ops (all:Array Oper) (rest:List Oper)
 |ex (e:Exit)
 |drw (all:Array Oper) (L:List Nat) (m left:Nat) (listed:Array Bool)
def eW(P:Program)(Q:Exit→Act→World→Prop):List EI→Exit→Act→World→Prop
 |[]=>Q
 |.seq c::s=>Exit.then (c.wp P (eW P Q s)) (eW P Q s)
 |.blk id::s=>Exit.inBlock id (eW P Q s)
 |.loop c j::s=>Exit.then (Code.rounds P c (eW P Q s) j) (eW P Q s)
 |.scp::s=>Exit.noGoto (eW P Q s)
def zu:Value→Option Nat
 |.pointer (some a)=>some a.block
 |.slice (some a) _ _=>some a.block
 |_=>none
def Ls(ρ:Nat→Option Value)(L:List Nat)(w w':World):Prop:=∀id,id∈L→∀x b,ρ id=some x→zu x=some b→w'.heap[b]?=w.heap[b]?
def EP.wp(P:Program)(Q:Exit→Act→World→Prop)(p:EP)(s:List EI)(S:Nat→Prop)(w:World)(ρ:Nat→Option Value)(a:Act):Prop:=
 match p with
 |.code c=>c.wp P (eW P Q s) a w
 |.ops all rest=>wpList P all (eW P Q s) rest a w
 |.ex e=>eW P Q s e a w
 |.drw all L m left listed=>Region.noSelect all=true→wpB P all (NoPanic (eW P Q s)) (Agree S w) (Ls ρ L w) m left listed a w
structure Hp where
 nx:Nat
 es:List (Nat×Ob)
def aE:List (Nat×Ob)→Nat→Ob
 |[],_=>.gone
 |(i,o)::r,j=>match Nat.beq i j with
  |true=>o
  |false=>aE r j
def Hp.get(H:Hp)(i:Nat):Ob:=match Nat.blt i H.nx with
 |true=>aE H.es i
 |false=>.free
def JF{α:Type}(id:Nat)(o:Ob):List (Nat×Ob)→(List (Nat×Ob)→α)→α
 |[],c=>c []
 |(i,p)::r,c=>match Nat.beq i id with
  |true=>c ((i,o)::r)
  |false=>JF id o r λG=>c ((i,p)::G)
def Cf{α:Type}(id:Nat):List (Nat×Ob)→(List (Nat×Ob)→α)→α
 |[],c=>c []
 |(i,p)::r,c=>match Nat.beq i id with
  |true=>Cf id r c
  |false=>Cf id r λG=>c ((i,p)::G)
def Hp.ap(H:Hp)(e:ED)(c:Hp→α):α:=match e with
 |.nop=>c H
 |.new o=>jj H.nx λk=>jj (k+1) λn=>c ⟨n,(k,o)::H.es⟩
 |.set id o=>JF id o H.es λes=>jj H.nx λk=>c ⟨k,es⟩
 |.repl id o=>Cf id H.es λes=>jj H.nx λk=>jj (k+1) λn=>c ⟨n,(k,o)::es⟩
def vW(id:Nat)(o:Ob):List (Nat×Ob)→List (Nat×Ob)
 |[]=>[]
 |(i,p)::r=>match Nat.beq i id with
  |true=>(i,o)::r
  |false=>(i,p)::vW id o r
def sU(id:Nat):List (Nat×Ob)→List (Nat×Ob)
 |[]=>[]
 |(i,p)::r=>match Nat.beq i id with
  |true=>sU id r
  |false=>(i,p)::sU id r
theorem Hc{α:Type}{id:Nat}{o:Ob}:∀(l:List (Nat×Ob)) (c:List (Nat×Ob)→α),JF id o l c=c (vW id o l)
 |[],c=>rfl
 |(i,p)::r,c=>by
  simp only[JF,vW];split
  ·rfl
  ·rw[Hc r]
theorem zz{α:Type}{id:Nat}:∀(l:List (Nat×Ob)) (c:List (Nat×Ob)→α),Cf id l c=c (sU id l)
 |[],c=>rfl
 |(i,p)::r,c=>by
  simp only[Cf,sU];split
  ·rw[zz r]
  ·rw[zz r]
theorem nbF{a:Nat}(h:a≠b):Nat.beq a b=false:=by
 cases hb:Nat.beq a b
 ·rfl
 ·exact absurd (Nat.eq_of_beq_eq_true hb) h
theorem nbT(a:Nat):Nat.beq a a=true:=by simp
theorem nlT{a:Nat}(h:a<b):Nat.blt a b=true:=by simpa[Nat.blt_eq]using h
theorem Am{id i:Nat}{o:Ob}(hi:i≠id):∀{l:List (Nat×Ob)},aE (vW id o l) i=aE l i
 |[]=>rfl
 | (j,p)::r=>by
  simp only[vW];split
  ·rename_i hb;have e1:=Nat.eq_of_beq_eq_true hb;subst e1;simp only[aE,nbF (Ne.symm hi)]
  ·simp only[aE];rw[Am hi]
theorem yw{id:Nat}{o:Ob}:∀{l:List (Nat×Ob)},aE l id≠.gone→aE (vW id o l) id=o
 |[],h=>absurd rfl h
 | (j,p)::r,h=>by
  simp only[vW];split
  ·rename_i hb;simp only[aE,hb]
  ·rename_i hb;simp only[aE,hb]at h⊢;exact yw h
theorem sJ{id i:Nat}:∀{l:List (Nat×Ob)},aE (sU id l) i=if i=id then .gone else aE l i
 |[]=>by simp[aE,sU]
 | (j,p)::r=>by
  simp only[sU,aE];split
  ·rename_i hb;have e1:=Nat.eq_of_beq_eq_true hb;subst e1;rw[sJ];by_cases hi:i=j
   ·simp[hi]
   ·simp[hi,nbF (Ne.symm hi)]
  ·rename_i hb;have hne:=Nat.ne_of_beq_eq_false hb;simp only[aE];split
   ·rename_i hb2;have e2:=Nat.eq_of_beq_eq_true hb2;subst e2;rw[if_neg hne]
   ·exact sJ
def Hp.app(H:Hp):ED→Hp
 |.nop=>H
 |.new o=>⟨H.nx+1,(H.nx,o)::H.es⟩
 |.set id o=>⟨H.nx,vW id o H.es⟩
 |.repl id o=>⟨H.nx+1,(H.nx,o)::sU id H.es⟩
theorem Hp.ap_eq(H:Hp)(e:ED)(c:Hp→α):H.ap e c=c (H.app e):=by
 cases e<;>simp[Hp.ap,Hp.app,eU,Hc,zz]
theorem Hp.get_free(H:Hp):H.get H.nx=.free:=by
 unfold Hp.get;have :Nat.blt H.nx H.nx=false:=by simp[Bool.eq_false_iff]
 rw[this]
theorem Hp.get_app{H:Hp}{e:ED}(he:e.ok H.get):(H.app e).get=e.app H.get H.nx:=by
 funext i
 cases e with
 |nop=>rfl
 | new o=>
  simp only[Hp.app,ED.app];by_cases hi:i=H.nx
  ·subst hi;rw[bO];simp only[Hp.get,aE,nlT (Nat.lt_succ_self H.nx),nbT]
  ·rw[dj _ _ hi];have hb:Nat.beq H.nx i=false:=nbF (Ne.symm hi);have :Nat.blt i (H.nx+1)=Nat.blt i H.nx:=by rw[Bool.eq_iff_iff];simp[Nat.blt_eq];omega
   simp[Hp.get,aE,hb,this]
 | set id o=>
  simp only[Hp.app,ED.app];have h1:aE H.es id≠.gone:=by
   have :=he.1;unfold Hp.get at this;split at this
   ·exact this
   ·rename_i hc;exact absurd (by unfold Hp.get;rw[hc]) he.2
  by_cases hi:i=id
  ·subst hi;rw[bO];have h2:=he.2;unfold Hp.get at h2⊢;split at h2
   ·rename_i hc;simp only[hc];exact yw h1
   ·exact absurd rfl h2
  ·rw[dj _ _ hi];unfold Hp.get;simp only[];rw[Am hi]
 | repl id o=>
  simp only[Hp.app,ED.app];have hid:id<H.nx:=by
   have h2:=he.2;unfold Hp.get at h2;split at h2
   ·rename_i hc;simpa[Nat.blt_eq]using hc
   ·exact absurd rfl h2
  by_cases hi:i=H.nx
  ·subst hi;rw[bO];simp only[Hp.get,aE,nlT (Nat.lt_succ_self H.nx),nbT]
  ·rw[dj _ _ hi];have hb:Nat.beq H.nx i=false:=nbF (Ne.symm hi);have hlt:Nat.blt i (H.nx+1)=Nat.blt i H.nx:=by rw[Bool.eq_iff_iff];simp[Nat.blt_eq];omega
   by_cases hii:i=id
   ·subst hii;rw[bO];have :Nat.blt i H.nx=true:=by simpa[Nat.blt_eq]using hid
    simp[Hp.get,aE,hb,hlt,this,sJ]
   ·rw[dj _ _ hii];simp[Hp.get,aE,hb,hlt,sJ,hii]
theorem FV(a b:List (Nat×Ob))(i:Nat):aE (a++b) i=aE a i∨(aE a i=.gone∧aE (a++b) i=aE b i):=by
 induction a with
 |nil=>exact .inr ⟨rfl,rfl⟩
 |cons p r ih=>
  obtain⟨j,o⟩:=p;simp only[List.cons_append,aE];split
  ·exact .inl rfl
  ·exact ih
structure Ctx where
 w0:World
 S0:Nat→Prop
 X0:Nat→Prop
 pin:Nat→Option Value
structure Inv (K:Ctx) (S:Nat→Prop) (w:World) (ρ:Nat→Option Value) (h:Nat→Ob):Prop where
 chg:ChgP K.X0 K.w0 w
 s0:∀b,K.S0 b→S b
 s1:∀b,S b→K.S0 b∨K.X0 b∨K.w0.heap.size≤b
 ow:∀id b,own ρ id (h id) b→K.X0 b∨K.w0.heap.size≤b
 pin:∀id x,K.pin id=some x→ρ id=some x
section
variable{P:Program}{T:Tab}{K:Ctx}{S S':Nat→Prop}{w w':World}{ρ ρ':Nat→Option Value}{h h':Nat→Ob}{a:Act}{n:Nat}{F:Fm}{X:Nat→Prop}
theorem Inv.eff(hi:Inv K S w ρ h)(G:Eff S w w' ρ ρ' h h' X):Inv K S w' ρ' h':=
 ⟨hi.chg.trans G.chg (λb ⟨id,_,hb⟩=>hi.ow id b hb),hi.s0,hi.s1,λid b hb=>by
  rcases G.new id b hb with⟨j,J⟩|J
  ·exact hi.ow j b J
  ·exact .inr (Nat.le_trans hi.chg.size J),λid x hx=>G.up.r _ _ (hi.pin id x hx)⟩
theorem Inv.frz(hr:HRel S w ρ h)(hi:Inv K S w ρ h)(id:Nat):Inv K (λb=>S b∨own ρ id (h id) b) w ρ (co h id .gone):=
 ⟨hi.chg,λb hb=>.inl (hi.s0 b hb),λb hb=>by
  rcases hb with hb|hb
  ·exact hi.s1 b hb
  ·exact .inr (hi.ow id b hb),λi b hb=>by
  by_cases G:i=id
  ·subst G;rw[bO]at hb;exact hb.elim
  ·rw[dj _ _ G]at hb;exact hi.ow i b hb,hi.pin⟩
theorem HRel.chg0(hr:HRel S w ρ h)(G:Chg [] w w'):HRel S w' ρ h:=by
 have up:Up S S w w' ρ ρ:=⟨λ_ h=>h,λb _ hb=>G.block b hb (by simp),λ_ _ h=>h⟩;refine⟨λi=>(hr.ob i).up up (λhf=>?_) (λb hb=>G.block b (gU (hr.ob i) hb) (by simp)),hr.sep,hr.dis,hr.slt.up up λb hb=>Nat.lt_of_lt_of_le (hr.slt b hb) G.size⟩;have :=hr.ob i;rw[hf]at this;exact this
theorem Up.chg0(G:Chg [] w w'):Up S S w w' ρ ρ:=⟨λ_ h=>h,λb _ hb=>G.block b hb (by simp),λ_ _ h=>h⟩
theorem Inv.chg0(hi:Inv K S w ρ h)(G:Chg [] w w'):Inv K S w' ρ h:=⟨hi.chg.trans (ChgP.of G) (λb hb=>by simp at hb),hi.s0,hi.s1,hi.ow,hi.pin⟩
theorem HRel.drop(hr:HRel S w ρ h)(O:∀i,h' i=h i∨h' i=.gone):HRel S w ρ h':=by
 have back:∀i b,own ρ i (h' i) b→own ρ i (h i) b:=λi b hb=>by
  rcases O i with e|e
  ·rw[e]at hb;exact hb
  ·rw[e]at hb;exact hb.elim
 refine⟨λi=>?_,λi b hb=>hr.sep i b (back i b hb),λi j b G J=>hr.dis i j b (back i b G) (back j b J),hr.slt⟩;rcases O i with e|e
 ·rw[e];exact hr.ob i
 ·rw[e];trivial
theorem Inv.drop(hi:Inv K S w ρ h)(G:∀i,h' i=h i∨h' i=.gone):Inv K S w ρ h':=
 ⟨hi.chg,hi.s0,hi.s1,λi b hb=>by
  rcases G i with e|e
  ·rw[e]at hb;exact hi.ow i b hb
  ·rw[e]at hb;exact hb.elim,hi.pin⟩
theorem Agree.refl:Agree S w w:=λ_ _=>rfl
theorem uQ(hr:HRel S w ρ h)(G:Eff S w w' ρ ρ' h h' X):Agree S w w':=λb hb=>G.up.blk b hb (hr.slt b hb)
def bA(F:Fm)(all:Array Oper)(g:Option (Nat×Bool)):Option Bool:=match g with
 |none=>some true
 |some (j,b)=>match(all[j]?).bind (·.dst)with
  |some d=>match F.get d with
   |some (.bool true)=>some b
   |some (.bool false)=>some (!b)
   |some (.tup _)=>some false
   |_=>none
  |none=>none
theorem cD(J:FRel S w ρ a n F){all:Array Oper}{o:Oper}{c:Bool}(G:bA F all o.guard=some c):Region.wanted o (yielded all a.tmps)=c:=by
 unfold bA at G;split at G
 ·rename_i O;injection G with G;subst G
  exact CE J.fr (by rw[O];rfl)
 ·rename_i j b O;split at G
  ·rename_i d U;split at G
   ·rename_i hv;obtain⟨x,h1,h2⟩:=J.get d _ hv;simp only[VRel]at h2;subst h2;injection G with G;subst G
    cases b
    ·exact Cv J.fr (by rw[O];simp only[Bn,uL,U];simp[fA,h1])
    ·exact CE J.fr (by rw[O];simp only[DL,uL,U];simp[fA,h1])
   ·rename_i hv;obtain⟨x,h1,h2⟩:=J.get d _ hv;simp only[VRel]at h2;subst h2;injection G with G;subst G
    cases b
    ·exact CE J.fr (by rw[O];simp only[DL,uL,U];simp[fA,h1])
    ·exact Cv J.fr (by rw[O];simp only[Bn,uL,U];simp[fA,h1])
   ·rename_i hv;obtain⟨x,h1,h2⟩:=J.get d _ hv;simp only[VRel]at h2;obtain⟨xs,rfl,_⟩:=h2;injection G with G;subst G
    exact Cv J.fr (by rw[O];simp only[Bn,uL,U];simp[fA,h1])
   ·cases G
  ·cases G
end
def Go(P:Program)(K:Ctx)(Q:Exit→Act→World→Prop)(p:EP)(s:List EI)(n:Nat)(F:Fm)(H:Hp):Prop:=
 ∀S w ρ a,HRel S w ρ H.get→Inv K S w ρ H.get→FRel S w ρ a n F→EP.wp P Q p s S w ρ a
def CallR (P:Program) (K:Ctx) (fid:FuncId) (vs:List V) (H:Hp) (L:List Nat) (Post:V→Hp→Prop):Prop:=
  ∀ S w ρ xs,HRel S w ρ H.get→Inv K S w ρ H.get→LRel S w ρ vs xs→Calls P fid xs.toArray w λe w'=>
    ∃x S' ρ' v H',e=.returned x∧Post v H'∧HRel S' w' ρ' H'.get∧Inv K S' w' ρ' H'.get∧Up S S' w w' ρ ρ'∧VRel S' w' ρ' v x∧Ls ρ L w w'
def Gg(v:Option V):Option V:=match v with
 |some v=>some v
 |none=>some (.tup [])
variable{a:Act}
variable{fid:FuncId}
section
variable{P:Program}{T:Tab}{K:Ctx}{Q:Exit→Act→World→Prop}{s:List EI}{n:Nat}{F:Fm}{H:Hp}
theorem yb{w:World}:VRel S w ρ (.tup []) undef:=by
 simp only[VRel];exact⟨[],rfl,by simp[LRel]⟩
theorem uS{w:World}(J:FRel S w ρ a n F)(d:Option Tmp):FRel S w ρ (a.put d undef) n (F.seto d (some (.tup []))):=
 J.set d (λu G=>by injection G with G;subst G;exact yb)
theorem df{w:World}{v:V}{x:Value}(J:FRel S w ρ a n F)(d:Option Tmp)(hx:VRel S w ρ v x):FRel S w ρ (a.put d x) n (F.seto d (some v)):=
 J.set d (λu G=>by injection G with G;subst G;exact hx)
theorem Kb{x y:Code}(k:Go P K Q (.code x) (.seq y::s) n F H):Go P K Q (.code (.seq x y)) s n F H:=λS w ρ a hr hi G=>wp_seq (k S w ρ a hr hi G)
theorem Ea{id:Nat}{c:Code}(k:Go P K Q (.code c) (.blk id::s) n F H):Go P K Q (.code (.block id c)) s n F H:=λS w ρ a hr hi G=>wp_block (k S w ρ a hr hi G)
theorem GX(k:Go P K Q (.ex .normal) s n F H):Go P K Q (.code .skip) s n F H:=λS w ρ a hr hi G=>wp_skip (k S w ρ a hr hi G)
theorem go_ret(k:Go P K Q (.ex .ret) s n F H):Go P K Q (.code .ret) s n F H:=λS w ρ a hr hi G=>wp_ret (k S w ρ a hr hi G)
theorem Hv{id:Nat}(k:Go P K Q (.ex (.exit id)) s n F H):Go P K Q (.code (.exit id)) s n F H:=λS w ρ a hr hi G=>wp_exit (k S w ρ a hr hi G)
theorem Mm{l:Nat}(k:Go P K Q (.ex .normal) s n F H):Go P K Q (.code (.label l)) s n F H:=λS w ρ a hr hi G=>wp_label (k S w ρ a hr hi G)
theorem Mc{c:Code}(k:Go P K Q (.code c) (.scp::s) n F H):Go P K Q (.code (.scope c)) s n F H:=λS w ρ a hr hi G=>wp_scope_straight (k S w ρ a hr hi G)
theorem go_loop{c:Code}(j:Nat)(k:Go P K Q (.code c) (.loop c j::s) n F H):Go P K Q (.code (.loop c)) s n F H:=λS w ρ a hr hi hF=>wp_loop_rounds (j+1) (k S w ρ a hr hi hF)
theorem Gn{c:Operand}{x y:Code}(J:aM F c=some (.bool true))(k:Go P K Q (.code x) s n F H):Go P K Q (.code (.cond c x y)) s n F H:=λS w ρ a hr hi G=>Mg G.fr (sS (au G J)) (k S w ρ a hr hi G)
theorem EU{c:Operand}{x y:Code}(J:aM F c=some (.bool false))(k:Go P K Q (.code y) s n F H):Go P K Q (.code (.cond c x y)) s n F H:=λS w ρ a hr hi G=>MA G.fr (sS (au G J)) (k S w ρ a hr hi G)
theorem CM{id:Nat}{l:List Oper}(k:Go P K Q (.ops l.toArray l) s n F H):Go P K Q (.code (.region id l.toArray false)) s n F H:=λS w ρ a hr hi G=>wp_region_lit (k S w ρ a hr hi G)
theorem Lb{all:Array Oper}(k:Go P K Q (.ex .normal) s n F H):Go P K Q (.ops all []) s n F H:=λS w ρ a hr hi G=>k S w ρ a hr hi G
theorem Ie{c:Code}(k:Go P K Q (.code c) s n F H):Go P K Q (.ex .normal) (.seq c::s) n F H:=k
theorem FX{c:Code}(k:Go P K Q (.ex (.exit i)) s n F H):Go P K Q (.ex (.exit i)) (.seq c::s) n F H:=k
theorem FP{c:Code}(k:Go P K Q (.ex .ret) s n F H):Go P K Q (.ex .ret) (.seq c::s) n F H:=k
theorem go_xloop{c:Code}(k:Go P K Q (.code c) (.loop c j::s) n F H):Go P K Q (.ex .normal) (.loop c (j+1)::s) n F H:=λS w ρ a hr hi G=>k S w ρ a hr hi G
theorem go_xloopE{c:Code}(k:Go P K Q (.ex (.exit i)) s n F H):Go P K Q (.ex (.exit i)) (.loop c j::s) n F H:=k
theorem go_xloopR{c:Code}(k:Go P K Q (.ex .ret) s n F H):Go P K Q (.ex .ret) (.loop c j::s) n F H:=k
theorem Fs{id:Nat}(k:Go P K Q (.ex .normal) s n F H):Go P K Q (.ex .normal) (.blk id::s) n F H:=k
theorem Gl{id:Nat}(k:Go P K Q (.ex .ret) s n F H):Go P K Q (.ex .ret) (.blk id::s) n F H:=k
theorem Fp{id:Nat}(hb:Nat.beq i id=true)(k:Go P K Q (.ex .normal) s n F H):Go P K Q (.ex (.exit i)) (.blk id::s) n F H:=λS w ρ a hr hi G=>by
 have :=Nat.eq_of_beq_eq_true hb;subst this;simp only[EP.wp,eW,Exit.inBlock,if_true];exact k S w ρ a hr hi G
theorem DZ{id:Nat}(hb:Nat.beq i id=false)(k:Go P K Q (.ex (.exit i)) s n F H):Go P K Q (.ex (.exit i)) (.blk id::s) n F H:=λS w ρ a hr hi G=>by
 simp only[EP.wp,eW,Exit.inBlock,if_neg (Nat.ne_of_beq_eq_false hb)];exact k S w ρ a hr hi G
theorem LO(k:Go P K Q (.ex .normal) s n F H):Go P K Q (.ex .normal) (.scp::s) n F H:=k
theorem LS(k:Go P K Q (.ex (.exit i)) s n F H):Go P K Q (.ex (.exit i)) (.scp::s) n F H:=k
theorem LW(k:Go P K Q (.ex .ret) s n F H):Go P K Q (.ex .ret) (.scp::s) n F H:=k
variable{all:Array Oper}{rest:List Oper}{o:Oper}
theorem Li(J:bA F all o.guard=some false)(k:Go P K Q (.ops all rest) s n (F.seto o.dst (some (.tup []))) H):Go P K Q (.ops all (o::rest)) s n F H:=λS w ρ a hr hi G=>by
 show wpList P all (eW P Q s) (o::rest) a w;unfold wpList;rw[cD G J];simp only[Bool.false_eq_true,if_false];exact k S w ρ _ hr hi (uS G o.dst)
theorem go_opY{v:V}(J:bA F all o.guard=some true)(hy:∀S w ρ a,HRel S w ρ H.get→FRel S w ρ a n F→Yld P S w ρ a o.type o.op v)(k:Go P K Q (.ops all rest) s n (F.seto o.dst (some v)) H):Go P K Q (.ops all (o::rest)) s n F H:=λS w ρ a hr hi G=>by
 show wpList P all (eW P Q s) (o::rest) a w;unfold wpList;rw[if_pos (cD G J)];refine .inl ?_;obtain⟨x,h1,h2⟩:=hy S w ρ a hr G;obtain⟨d,op,ty,ps,af,g⟩:=o;unfold Oper.wp;rw[h2 w Agree.refl d ps af g];exact k S w ρ _ hr hi (df G d h1)
theorem go_opP(G:TabOk P T){v:V}(J:bA F all o.guard=some true)(hv:rp T H.get F o.op=some v)(k:Go P K Q (.ops all rest) s n (F.seto o.dst (some v)) H):Go P K Q (.ops all (o::rest)) s n F H:=
 go_opY J (λS w ρ a hr O=>ye G hr O hv) k
theorem go_opD{v:Option V}(Z:bA F all o.guard=some true)(hd:∀S w ρ a,HRel S w ρ H.get→FRel S w ρ a n F→Does P S w ρ H.get a o.type o.op v (ed.app H.get H.nx) ed.tch)(hl:ed.ok H.get)(k:Go P K Q (.ops all rest) s n (F.seto o.dst (Gg v)) (H.app ed)):Go P K Q (.ops all (o::rest)) s n F H:=λS w ρ a hr hi O=>by
 show wpList P all (eW P Q s) (o::rest) a w;unfold wpList;rw[if_pos (cD O Z)];refine .inl ?_;obtain⟨nx,w',ρ',h1,h2,U⟩:=hd S w ρ a hr O;have G:=h2.hr;have J:=hi.eff h2;rw[←Hp.get_app hl]at G J;obtain⟨d,op,ty,ps,af,g⟩:=o;unfold Oper.wp;rw[h1 d ps af g];cases v with
 |none=>
  subst U;exact k S w' ρ' _ G J (uS (O.up h2.up) d)
 |some v=>
  obtain⟨x,rfl,h4⟩:=U;exact k S w' ρ' _ G J (df (O.up h2.up) d h4)
theorem go_opE(G:TabOk P T){v:Option V}(J:bA F all o.guard=some true)(hv:od T H.get F H.nx o.op=some (v,ed))(k:Go P K Q (.ops all rest) s n (F.seto o.dst (Gg v)) (H.app ed)):Go P K Q (.ops all (o::rest)) s n F H:=
 go_opD J (λS w ρ a hr O=>zA G hr O H.get_free hv) (vN hv) k
theorem go_opC{args:List Operand}{tys:Array TypeId}{vs:List V}{Post:V→Hp→Prop}(he:dg P fid=true)(Z:o.op=.call {callee:=.value (.func fid),args:=args.toArray,argTypes:=tys})(hw:bA F all o.guard=some true)(hv:gz F args=some vs)(hC:CallR P K fid vs H [] Post)
  (k:∀v H',Post v H'→Go P K Q (.ops all rest) s n (F.seto o.dst (some v)) H'):Go P K Q (.ops all (o::rest)) s n F H:=λS w ρ a hr hi G=>by
 show wpList P all (eW P Q s) (o::rest) a w;unfold wpList;rw[if_pos (cD G hw)];refine .inl ?_;obtain⟨xs,h1,h2⟩:=qB G hv;have hc:=hC S w ρ xs hr hi h2;obtain⟨d,op,ty,ps,af,g⟩:=o;simp only at Z;subst Z;have hx:(execOp a.eval ⟨d,.call {callee:=.value (.func fid),args:=args.toArray,argTypes:=tys},ty,ps,af,g⟩).run P w=.ok (.enter fid xs.toArray) w:=by
  have e:args.toArray.map a.eval=xs.toArray:=by rw[←G.fr.vals h1];simp
  simp only[execOp,resolve,e];simp[Act.eval,Deferred.ofValue,invoke,oE he]
 unfold Oper.wp;rw[hx,Oper.upon_enter];refine hc.mono λe w1 hR=>?_;obtain⟨x,S',ρ',v,H',rfl,hp,J,O,hu,U,_⟩:=hR;exact k v H' hp S' w1 ρ' _ J O (df (G.up hu) d U)
theorem Ik{id:Nat}{l:List Oper}(L:List Nat)(m sz:Nat)(hsz:l.length=sz)(J:P.follows .mixedOrders=true)(hs:Region.noSelect l.toArray=true)(k:Go P K Q (.drw l.toArray L m sz (Array.replicate sz false)) s n F H):Go P K Q (.code (.region id l.toArray true)) s n F H:=λS w ρ a hr hi O=>by
 refine wp_region_noPanic (wp_region_any J (Ca (B:=Agree S {w with drawn:=w.drawn+1}) (S:=Ls ρ L {w with drawn:=w.drawn+1}) (m:=m) _ _ _ _ ?_));have G:=Chg.drew w;have :=k S {w with drawn:=w.drawn+1} ρ a (hr.chg0 G) (hi.chg0 G) (O.up (Up.chg0 G)) hs;subst hsz;simpa using this
variable{L:List Nat}{m left i:Nat}{listed:Array Bool}
theorem Fy(G:Region.ready .any all listed=[])(k:Go P K Q (.ex .normal) s n F H):Go P K Q (.drw all L m left listed) s n F H:=λS w ρ a hr hi O _=>by
 have J:=k S w ρ a hr hi O;cases left with
 |zero=>exact⟨G,J⟩
 |succ left=>exact⟨λ_=>J,by rw[G];simp⟩
theorem xT{S':Nat→Prop}{w:World}(G:∀b,S b→S' b)(h1:Agree S w w'):∀x,Agree S' w' x→Agree S w x:=λx hx b hb=>(hx b (G b hb)).trans (h1 b hb)
theorem Oo{w:World}(hρ:∀i x,ρ i=some x→ρ' i=some x)(h1:Ls ρ L w w'):∀x,Ls ρ' L w' x→Ls ρ L w x:=λx hx id hid y b hy hb=>(hx id hid y b (hρ _ _ hy) hb).trans (h1 id hid y b hy hb)
theorem lK{S':Nat→Prop}{w:World}(J:Up S S' w w' ρ ρ')(O:Agree S w w')(G:Ls ρ L w w'∨listed.getD m false=true)(h:wpB P all (NoPanic (eW P Q s)) (Agree S' w') (Ls ρ' L w') m left listed a w'):
  Agree S w w'∧(Ls ρ L w w'∨listed.getD m false=true)∧wpB P all (NoPanic (eW P Q s)) (Agree S w) (Ls ρ L w) m left listed a w':=by
 refine⟨O,G,?_⟩;rcases G with G|G
 ·exact Aq (xT J.s O) (λx _=>Oo J.r G x) _ _ _ _ h
 ·
  have key:∀(fuel:Nat) (listed:Array Bool) (a:Act) (w'':World),listed.getD m false=true→wpB P all (NoPanic (eW P Q s)) (Agree S' w') (Ls ρ' L w') m fuel listed a w''→wpB P all (NoPanic (eW P Q s)) (Agree S w) (Ls ρ L w) m fuel listed a w'':=by
   intro fuel
   induction fuel with
   |zero=>intro _ _ _ _ h;exact h
   |succ fuel ih=>
    intro listed a w'' U h;exact⟨h.1,λi hi=>wpOp_mono (λa' Z h'=>⟨xT J.s O _ h'.1,.inr (qo U),ih _ _ _ (qo U) h'.2.2⟩) (h.2 i hi)⟩
  exact key _ _ _ _ G h
theorem sG{w:World}:Ls ρ L w w:=λ_ _ _ _ _ _=>rfl
theorem Nk{v:V}(G:Nat.beq i m=false)(hi:all[i]?=some o)(hf:Region.free .any all listed i=true)(J:(Region.ready .any all listed).contains i=true)(Z:bA F all o.guard=some true)(hy:∀S w ρ a,HRel S w ρ H.get→FRel S w ρ a n F→Yld P S w ρ a o.type o.op v)
  (k:Go P K Q (.drw all L m left (listed.setIfInBounds i true)) s n (F.seto o.dst (some v)) H):Go P K Q (.drw all L m (left+1) listed) s n F H:=λS w ρ a hr O U hs=>by
 obtain⟨x,h1,h2⟩:=hy S w ρ a hr U;refine wpB_pure (Nat.ne_of_beq_eq_false G) hi (Region.noSelect_spec hs) (λ_ _ _ h=>h.elim) left listed a w (Region.free_spec hi hf) (by simpa using J) (.inl ⟨cD U Z,λw' hA=>?_⟩) Agree.refl (.inl sG) (k S w ρ _ hr O (df U o.dst h1) hs);obtain⟨d,op,ty,ps,af,g⟩:=o;exact h2 w' hA d ps af g
theorem Nh(O:TabOk P T){v:V}(G:Nat.beq i m=false)(hi:all[i]?=some o)(hf:Region.free .any all listed i=true)(J:(Region.ready .any all listed).contains i=true)(U:bA F all o.guard=some true)(hv:rp T H.get F o.op=some v)
 (k:Go P K Q (.drw all L m left (listed.setIfInBounds i true)) s n (F.seto o.dst (some v)) H):Go P K Q (.drw all L m (left+1) listed) s n F H:=Nk G hi hf J U (λS w ρ a hr Z=>ye O hr Z hv) k
theorem JU(G:Nat.beq i m=false)(hi:all[i]?=some o)(hf:Region.free .any all listed i=true)(J:(Region.ready .any all listed).contains i=true)(Z:bA F all o.guard=some false)
  (k:Go P K Q (.drw all L m left (listed.setIfInBounds i true)) s n (F.seto o.dst (some (.tup []))) H):Go P K Q (.drw all L m (left+1) listed) s n F H:=λS w ρ a hr O U hs=>
 wpB_pure (Nat.ne_of_beq_eq_false G) hi (Region.noSelect_spec hs) (λ_ _ _ h=>h.elim) left listed a w (Region.free_spec hi hf) (by simpa using J) (.inr ⟨cD U Z,rfl⟩) Agree.refl (.inl sG) (k S w ρ _ hr O (uS U o.dst) hs)
def tx(F:Fm)(op:Op):Option Nat:=match op with
 |.load _ x=>match aM F x with
  |some (.ptr id _)=>some id
  |some (.el id _ _ _)=>some id
  |_=>none
 |_=>none
theorem KA (hT:TabOk P T) {S:Nat→Prop} {w:World} {ρ:Nat→Option Value} {h:Nat→Ob} {a:Act} {op:Op} {ty:TypeId} {id nid:Nat} {v:V} {ed:ED} (hr:HRel S w ρ h) (hF:FRel S w ρ a n F) (hid:tx F op=some id) (hv:od T h F nid op=some (some v,ed)):
  ∃x u b,VRel S w ρ v x∧ρ id=some u∧zu u=some b∧∀w',w'.heap[b]?=w.heap[b]?→Runs P a ty op w' (.value x) w':=by
 have fr:=hF.fr;unfold tx at hid;split at hid
 ·rename_i t x;unfold od at hv;simp only at hv;split at hid
  ·rename_i id' o' hx;injection hid with hid;subst hid
   rw[hx]at hv;simp only at hv;split at hv
   ·rename_i d hd;split at hv
    ·rename_i ho;split at hv
     ·rename_i u hu;simp only[Option.some.injEq,Prod.mk.injEq]at hv;obtain⟨rfl,rfl⟩:=hv;rcases sK (hT.ty _ _ hd) hu with⟨h1,h2⟩|⟨h1,h2,rfl⟩
      ·obtain⟨b,y,g1,g2,g3,g4⟩:=Ic (P:=P) (ty:=ty) hr fr (au hF hx) ho h1 h2;exact⟨y,_,b,g3,g1,rfl,λw' hw=>g4 w' ((World.cell?_of_block (a:=⟨b,_,none⟩) hw).trans g2)⟩
      ·obtain⟨b,ys,g1,g2,g3,g4⟩:=EW (P:=P) (ty:=ty) hr fr (au hF hx) ho h1 h2;exact⟨_,_,b,by simp only[VRel];exact⟨ys,rfl,g3⟩,g1,rfl,λw' hw=>g4 w' (λj hj=>(World.cell?_of_block (a:=⟨b,_,none⟩) hw).trans (g2 j hj))⟩
     ·cases hv
    ·cases hv
   ·cases hv
  ·rename_i id' sz i' o' hx;injection hid with hid;subst hid
   rw[hx]at hv;simp only at hv;split at hv
   ·rename_i d hd;split at hv
    ·rename_i ho;split at hv
     ·rename_i hb;have :=Nat.eq_of_beq_eq_true hb;subst this;split at hv
      ·rename_i v0 hi;rw[pW]at hi;split at hv
       ·rename_i u hu;simp only[Option.some.injEq,Prod.mk.injEq]at hv;obtain⟨rfl,rfl⟩:=hv;have hbk:∀(q:Value) (b:Nat),q.ownBlock=some b→zu q=some b:=λq b hq=>by
         cases q<;>first|(simp only[Value.ownBlock]at hq;cases hq;done)|skip
         rename_i A _ _;cases A<;>simp_all[Value.ownBlock,zu]
        rcases sK (hT.ty _ _ hd) hu with⟨h1,h2⟩|⟨h1,h2,rfl⟩
        ·obtain⟨b,q,y,g1,g1',g2,g3,g4⟩:=Gk (P:=P) (ty:=ty) hr fr (au hF hx) ho h1 hi h2;exact⟨y,q,b,g3,g1,hbk q b g1',λw' hw=>g4 w' ((World.cell?_of_block (a:=⟨b,_,none⟩) hw).trans g2)⟩
        ·obtain⟨b,q,ys,g1,g1',g2,g3,g4⟩:=CI (P:=P) (ty:=ty) hr fr (au hF hx) ho h1 hi h2;exact⟨_,q,b,by simp only[VRel];exact⟨ys,rfl,g3⟩,g1,hbk q b g1',λw' hw=>g4 w' (λj hj=>(World.cell?_of_block (a:=⟨b,_,none⟩) hw).trans (g2 j hj))⟩
       ·cases hv
      ·cases hv
     ·cases hv
    ·cases hv
   ·cases hv
  ·cases hid
 ·cases hid
theorem IA(hT:TabOk P T){v:V}{id:Nat}{ed:ED}(G:Nat.beq i m=false)(J:zO .any all m i=true)(O:listed.getD m false=false)(hi:all[i]?=some o)(hf:Region.free .any all listed i=true)(U:(Region.ready .any all listed).contains i=true)(hw:bA F all o.guard=some true)
  (hid:tx F o.op=some id) (hL:L.contains id=true) (hv:od T H.get F H.nx o.op=some (some v,ed))
  (k:Go P K Q (.drw all L m left (listed.setIfInBounds i true)) s n (F.seto o.dst (some v)) H):Go P K Q (.drw all L m (left+1) listed) s n F H:=λS w ρ a hr Z hF hs=>by
 obtain⟨x,u,b,h1,h2,h3,h4⟩:=KA (ty:=o.type) hT hr hF hid hv;refine Mq (Nat.ne_of_beq_eq_false G) J hi (Region.noSelect_spec hs) (λ_ _ _ h=>h.elim) left listed a w (Region.free_spec hi hf) (by simpa using U) (.inl ⟨cD hF hw,λw' hA=>?_⟩) Agree.refl sG O (k S w ρ _ hr Z (df hF o.dst h1) hs);have hb:=hA.2 id (by simpa using hL) u b h2 h3;obtain⟨d,op,ty,ps,af,g⟩:=o;exact h4 w' hb d ps af g
def dB(h:Nat→Ob):List Nat→Bool
 |[]=>true
 |i::r=>match h i with
  |.var _ _=>dB h r
  |.row _ _ _=>dB h r
  |_=>false
theorem oJ{S:Nat→Prop}{w:World}{ρ:Nat→Option Value}{h:Nat→Ob}(hr:HRel S w ρ h):∀{L:List Nat},dB h L=true→∀id,id∈L→∀x b,ρ id=some x→zu x=some b→own ρ id (h id) b
 |[],_,id,hid,x,b,hx,hb=>by simp at hid
 | j::r,hl,id,hid,x,b,hx,hb=>by
  have hown:∀o,h j=o→(∃t cs,o=.var t cs)∨(∃e sz els,o=.row e sz els)→∀x b,ρ j=some x→zu x=some b→own ρ j (h j) b:=by
   rintro o ho (⟨t,cs,rfl⟩|⟨e,sz,els,rfl⟩) x b hx hb
   ·obtain⟨c,xs,g1,_⟩:=vb hr ho;rw[g1]at hx;cases hx;simp only[zu,Option.some.injEq]at hb;subst hb;rw[ho];exact g1
   ·obtain⟨v,xs,g1,g2,_⟩:=kQ hr ho;rw[g1]at hx;cases hx;rw[ho];refine⟨_,g1,?_⟩;obtain⟨A,c,rfl,_⟩:=gv g2;cases A<;>simp_all[Value.ownBlock,zu]
  simp only[dB]at hl;rcases List.mem_cons.1 hid with e|e
  ·subst e;split at hl
   ·rename_i t cs ho;exact hown _ ho (.inl ⟨t,cs,rfl⟩) x b hx hb
   ·rename_i e sz els ho;exact hown _ ho (.inr ⟨e,sz,els,rfl⟩) x b hx hb
   ·cases hl
  ·split at hl
   ·exact oJ hr hl id e x b hx hb
   ·exact oJ hr hl id e x b hx hb
   ·cases hl
def ED.clear(L:List Nat):ED→Bool
 |.nop=>true
 |.new _=>true
 |.set id _=>!L.contains id
 |.repl id _=>!L.contains id
theorem Ey{w:World}{h h':Nat→Ob}(hr:HRel S w ρ h)(Z:Eff S w w' ρ ρ' h h' ed.tch)(hl:dB h L=true)(J:ed.clear L=true):Ls ρ L w w':=λid hid x b hx hb=>by
 have U:=oJ hr hl id hid x b hx hb;refine Z.chg.block b (gU (hr.ob id) U) ?_;rintro⟨j,G,O⟩;have e:=hr.dis j id b O U;subst e;cases ed with
 |nop=>exact G
 |new _=>exact G
 |set k _=>simp only[ED.tch]at G;subst G;simp[ED.clear]at J;exact J hid
 |repl k _=>simp only[ED.tch]at G;subst G;simp[ED.clear]at J;exact J hid
theorem zH{a b:Bool}(h:(a||b)=true):a=true∨b=true:=by simpa using h
theorem rf{S:Nat→Prop}{B:World→Prop}{Sx:World→Prop}{w:World}{Q':Exit→Act→World→Prop}(G:Region.ready .any all listed=[i])(U:wpOp P all Q' i (λa' w'=>B w'∧(Sx w'∨(listed.setIfInBounds i true).getD m false=true)∧wpB P all Q' B Sx m left (listed.setIfInBounds i true) a' w') a w):wpB P all Q' B Sx m (left+1) listed a w:=by
 refine⟨λJ=>(by rw[G]at J;cases J),λj O=>?_⟩;rw[G]at O;obtain rfl:j=i:=by simpa using O
 exact U
theorem go_d1S(G:Region.ready .any all listed=[i])(hi:all[i]?=some o)(U:bA F all o.guard=some false)(k:Go P K Q (.drw all L m left (listed.setIfInBounds i true)) s n (F.seto o.dst (some (.tup []))) H):Go P K Q (.drw all L m (left+1) listed) s n F H:=λS w ρ a hr J O hs=>by
 refine rf (S:=S) G ?_;unfold wpOp;simp only[hi];rw[cD O U];simp only[Bool.false_eq_true,if_false];exact⟨Agree.refl,.inl sG,k S w ρ _ hr J (uS O o.dst) hs⟩
theorem Kv{v:V}(G:Region.ready .any all listed=[i])(hi:all[i]?=some o)(U:bA F all o.guard=some true)(hy:∀S w ρ a,HRel S w ρ H.get→FRel S w ρ a n F→Yld P S w ρ a o.type o.op v)
  (k:Go P K Q (.drw all L m left (listed.setIfInBounds i true)) s n (F.seto o.dst (some v)) H):Go P K Q (.drw all L m (left+1) listed) s n F H:=λS w ρ a hr J O hs=>by
 refine rf (S:=S) G ?_;obtain⟨x,h1,h2⟩:=hy S w ρ a hr O;unfold wpOp;simp only[hi];rw[if_pos (cD O U)];refine .inl ?_;have Z:=k S w ρ _ hr J (df O o.dst h1) hs;obtain⟨d,op,ty,ps,af,g⟩:=o;unfold Oper.wp;rw[h2 w Agree.refl d ps af g];exact⟨Agree.refl,.inl sG,Z⟩
theorem DU{v:Option V}(Z:Region.ready .any all listed=[i])(hi:all[i]?=some o)(hw:bA F all o.guard=some true)(hd:∀S w ρ a,HRel S w ρ H.get→FRel S w ρ a n F→Does P S w ρ H.get a o.type o.op v (ed.app H.get H.nx) ed.tch)(hl:ed.ok H.get)
  (hc:((dB H.get L&&ed.clear L)||(listed.setIfInBounds i true).getD m false)=true) (k:Go P K Q (.drw all L m left (listed.setIfInBounds i true)) s n (F.seto o.dst (Gg v)) (H.app ed)):Go P K Q (.drw all L m (left+1) listed) s n F H:=λS w ρ a hr hiv U hs=>by
 refine rf (S:=S) Z ?_;obtain⟨nx,w',ρ',h1,h2,h3⟩:=hd S w ρ a hr U;have G:=h2.hr;have J:=hiv.eff h2;rw[←Hp.get_app hl]at G J;have hA:=uQ hr h2;have O:Ls ρ L w w'∨(listed.setIfInBounds i true).getD m false=true:=(zH hc).imp (λh=>by
  simp only[Bool.and_eq_true]at h;exact Ey hr h2 h.1 h.2) id
 unfold wpOp;simp only[hi];rw[if_pos (cD U hw)];refine .inl ?_;have kN:=λ(e:v=none)=>k S w' ρ' (a.put o.dst undef) G J (by subst e;exact uS (U.up h2.up) o.dst) hs;have kV:=λ(x:Value) (u:V) (e:v=some u) (hx:VRel S w' ρ' u x)=>k S w' ρ' (a.put o.dst x) G J (by subst e;exact df (U.up h2.up) o.dst hx) hs;obtain⟨d,op,ty,ps,af,g⟩:=o;unfold Oper.wp;rw[h1 d ps af g];cases v with
 |none=>
  subst h3;exact lK h2.up hA O (kN rfl)
 |some v=>
  obtain⟨x,rfl,h4⟩:=h3;exact lK h2.up hA O (kV x v rfl h4)
theorem go_d1C{args:List Operand}{tys:Array TypeId}{vs:List V}{Post:V→Hp→Prop}{L':List Nat}(he:dg P fid=true)(J:Region.ready .any all listed=[i])(hi:all[i]?=some o)(ho:o.op=.call {callee:=.value (.func fid),args:=args.toArray,argTypes:=tys})(hw:bA F all o.guard=some true)(hv:gz F args=some vs)(hC:CallR P K fid vs H L' Post)
  (hc:L'=L∨(listed.setIfInBounds i true).getD m false=true) (k:∀v H',Post v H'→Go P K Q (.drw all L m left (listed.setIfInBounds i true)) s n (F.seto o.dst (some v)) H'):Go P K Q (.drw all L m (left+1) listed) s n F H:=λS w ρ a hr O G hs=>by
 refine rf (S:=S) J ?_;obtain⟨xs,h1,h2⟩:=qB G hv;have U:=hC S w ρ xs hr O h2;unfold wpOp;simp only[hi];rw[if_pos (cD G hw)];refine .inl ?_;obtain⟨d,op,ty,ps,af,g⟩:=o;simp only at ho;subst ho;have hx:(execOp a.eval ⟨d,.call {callee:=.value (.func fid),args:=args.toArray,argTypes:=tys},ty,ps,af,g⟩).run P w=.ok (.enter fid xs.toArray) w:=by
  have e:args.toArray.map a.eval=xs.toArray:=by rw[←G.fr.vals h1];simp
  simp only[execOp,resolve,e];simp[Act.eval,Deferred.ofValue,invoke,oE he]
 unfold Oper.wp;rw[hx,Oper.upon_enter];refine U.mono λe w1 hR=>?_;obtain⟨x,S',ρ',v,H',rfl,hp,Z,hi',hu,hvr,hls⟩:=hR;have hk:=k v H' hp S' w1 ρ' _ Z hi' (df (G.up hu) d hvr) hs;exact lK hu (λb hb=>hu.blk b hb (hr.slt b hb)) (hc.imp (λe=>by subst e;exact hls) id) hk
end
section
variable{P:Program}{T:Tab}{K:Ctx}{Q:Exit→Act→World→Prop}{s:List EI}{n:Nat}{F:Fm}{S S':Nat→Prop}{w w':World}{ρ ρ':Nat→Option Value}{h h1 h1' h2:Nat→Ob}{a:Act}
theorem ER(hr:HRel S w ρ h)(hi:Inv K S w ρ h)(hh1:∀i,h1 i=h i∨h1 i=.gone)(U:HRel S' w' ρ' h1')(G:Inv ⟨w,S,λb=>∃id,own ρ id (h1 id) b,ρ⟩ S' w' ρ' h1')
  (hh2:∀i,(h2 i=h1' i∨h2 i=.gone)∨(h2 i=h i∧h1 i=.gone∧h i≠.free)):
  HRel S' w' ρ' h2∧Inv K S' w' ρ' h2∧Up S S' w w' ρ ρ'∧∀L,dB h L=true→(∀id,id∈L→h1 id=.gone)→Ls ρ L w w':=by
 have h1own:∀id b,own ρ id (h1 id) b→own ρ id (h id) b:=λid b hb=>by
  rcases hh1 id with e|e
  ·rw[e]at hb;exact hb
  ·rw[e]at hb;exact hb.elim
 have up:Up S S' w w' ρ ρ':=⟨G.s0,λb hb hlt=>G.chg.block b hlt (λ⟨id,O⟩=>hr.sep id b (h1own id b O) hb),G.pin⟩;have frame:∀i b,h1 i=.gone→own ρ i (h i) b→¬∃id,own ρ id (h1 id) b:=λi b hg O ⟨id,hid⟩=>by
  have e:=hr.dis i id b O (h1own id b hid);subst e;rw[hg]at hid;exact hid.elim
 have cases2:∀i b,own ρ' i (h2 i) b→own ρ' i (h1' i) b∨(h1 i=.gone∧own ρ i (h i) b):=λi b hb=>by
  rcases hh2 i with(e|e)|⟨e,e1,e2⟩
  ·rw[e]at hb;exact .inl hb
  ·rw[e]at hb;exact hb.elim
  ·rw[e]at hb;exact .inr ⟨e1,Ka G.pin (hr.ob i) hb⟩
 have far:∀i b,h1 i=.gone→own ρ i (h i) b→¬S' b:=λi b hg O hS=>by
  rcases G.s1 b hS with J|J|J
  ·exact hr.sep i b O J
  ·exact frame i b hg O J
  ·have :=gU (hr.ob i) O;simp only at J;omega
 have apart:∀i j b,own ρ' i (h1' i) b→h1 j=.gone→own ρ j (h j) b→False:=λi j b O hg hb=>by
  rcases G.ow i b O with J|J
  ·exact frame j b hg hb J
  ·have :=gU (hr.ob j) hb;simp only at J;omega
 refine⟨⟨λi=>?_,λi b hb=>?_,λi j b hbi hbj=>?_,U.slt⟩,⟨?_,λb hb=>G.s0 b (hi.s0 b hb),λb hb=>?_,λi b hb=>?_,λid x hx=>G.pin _ _ (hi.pin id x hx)⟩,up,λL hl hg id hid x b hx hb=>?_⟩
 ·rcases hh2 i with(e|e)|⟨e,e1,e2⟩
  ·rw[e];exact U.ob i
  ·rw[e];trivial
  ·rw[e];exact(hr.ob i).up up (λhf=>absurd hf e2) (λb hb=>G.chg.block b (gU (hr.ob i) hb) (frame i b e1 hb))
 ·rcases cases2 i b hb with J|⟨J,h4⟩
  ·exact U.sep i b J
  ·exact far i b J h4
 ·rcases cases2 i b hbi with J|⟨J,h4⟩<;>rcases cases2 j b hbj with Z|⟨Z,h6⟩
  ·exact U.dis i j b J Z
  ·exact(apart i j b J Z h6).elim
  ·exact(apart j i b Z J h4).elim
  ·exact hr.dis i j b h4 h6
 ·refine hi.chg.trans G.chg ?_;rintro b ⟨id,O⟩;exact hi.ow id b (h1own id b O)
 ·rcases G.s1 b hb with J|⟨id,J⟩|J
  ·exact hi.s1 b J
  ·exact .inr (hi.ow id b (h1own id b J))
  ·exact .inr (.inr (Nat.le_trans hi.chg.size J))
 ·rcases cases2 i b hb with J|⟨J,h4⟩
  ·rcases G.ow i b J with⟨id,Z⟩|Z
   ·exact hi.ow id b (h1own id b Z)
   ·exact .inr (Nat.le_trans hi.chg.size Z)
  ·exact hi.ow i b h4
 ·have O:=oJ hr hl id hid x b hx hb;exact G.chg.block b (gU (hr.ob id) O) (frame id b (hg id hid) O)
def pE:Nat→List V→Fm
 |0,_=>[]
 |n+1,[]=>none::pE n []
 |n+1,v::r=>some v::pE n r
theorem AU:∀(n:Nat) (vs:List V),(pE n vs).length=n
 |0,_=>rfl
 |n+1,[]=>by simp[pE,AU n []]
 |n+1,v::r=>by simp[pE,AU n r]
theorem AM:∀(n:Nat) (vs:List V) (i:Nat) (v:V),(pE n vs).get i=some v→vs[i]?=some v
 |0,_,i,v,h=>by simp[pE,Fm.get]at h
 |n+1,[],0,v,h=>by simp[pE,Fm.get]at h
 |n+1,[],i+1,v,h=>by
  have :=AM n [] i v (by simpa[pE,Fm.get]using h);simp at this
 |n+1,u::r,0,v,h=>by simpa[pE,Fm.get]using h
 |n+1,u::r,i+1,v,h=>by
  have :=AM n r i v (by simpa[pE,Fm.get]using h);simpa using this
theorem Ay{H:Hp}{fn:Func}{c:Code}{R:Ending→World→Prop}(hf:P.funcs[fid]?=some fn)(hb:fn.body=some c)(J:Nat.ble vs.length fn.ntmps=true)(hr:HRel S w ρ H.get)(hi:Inv K S w ρ H.get)(hx:LRel S w ρ vs xs)
  (k:Go P K (bodyPost P fn R) (.code c) [] fn.ntmps (pE fn.ntmps vs) H):Calls P fid xs.toArray w R:=by
 refine calls_of_wp hf hb (k S w ρ _ hr hi ⟨?_,rfl,hr.slt.gl,?_,λi v hv=>?_⟩)
 ·have h1:vs.length≤fn.ntmps:=Nat.le_of_ble_eq_true J;have h2:=hx.length;simp;omega
 ·exact Nat.le_of_eq (AU _ _)
 ·have h1:=AM _ _ _ _ hv;obtain⟨x,h2,O⟩:=hx.get h1;refine⟨x,?_,O⟩;have G:i<xs.length:=(List.getElem?_eq_some_iff.1 h2).1;show(xs.toArray++Array.replicate (fn.ntmps-xs.toArray.size) undef)[i]?=some x;rw[Array.getElem?_append_left (by simpa using G)];simpa using h2
def JO (T:Tab) (h:Nat→Ob) (F:Fm):ResultVar→Option V
 |.tmp t=>F.get t
 |.cell t ty=>match T.ty ty with
  |some d=>match F.get t with
   |some (.ptr id 0)=>match h id with
    |.var _ cs=>rh d cs 0
    |_=>none
   |some (.box cs 0)=>rh d cs 0
   |_=>none
  |none=>none
def uU(T:Tab)(h:Nat→Ob)(F:Fm):List ResultVar→Option (List V)
 |[]=>some []
 |x::r=>match JO T h F x with
  |some v=>match uU T h F r with
   |some vs=>some (v::vs)
   |none=>none
  |none=>none
def mD:List V→V
 |[v]=>v
 |vs=>.tup vs
theorem En(td:TdOk P t d){off:Nat}{v:V}(G:LRel S w ρ cs xs)(J:∀j,j<xs.length→w.cell? ⟨b,off+j,none⟩=xs[j]?)(hv:rh d cs 0=some v):∃y,(loadVar t ⟨b,off,none⟩).run P w=.ok y w∧VRel S w ρ v y:=by
 have O:=G.length;rcases sK td hv with⟨h1,h2⟩|⟨h1,h2,rfl⟩
 ·obtain⟨y,U,Z⟩:=G.get h2;have h0:0<xs.length:=(List.getElem?_eq_some_iff.1 U).1;have :=Dm (P:=P) (w:=w) (p:=⟨b,off,none⟩) h1 (by have :=J 0 h0;rw[Nat.add_zero]at this;rw[this,U]);refine⟨y,?_,Z⟩;simp only[Instr.loadAt,Instr.sureAddr]at this;simpa using this
 ·have :=CR (P:=P) (w:=w) (b:=b) (o:=off) (cs:=xs.take d.size) h1 (by simp;omega) (λj hj=>by rw[J j (by omega),List.getElem?_take,if_pos hj]);refine⟨_,?_,by simp only[VRel];exact⟨xs.take d.size,rfl,by simpa using G.take d.size⟩⟩;simp only[Instr.loadAt,Instr.sureAddr]at this;simpa using this
theorem MB(Z:TabOk P T)(hr:HRel S w ρ h)(G:FRel S w ρ a n F){x:ResultVar}{v:V}(hv:JO T h F x=some v):∃y,(Bl a x).run P w=.ok y w∧VRel S w ρ v y:=by
 unfold JO at hv;split at hv
 ·rename_i t;obtain⟨y,h1,h2⟩:=G.get t v hv;exact⟨y,by simp[Bl,Array.getD_eq_getD_getElem?,h1],h2⟩
 ·rename_i t ty;split at hv
  ·rename_i d hd;split at hv
   ·rename_i id hid;split at hv
    ·rename_i ho;obtain⟨b,xs,g1,g2,J⟩:=vb hr ho;obtain⟨y,h1,h2⟩:=G.get t _ hid;simp only[VRel]at h2;obtain⟨b',O,rfl⟩:=h2;rw[g1]at O;simp only[Option.some.injEq,Value.pointer.injEq,Addr.mk.injEq,and_true]at O;subst O;obtain⟨z,k1,U⟩:=En (Z.ty _ _ hd) J (b:=b) (off:=0) (λj hj=>by rw[Nat.zero_add,g2.cell]) hv;exact⟨z,by simp[Bl,Array.getD_eq_getD_getElem?,h1,asAddr,k1],U⟩
    ·cases hv
   ·rename_i cs hid;obtain⟨y,h1,h2⟩:=G.get t _ hid;simp only[VRel]at h2;obtain⟨b,off,xs,rfl,_,_,J,g4⟩:=h2;obtain⟨z,k1,U⟩:=En (Z.ty _ _ hd) J (b:=b) (off:=off) g4 hv;exact⟨z,by simp[Bl,Array.getD_eq_getD_getElem?,h1,asAddr,k1],U.up up0⟩
   ·cases hv
  ·cases hv
theorem Ih(hT:TabOk P T)(hr:HRel S w ρ h)(hF:FRel S w ρ a n F):∀{l:List ResultVar} {vs:List V},uU T h F l=some vs→∃ys,(l.mapM (Bl a)).run P w=.ok ys w∧LRel S w ρ vs ys
 |[],vs,hv=>by simp only[uU,Option.some.injEq]at hv;subst hv;exact⟨[],by simp,by simp[LRel]⟩
 | x::r,vs,hv=>by
  simp only[uU]at hv;split at hv
  ·rename_i v h1;split at hv
   ·rename_i us h2;simp only[Option.some.injEq]at hv;subst hv;obtain⟨y,g1,g2⟩:=MB hT hr hF h1;obtain⟨ys,g3,g4⟩:=Ih hT hr hF h2;exact⟨y::ys,by simp[List.mapM_cons,g1,g3],⟨y,ys,rfl,g2,g4⟩⟩
   ·cases hv
  ·cases hv
theorem Cy{ys:List Value}(G:LRel S w ρ vs ys):VRel S w ρ (mD vs) (yS ys):=by
 match vs,ys,G with
 |[],ys,G=>simp only[LRel]at G;subst G;simp only[mD,yS,VRel];exact⟨[],rfl,by simp[LRel]⟩
 |[v],ys,G=>
  simp only[LRel]at G;obtain⟨x,zs,rfl,h1,rfl⟩:=G;exact h1
 |v::u::r,ys,G=>
  have J:=G;simp only[LRel]at G;obtain⟨x,zs,rfl,h1,y,zs',rfl,h2,O⟩:=G;simp only[mD,yS,VRel];exact⟨_,rfl,J⟩
theorem ret_go(O:TabOk P T){fn:Func}{R:Ending→World→Prop}{rs:List ResultVar}{e:Exit}(U:e=.ret∨e=.normal)(G:fn.results=rs.toArray)(hr:HRel S w ρ h)(J:FRel S w ρ a n F)(hv:uU T h F rs=some vs)(Z:∀x,VRel S w ρ (mD vs) x→R (.returned x) w):bodyPost P fn R e a w:=by
 obtain⟨ys,h0,h1⟩:=Ih O hr J hv;have hb:bodyPost P fn R .ret a w:=by
  refine bodyPost_ret (v:=yS ys) ?_ J.defers (Z _ (Cy h1));have e:(Array.mapM (Bl a) rs.toArray).run P w=.ok ys.toArray w:=by rw[List.mapM_toArray];simp[h0]
  unfold results;rw[G];change ((Array.mapM (Bl a) rs.toArray)>>=λvs=>pure (if h:vs.size=1 then vs[0]else .tuple vs)).run P w=_;simp only[Sem.run_bind,e,Result.andThen_ok,Sem.run_pure]
  match ys with
  |[]=>rfl
  |[v]=>rfl
  |v::u::r=>simp[yS]
 rcases U with rfl|rfl
 ·exact hb
 ·exact hb
end
end Go.Proofs.YtomplbgchbfjpaaGreatDoor
