/- Contracts of the functions that the law reaches, part 1. -/
import Derived.Test.YtojjjmkmkbnieaaGreatProg
import Derived.WalkKit
import Derived.WalkMore
import Derived.Lib.Hide
import Derived.Below
import Derived.Laws.OwnMore
import Derived.Deep.AppendLies
import Derived.Deep.Draws
import Derived.Maps.AppendAt
import Derived.OrdersHeld
import Derived.Deep.RegionHeld3
import Derived.Deep.LoopGhost
import Derived.Laws.MakeOwn
import Derived.LoopN
import Derived.Scope
import Derived.Maps.Keyed
import Derived.Laws.StructEq
import Derived.WideKeyRuns
import Derived.Laws.Pointers
import Derived.ChangeKeysEq
import Derived.Laws.BytesArg
import Derived.WalkLawsBesides
import Derived.WalkSpells
import Derived.Outline
import Derived.Deep.Light
import Derived.Lib.Bytealg
import Derived.Lib.Walk
import Derived.BigQuiet
import Derived.Deep.QuietTactic
import Derived.ProofKit
import Derived.ChangeSlices
import Derived.Deep.Slices
import Derived.Shelf.Spec.SlicesInsertGrow
import Derived.OpenShut
import Derived.ShutString
import Derived.SizedLaws
import Derived.JoinedCond
import Derived.Deep.CondSized
set_option linter.unusedVariables false
set_option linter.unusedSimpArgs false
namespace Go.Proofs.YtojjjmkmkbnieaaGreat
open _root_.Go.Proofs.Tryz
open Go.RowKit
structure Fr (a:Act) (n:Nat) (f:Nat→Option Value):Prop where
 size:a.tmps.size=n
 defers:a.defers=[]
 get:∀i v,f i=some v→a.tmps[i]?=some v
def up(f:Nat→Option Value)(d:Nat)(v:Value):Nat→Option Value:=λi=>match Nat.beq i d with|true=>some v|false=>f i
def mL(f:Nat→Option Value)(ops:Array Oper)(j:Nat):Option Value:=((ops[j]?).bind (·.dst)).bind f
def dn(f:Nat→Option Value)(ops:Array Oper)(g:Option (Nat×Bool)):Bool:=
 match g with
 |none=>true
 |some (j,b)=>match mL f ops j with
  |some (.bool c)=>c==b
  |_=>false
def nk(f:Nat→Option Value)(ops:Array Oper)(g:Option (Nat×Bool)):Bool:=
 match g with
 |none=>false
 |some (j,b)=>match mL f ops j with
  |some (.bool c)=>c !=b
  |some (.tuple _)=>true
  |_=>false
def ao(f:Nat→Option Value):Operand→Option Value
 |.tmp t=>f t
 |.const v=>some v
 |.global g=>some (.pointer (some ⟨g,0,none⟩))
 |.func g=>some (.func (.func g) #[] #[])
variable{x:Operand}
variable{j:Nat}
section
variable{P:Program}{ops:Array Oper}{Q:Exit→Act→World→Prop}{a:Act}{w:World}{rest:List Oper}{n:Nat}{f:Nat→Option Value}
theorem Fr.eval(h:Fr a n f){v:Value}(hx:ao f x=some v):a.eval x=v:=by
 cases x with
 |tmp t=>
  have :=h.get t v hx;simp[Act.eval,Array.getD_eq_getD_getElem?,this]
 |const u=>simpa[ao,Act.eval]using hx
 |global g=>simpa[ao,Act.eval]using hx
 |func g=>simpa[ao,Act.eval]using hx
theorem Fr.put(h:Fr a n f){d:Nat}(hd:Nat.blt d n=true)(v:Value):Fr (a.put (some d) v) n (up f d v):=by
 have q:d<n:=by simpa using hd
 refine⟨by simp[Act.put,h.size],h.defers,λi u hi=>?_⟩;simp only[up]at hi;simp only[Act.put];split at hi
 ·rename_i E;have :i=d:=Nat.eq_of_beq_eq_true E;subst this;rw[Array.getElem?_setIfInBounds];simp[h.size,q];simpa using hi
 ·rename_i E;have :¬i=d:=λe=>by subst e;simp at E
  rw[Array.getElem?_setIfInBounds,if_neg (λe=>this e.symm)];exact h.get i u hi
theorem Fr.le(h:Fr a n f){g:Nat→Option Value}(q:∀i v,g i=some v→f i=some v):Fr a n g:=⟨h.size,h.defers,λi v hi=>h.get i v (q i v hi)⟩
theorem wt(h:Fr a n f){b:Bool}(q:mL f ops j=some (.bool b)):yielded ops a.tmps j=some b:=by
 unfold mL at q;unfold yielded;cases hd:(ops[j]?).bind (·.dst)with
 |none=>rw[hd]at q;cases q
 |some d=>
  rw[hd]at q;have :=h.get d _ q;simp[this]
theorem yu(h:Fr a n f){vs:Array Value}(q:mL f ops j=some (.tuple vs)):yielded ops a.tmps j=none:=by
 unfold mL at q;unfold yielded;cases hd:(ops[j]?).bind (·.dst)with
 |none=>rw[hd]at q;cases q
 |some d=>
  rw[hd]at q;have :=h.get d _ q;simp[this]
theorem gq(h:Fr a n f){o:Oper}(q:dn f ops o.guard=true):Region.wanted o (yielded ops a.tmps)=true:=by
 unfold Region.wanted;unfold dn at q;split at q
 ·rename_i E;rw[E]
 ·rename_i j b E;rw[E];split at q
  ·rename_i c G;show(yielded ops a.tmps j==some b)=true;rw[wt h G];simpa using q
  ·cases q
theorem ot(h:Fr a n f){o:Oper}(q:nk f ops o.guard=true):Region.wanted o (yielded ops a.tmps)=false:=by
 unfold Region.wanted;unfold nk at q;split at q
 ·cases q
 ·rename_i j b G;rw[G];split at q
  ·rename_i c E;show(yielded ops a.tmps j==some b)=false;rw[wt h E];cases c<;>cases b<;>first|rfl|cases q
  ·rename_i vs E;show(yielded ops a.tmps j==some b)=false;rw[yu h E];rfl
  ·cases q
variable{d:Nat}{ty:TypeId}{ps:String}{af:Array Edge}{g:Option (Nat×Bool)}
end
def Ext(w w':World):Prop:=Below w.heap.size w w'
variable{p:Addr}
variable{k:Nat}
section
variable{w w1 w2:World}
theorem Ext.refl(w:World):Ext w w:=Below.refl _ _
theorem Ext.size(h:Ext w w1):w.heap.size≤w1.heap.size:=Below.size h
theorem Ext.trans(h:Ext w w1)(k:Ext w1 w2):Ext w w2:=Below.trans h (Below.mono k h.size)
theorem Ext.drew(h:Ext w w1):Ext w w1.drew:=Below.drew h
theorem Ext.drewN(h:Ext w w1)(n:Nat):Ext w (w1.drewN n):=
 have h':Below w.heap.size w w1:=h
 ⟨h'.os,h'.tape,h'.output,h'.size,h'.block⟩
theorem Ext.alloc(h:Ext w w1)(o:Obj):Ext w (w1.alloc o):=Below.alloc h h.size o
theorem Ext.setCell(h:Ext w w1)(q:w.heap.size≤p.block)(u:Value):Ext w (w1.setCell p u):=Below.setCell h q u
theorem Ext.grown(h:Ext w w1){row:Option Nat}(q:w1.grownBy w2 row)(hr:∀k,row=some k→w.heap.size≤k):Ext w w2:=Below.grown h q h.size hr
theorem Ext.cell(h:Ext w w1)(q:p.block<w.heap.size):w1.cell? p=w.cell? p:=Below.cell h q
theorem Ext.frozen(h:Ext w w1)(q:p.block<w.heap.size):w1.frozen? p=w.frozen? p:=Below.frozen h q
theorem Ext.block(h:Ext w w1)(q:k<w.heap.size):w1.heap[k]?=w.heap[k]?:=Below.block h k q
end
def Row(w:World)(size:Nat)(A:Option Addr)(n:Nat)(xs:List Value):Prop:=
 xs.length=n*size∧(0<n→∃b off,A=some ⟨b,off,none⟩∧b<w.heap.size∧∀j,j<n*size→w.cell? ⟨b,off+j,none⟩=xs[j]?)
variable{base:Nat}{e:TypeId}
section
variable{w w':World}{size n:Nat}{A:Option Addr}{xs:List Value}
theorem Row.none_:Row w size A 0 []:=⟨by simp,λh=>absurd h (by omega)⟩
theorem Row.of_own{c:Nat}(h:w.ownsRow base e size (.slice A n c) n xs):Row w size A n xs:=by
 refine⟨h.1,λG=>?_⟩;obtain⟨g,cap,hv,_,E⟩:=h.form G;have J:A=some ⟨g,0,none⟩:=by injection hv
 subst J;refine⟨g,0,rfl,E,λj O=>?_⟩;have q:j<xs.length:=by rw[h.1];exact O
 have :=h.cells (g:=g) rfl j xs[j] (List.getElem?_eq_getElem q);rw[List.getElem?_eq_getElem q,Nat.zero_add,←this];unfold Addr.add;split<;>simp_all
end
variable{n:Nat}{xs:List Value}
theorem tY{w:World}{size:Nat}{v:Value}(h:w.ownsRow base e size v n xs):∃A c,v=.slice A n c∧n≤c∧c≤maxLen:=by
 rcases h.2 with⟨rfl,rfl⟩|⟨g,cap,cur,rfl,_,_,q,E,_,_⟩
 ·exact⟨none,0,rfl,Nat.le_refl _,Nat.zero_le _⟩
 ·exact⟨_,cap,rfl,q,E⟩
theorem DM{w w':World}{size:Nat}{v:Value}(h:w.ownsRow base e size v n xs)(J:Ext w w'):w'.ownsRow base e size v n xs:=by
 refine⟨h.1,?_⟩;rcases h.2 with O|⟨g,cap,cur,rfl,U,E,Z⟩
 ·exact .inl O
 ·refine .inr ⟨g,cap,cur,rfl,U,?_,Z⟩;have q:g<w.heap.size:=by
   rcases Nat.lt_or_ge g w.heap.size with q|G
   ·exact q
   ·rw[Array.getElem?_eq_none G]at E;cases E
  rw[J.block q,E]
variable{P:Program}{t:TypeId}{b:Nat}
theorem wy{z:Value}{s:Nat}(h:(P.info? t).map (λi=>(i.zero,i.size,i.bytes))=some (some z,s,b)):∃i,P.info? t=some i∧i.zero=some z∧i.size=s∧i.bytes=b:=by
 obtain⟨q,hi,hx⟩:=Option.map_eq_some_iff.1 h;simp only[Prod.mk.injEq]at hx;exact⟨q,hi,hx.1,hx.2.1,hx.2.2⟩
structure Chg (X:List Nat) (w w':World):Prop where
 os:w'.os=w.os
 tape:w'.tape=w.tape
 output:w'.output=w.output
 size:w.heap.size≤w'.heap.size
 block:∀k,k<w.heap.size→k∉X→w'.heap[k]?=w.heap[k]?
section
variable{X Y:List Nat}{w w1 w2:World}
theorem Chg.refl(X:List Nat)(w:World):Chg X w w:=⟨rfl,rfl,rfl,Nat.le_refl _,λ_ _ _=>rfl⟩
theorem Chg.trans(h:Chg X w w1)(k:Chg Y w1 w2)(G:∀b,b∈Y→b∈X∨w.heap.size≤b):Chg X w w2:=
 ⟨k.os.trans h.os,k.tape.trans h.tape,k.output.trans h.output,Nat.le_trans h.size k.size,λb q E=>by
  rw[k.block b (Nat.lt_of_lt_of_le q h.size) (λJ=>by rcases G b J with h1|h1;exact E h1;omega),h.block b q E]⟩
theorem Chg.mono(h:Chg X w w1)(q:∀b,b∈X→b∈Y):Chg Y w w1:=⟨h.os,h.tape,h.output,h.size,λb E G=>h.block b E (λJ=>G (q b J))⟩
theorem Chg.of_ext(h:Ext w w1)(X:List Nat):Chg X w w1:=
 have h':Below w.heap.size w w1:=h
 ⟨h'.os,h'.tape,h'.output,h'.size,λb q _=>h'.block b q⟩
theorem Chg.ext(h:Chg [] w w1):Ext w w1:=(⟨h.os,h.tape,h.output,h.size,λb q=>h.block b q (by simp)⟩:Below w.heap.size w w1)
theorem Chg.alloc(w:World)(o:Obj):Chg [] w (w.alloc o):=Chg.of_ext ((Ext.refl w).alloc o) []
theorem Chg.drew(w:World):Chg [] w {w with drawn:=w.drawn+1}:=⟨rfl,rfl,rfl,Nat.le_refl _,λ_ _ _=>rfl⟩
theorem Chg.set(w:World)(b o:Nat)(v:Value):Chg [b] w (w.setCell ⟨b,o,none⟩ v):=
 ⟨rfl,rfl,rfl,by simp[World.setCell],λk E q=>Below.heap_setCell w ⟨b,o,none⟩ v k (by simpa using q)⟩
theorem Chg.grown{row:Option Nat}(h:w.grownBy w1 row):Chg row.toList w w1:=
 ⟨h.os,h.tape,h.output,h.size,λk q E=>h.block k q (λe=>E (by rw[←e];simp))⟩
def Blk(w:World)(b:Nat)(t:TypeId)(cs:List Value):Prop:=w.heap[b]?=some (.cells cs.toArray t (0,0))
variable{b:Nat}{t:TypeId}{cs:List Value}
theorem Blk.lt(h:Blk w b t cs):b<w.heap.size:=by
 rcases Nat.lt_or_ge b w.heap.size with q|E
 ·exact q
 ·unfold Blk at h;rw[Array.getElem?_eq_none E]at h;cases h
theorem Blk.cell(h:Blk w b t cs)(i:Nat):w.cell? ⟨b,i,none⟩=cs[i]?:=by unfold Blk at h;simp[World.cell?,h]
theorem Blk.frozen(h:Blk w b t cs)(i:Nat):w.frozen? ⟨b,i,none⟩=false:=by unfold Blk at h;simp[World.frozen?,h]
theorem Blk.chg(h:Blk w b t cs)(hx:Chg X w w1)(q:b∉X):Blk w1 b t cs:=(hx.block b h.lt q).trans h
theorem Blk.new(w:World)(t:TypeId)(cs:List Value):Blk (w.alloc (.cells cs.toArray t)) w.heap.size t cs:=heap_alloc_new w _
theorem Blk.set(h:Blk w b t cs)(i:Nat)(u:Value):Blk (w.setCell ⟨b,i,none⟩ u) b t (cs.set i u):=by
 unfold Blk at h⊢;simp[World.setCell,Array.getElem?_modify,h]
end
def Runs(P:Program)(a:Act)(ty:TypeId)(op:Op)(w:World)(x:Next)(w':World):Prop:=∀d ps af g,(execOp a.eval ⟨d,op,ty,ps,af,g⟩).run P w=.ok x w'
def upo(f:Nat→Option Value)(d:Option Tmp)(v:Value):Nat→Option Value:=match d with|some d=>up f d v|none=>f
def dg(d:Option Tmp)(n:Nat):Bool:=match d with|some d=>Nat.blt d n|none=>true
def lN(f:Nat→Option Value):List Operand→Option (List Value)
 |[]=>some []
 |x::r=>match ao f x with
  |some v=>match lN f r with
   |some vs=>some (v::vs)
   |none=>none
  |none=>none
def dx(f:Nat→Option Value):List (Nat×Operand)→Option (List (Nat×Value))
 |[]=>some []
 |(i,x)::r=>match ao f x with
  |some v=>match dx f r with
   |some vs=>some ((i,v)::vs)
   |none=>none
  |none=>none
variable{y:Operand}
variable{u:TypeId}
variable{A:Option Addr}{m:Nat}
variable{i:Nat}
variable{o:Nat}
variable{sz:Nat}
variable{ps:List (Nat×Operand)}
variable{tb:TypeId}
variable{vs:List Value}
section
variable{P:Program}{ops:Array Oper}{Q:Exit→Act→World→Prop}{a:Act}{w w':World}{rest:List Oper}{n:Nat}{f:Nat→Option Value}{ty:TypeId}
theorem Fr.puto(h:Fr a n f){d:Option Tmp}(hd:dg d n=true)(v:Value):Fr (a.put d v) n (upo f d v):=by
 cases d with
 |none=>exact h
 |some d=>exact h.put hd v
theorem Fr.vals(h:Fr a n f):∀{l:List Operand} {vs:List Value},lN f l=some vs→l.map a.eval=vs
 |[],vs,e=>by simp[lN]at e;simp[e]
 | x::r,vs,e=>by
  simp only[lN]at e;split at e
  ·rename_i v hv;split at e
   ·rename_i us hu;have :=h.vals hu;simp only[Option.some.injEq]at e;rw[List.map_cons,h.eval hv,this,e]
   ·cases e
  ·cases e
theorem Fr.parts(h:Fr a n f):∀{l:List (Nat×Operand)} {vs:List (Nat×Value)},dx f l=some vs→l.map (λp=>(p.1,a.eval p.2))=vs
 |[],vs,e=>by simp[dx]at e;simp[e]
 | (i,x)::r,vs,e=>by
  simp only[dx]at e;split at e
  ·rename_i v hv;split at e
   ·rename_i us hu;have :=h.parts hu;simp only[Option.some.injEq]at e;rw[List.map_cons,h.eval hv,this,e]
   ·cases e
  ·cases e
theorem iP(b o j:Nat):(⟨b,o,none⟩:Addr).add j=⟨b,o+j,none⟩:=by unfold Addr.add;split<;>simp_all
theorem qw{v:Value}(h:Fr a n f)(hx:ao f x=some v):Runs P a ty (.move x) w (.value v) w:=λ_ _ _ _=>by rw[←h.eval hx];rfl
theorem pW{v:Value}(h:Fr a n f)(hx:ao f x=some v):Runs P a ty (.assign x) w (.value v) w:=λ_ _ _ _=>by rw[←h.eval hx];rfl
theorem vb{c:Operand}{v:Value}(h:Fr a n f)(q:ao f c=some (.bool true))(hx:ao f x=some v):Runs P a ty (.pick c x y) w (.value v) w:=λ_ _ _ _=>by simp[execOp,h.eval q,h.eval hx,asBool]
theorem uA{c:Operand}{v:Value}(h:Fr a n f)(q:ao f c=some (.bool false))(hy:ao f y=some v):Runs P a ty (.pick c x y) w (.value v) w:=λ_ _ _ _=>by simp[execOp,h.eval q,h.eval hy,asBool]
theorem zz{b c:Bool}(h:Fr a n f)(hx:ao f x=some (.bool b))(q:(!b)=c):Runs P a ty (.unOp .not t x) w (.value (.bool c)) w:=λ_ _ _ _=>by subst q;simp only[execOp,h.eval hx];simp[go_sem]
section
variable{t u:TypeId}{x y:Operand}{k1:IntKind}{m l:Int}{c:Bool}
theorem Av(h:Fr a n f)(hx:ao f x=some (.int k1 m))(hy:ao f y=some (.int k1 l))(q:(m==l)=c):Runs P a ty (.binOp .eql t x y u) w (.value (.bool c)) w:=λ_ _ _ _=>by subst q;simp only[execOp,h.eval hx,h.eval hy];simp[go_sem,eqGuard]
theorem AZ(h:Fr a n f)(hx:ao f x=some (.int k1 m))(hy:ao f y=some (.int k1 l))(q:(m !=l)=c):Runs P a ty (.binOp .neq t x y u) w (.value (.bool c)) w:=λ_ _ _ _=>by subst q;simp only[execOp,h.eval hx,h.eval hy];simp[go_sem,eqGuard]
theorem lX(h:Fr a n f)(hx:ao f x=some (.int k1 m))(hy:ao f y=some (.int k1 l))(q:decide (m<l)=c):Runs P a ty (.binOp .lss t x y u) w (.value (.bool c)) w:=λ_ _ _ _=>by subst q;simp only[execOp,h.eval hx,h.eval hy];simp[go_sem,eqGuard]
theorem Ey(h:Fr a n f)(hx:ao f x=some (.int k1 m))(hy:ao f y=some (.int k1 l))(q:decide (m≤l)=c):Runs P a ty (.binOp .leq t x y u) w (.value (.bool c)) w:=λ_ _ _ _=>by subst q;simp only[execOp,h.eval hx,h.eval hy];simp[go_sem,eqGuard]
theorem vd(h:Fr a n f)(hx:ao f x=some (.int k1 m))(hy:ao f y=some (.int k1 l))(q:decide (l<m)=c):Runs P a ty (.binOp .gtr t x y u) w (.value (.bool c)) w:=λ_ _ _ _=>by subst q;simp only[execOp,h.eval hx,h.eval hy];simp[go_sem,eqGuard]
theorem EH(h:Fr a n f)(hx:ao f x=some (.int k1 m))(hy:ao f y=some (.int k1 l))(q:decide (l≤m)=c):Runs P a ty (.binOp .geq t x y u) w (.value (.bool c)) w:=λ_ _ _ _=>by subst q;simp only[execOp,h.eval hx,h.eval hy];simp[go_sem,eqGuard]
theorem tj{r:Int}(h:Fr a n f)(hx:ao f x=some (.int .i64 m))(hy:ao f y=some (.int .i64 l))(hr:m+l=r)(h1:-9223372036854775808≤r∧r≤9223372036854775807):Runs P a ty (.binOp .add t x y u) w (.value (.int .i64 r)) w:=λ_ _ _ _=>by
 have e:IntKind.i64.wrap r=r:=IntWalk.i64_in _ (by omega);subst hr;simp only[execOp,h.eval hx,h.eval hy];simp[go_sem,eqGuard,e]
end
theorem FB{m l c:Bool}(ht:P.underlying t=some .bool)(h:Fr a n f)(hx:ao f x=some (.bool m))(hy:ao f y=some (.bool l))(q:(m==l)=c):Runs P a ty (.binOp .eql t x y u) w (.value (.bool c)) w:=λ_ _ _ _=>by subst q;simp only[execOp,h.eval hx,h.eval hy];simp[go_sem,eqGuard,ht]
section
variable{t u:TypeId}{x y:Operand}{m l:List UInt8}{c:Bool}
theorem ER(h:Fr a n f)(hx:ao f x=some (.string ⟨m.toArray⟩))(hy:ao f y=some (.string ⟨l.toArray⟩))(q:(m==l)=c):Runs P a ty (.binOp .eql t x y u) w (.value (.bool c)) w:=λ_ _ _ _=>by subst q;simp only[execOp,h.eval hx,h.eval hy];simp[go_sem,eqGuard]
theorem Eh(h:Fr a n f)(hx:ao f x=some (.string ⟨m.toArray⟩))(hy:ao f y=some (.string ⟨l.toArray⟩))(q:(m !=l)=c):Runs P a ty (.binOp .neq t x y u) w (.value (.bool c)) w:=λ_ _ _ _=>by subst q;simp only[execOp,h.eval hx,h.eval hy];simp[go_sem,eqGuard,bne]
theorem Dd(h:Fr a n f)(ht:P.underlying t=some .string)(hx:ao f x=some (.string ⟨m.toArray⟩)):Runs P a ty (.call {callee:=.builtin .len,args:=#[x],argTypes:=#[t]}) w (.value (.int .i64 m.length)) w:=λ_ _ _ _=>by
 simp only[execOp,resolve,List.map_toArray,List.map_cons,List.map_nil,h.eval hx];simp[go_sem,resolve,invoke,builtin,ht]
end
theorem ku{c:Nat}(h:Fr a n f)(ht:P.underlying t=some (.slice e))(hx:ao f x=some (.slice A m c)):Runs P a ty (.call {callee:=.builtin .len,args:=#[x],argTypes:=#[t]}) w (.value (.int .i64 m)) w:=λ_ _ _ _=>by
 simp only[execOp,resolve,List.map_toArray,List.map_cons,List.map_nil,h.eval hx];simp[go_sem,resolve,invoke,builtin,ht]
theorem sE(h:Fr a n f)(hx:ao f x=some (.pointer (some p))):Runs P a ty (.nilCheck x) w (.value (.pointer (some p))) w:=λ_ _ _ _=>by simp only[execOp,h.eval hx];rfl
theorem so{vs:Array Value}{v:Value}(h:Fr a n f)(hx:ao f x=some (.tuple vs))(hi:vs[i]?=some v):Runs P a ty (.extract x i) w (.value v) w:=λ_ _ _ _=>by
 simp only[execOp,h.eval hx];simp[Instr.extract,hi]
theorem yZ{v:Value}(h:Fr a n f)(hx:ao f x=some (.pointer (some ⟨b,o,none⟩)))(hv:∀w,(Instr.fieldAt t (.pointer (some ⟨b,o,none⟩)) i).run P w=.ok v w):Runs P a ty (.fieldAddr t x i) w (.value v) w:=λ_ _ _ _=>by
 simp only[execOp,h.eval hx];simp[hv]
theorem vh{cs:Array Value}{v:Value}(h:Fr a n f)(hx:ao f x=some (.agg cs))(hv:∀w,(Instr.field t (.agg cs) i).run P w=.ok v w):Runs P a ty (.field t x i) w (.value v) w:=λ_ _ _ _=>by
 simp only[execOp,h.eval hx];simp[hv]
theorem iQ{c r:Nat}{i:Int}{k:Nat}(h:Fr a n f)(ht:P.underlying t=some (.slice e))(E:(P.info? e).map (·.size)=some sz)(hx:ao f x=some (.slice (some ⟨b,o,none⟩) m c))(hy:ao f y=some (.int .i64 i))
  (G:i=(k:Int)) (q:k<m) (hr:o+k*sz=r):Runs P a ty (.indexAddr t x y) w (.value (.pointer (some ⟨b,r,none⟩))) w:=λ_ _ _ _=>by
 obtain⟨O,hi,J⟩:=Option.map_eq_some_iff.1 E;subst G J hr;simp only[execOp,h.eval hx,h.eval hy];simp[Instr.indexAt,asIntOf,run_underlying ht,sizeOf,typeInfo,hi,q,iP]
theorem rt{vs:List (Nat×Value)}{v:Value}(h:Fr a n f)(hx:dx f ps=some vs)(hv:∀w,(Instr.build t vs.toArray).run P w=.ok v w):Runs P a ty (.build t ps.toArray) w (.value v) w:=λ_ _ _ _=>by
 have e:(ps.toArray.map λ(i,x)=>(i,a.eval x))=vs.toArray:=by rw[←h.parts hx];simp
 simp only[execOp];rw[e];simp[hv]
def cS(P:Program)(t:TypeId):Bool:=match P.underlying t with
 |some (.struct _)=>false
 |some (.array _ _)=>false
 |some _=>true
 |none=>false
def jt(P:Program)(t:TypeId):Option Nat:=match P.underlying t with
 |some (.struct _)=>(P.info? t).map (·.size)
 |some (.array _ _)=>(P.info? t).map (·.size)
 |_=>none
def bS(P:Program)(t:TypeId):Option Nat:=(P.info? t).map (·.size)
def jb(P:Program)(t:TypeId):Option (List Value):=((P.info? t).bind (·.zero)).map (·.cells.toList)
theorem tF{v:Value}(ht:cS P t=true)(E:w.cell? p=some v):(Instr.loadAt t (.pointer (some p))).run P w=.ok v w:=by
 unfold cS at ht;cases q:P.underlying t with
 |none=>rw[q]at ht;cases ht
 |some d=>
  rw[q]at ht;cases d<;>first|(simp[Instr.loadAt,Instr.sureAddr,loadVar,isAgg,run_underlying q,E];done)|cases ht
theorem ph(b:Nat):∀(m i o:Nat) (acc:List Value) (cs:List Value),cs.length=m→(∀j,j<m→w.cell? ⟨b,o+i+j,none⟩=cs[j]?)→(loadCellsFrom ⟨b,o,none⟩ i m acc.toArray).run P w=.ok (acc++cs).toArray w
 |0,i,o,acc,cs,hl,hc=>by
  have :cs=[]:=List.eq_nil_of_length_eq_zero hl;subst this;simp[loadCellsFrom]
 | m+1,i,o,acc,cs,hl,hc=>by
  cases cs with
  |nil=>cases hl
  |cons c r=>
   have h0:=hc 0 (by omega);simp only[Nat.add_zero,List.getElem?_cons_zero]at h0;have ih:=ph b m (i+1) o (acc++[c]) r (by simpa using hl) (λj hj=>by have :=hc (j+1) (by omega);simpa[Nat.add_assoc,Nat.add_comm 1 j]using this);have ha:(⟨b,o,none⟩:Addr).add i=⟨b,o+i,none⟩:=by unfold Addr.add;split<;>simp_all
   simp only[loadCellsFrom,ha];simp[go_sem,h0];simpa using ih
theorem pX{cs:List Value}(ht:jt P t=some m)(G:cs.length=m)(J:∀j,j<m→w.cell? ⟨b,o+j,none⟩=cs[j]?):(Instr.loadAt t (.pointer (some ⟨b,o,none⟩))).run P w=.ok (.agg cs.toArray) w:=by
 have E:(isAgg t).run P w=.ok true w∧(sizeOf t).run P w=.ok m w:=by
  unfold jt at ht;cases q:P.underlying t with
  |none=>rw[q]at ht;cases ht
  |some d=>
   rw[q]at ht;cases d<;>first|cases ht|(obtain⟨i,hi,O⟩:=Option.map_eq_some_iff.1 ht;simp[isAgg,run_underlying q,sizeOf,typeInfo,hi,O])
 have U:=ph (P:=P) (w:=w) b m 0 o [] cs G (by simpa using J);simp only[Instr.loadAt,Instr.sureAddr,loadVar,loadCells];simp[E.1,E.2,U]
theorem ex_load{v:Value}(h:Fr a n f)(hx:ao f x=some (.pointer (some p)))(ht:cS P t=true)(q:w.cell? p=some v):Runs P a ty (.load t x) w (.value v) w:=λ_ _ _ _=>by
 simp only[execOp,h.eval hx];simp[tF ht q]
theorem ei{cs:List Value}{v:Value}(h:Fr a n f)(hx:ao f x=some (.pointer (some ⟨b,o,none⟩)))(ht:cS P t=true)(q:Blk w b tb cs)(hv:cs[o]?=some v):Runs P a ty (.load t x) w (.value v) w:=
 ex_load h hx ht (by rw[q.cell,hv])
theorem ex_loadN{cs:List Value}(h:Fr a n f)(hx:ao f x=some (.pointer (some ⟨b,o,none⟩)))(ht:jt P t=some m)(q:cs.length=m)(E:∀j,j<m→w.cell? ⟨b,o+j,none⟩=cs[j]?):Runs P a ty (.load t x) w (.value (.agg cs.toArray)) w:=λ_ _ _ _=>by
 simp only[execOp,h.eval hx];simp[pX ht q E]
theorem eP{cs:List Value}(h:Fr a n f)(hx:ao f x=some (.pointer (some ⟨b,0,none⟩)))(ht:jt P t=some m)(q:Blk w b tb cs)(E:cs.length=m):Runs P a ty (.load t x) w (.value (.agg cs.toArray)) w:=
 ex_loadN h hx ht E (λj G=>by rw[q.cell];simp)
theorem pG{v:Value}(h:v.oneCell'=true):v.cells=#[v]:=by cases v<;>first|rfl|cases h
theorem vE(cs:List Value)(J:jb P t=some cs)(a:Act)(w:World)(ty:TypeId):∃w' b,Runs P a ty (.alloc t) w (.value (.pointer (some ⟨b,0,none⟩))) w'∧Blk w' b t cs∧Chg [] w w'∧b=w.heap.size∧b<w'.heap.size:=by
 refine⟨w.alloc (.cells cs.toArray t),w.heap.size,λ_ _ _ _=>?_,Blk.new w t cs,Chg.alloc _ _,rfl,by simp⟩;unfold jb at J;obtain⟨z,q,E⟩:=Option.map_eq_some_iff.1 J;obtain⟨i,hi,G⟩:=Option.bind_eq_some_iff.1 q;have e:z.cells=cs.toArray:=by rw[←E]
 simp[execOp,Instr.alloc,zeroValue,typeInfo,hi,G,newVar,newRow,e]
theorem nS{v:Value}{cs:List Value}(h:Fr a n f)(hx:ao f x=some v)(hv:v.cells=cs.toArray)(w:World)(ty:TypeId):∃w' b,Runs P a ty (.box t x) w (.value (.pointer (some ⟨b,0,none⟩))) w'∧Blk w' b t cs∧Chg [] w w'∧b=w.heap.size∧b<w'.heap.size:=by
 refine⟨w.alloc (.cells cs.toArray t),w.heap.size,λ_ _ _ _=>?_,Blk.new w t cs,Chg.alloc _ _,rfl,by simp⟩;simp only[execOp,h.eval hx];simp[Instr.box,newVar,newRow,hv]
theorem vS{v:Value}{cs:List Value}(h:Fr a n f)(hx:ao f x=some (.pointer (some ⟨b,o,none⟩)))(hy:ao f y=some v)(J:bS P t=some 1)(h1:v.oneCell'=true)(q:Blk w b tb cs)(O:o<cs.length)(ty:TypeId):
  ∃w',Runs P a ty (.store t x y) w .skip w'∧Blk w' b tb (cs.set o v)∧Chg [b] w w':=by
 refine⟨w.setCell ⟨b,o,none⟩ v,λ_ _ _ _=>?_,q.set o v,Chg.set w b o v⟩;obtain⟨i,hi,U⟩:=Option.map_eq_some_iff.1 (show(P.info? t).map (·.size)=some 1 from J);have Z:w.cell? ⟨b,o,none⟩=some cs[o]:=by rw[q.cell];simp[O]
 have E:=q.frozen o;have ha:(⟨b,o,none⟩:Addr).add 0=⟨b,o,none⟩:=by unfold Addr.add;split<;>simp_all
 simp only[execOp,h.eval hx,h.eval hy];have hv:v.cells=#[v]:=pG h1;have G:=run_store P w ⟨b,o,none⟩ v .plain h1;simp[Instr.storeAt,Instr.sureAddr,storeVar,sizeOf,typeInfo,hi,U,hv,storeCells,ha,G,stored,Z,E]
theorem Ak{cs:List Value}(h:Fr a n f)(hx:ao f x=some (.pointer (some ⟨b,0,none⟩)))(hy:ao f y=some (.agg vs.toArray))(hz:bS P t=some m)(hv:vs.length=m)(hone:vs.all (·.oneCell')=true)(hb:Blk w b tb cs)(hm:cs.length=m)(ty:TypeId):
  ∃w',Runs P a ty (.store t x y) w .skip w'∧Blk w' b tb vs∧Chg [b] w w':=by
 obtain⟨i,hi,hs⟩:=Option.map_eq_some_iff.1 (show(P.info? t).map (·.size)=some m from hz);have key:∀(l:List Value) (j:Nat) (w:World) (cs:List Value),Blk w b tb cs→j+l.length=cs.length→l.all (·.oneCell')=true→∃w',(storeCells ⟨b,0,none⟩ l j).run P w=.ok () w'∧Blk w' b tb (cs.take j++l)∧Chg [b] w w':=by
  intro l
  induction l with
  |nil=>intro j w cs hb hj _;exact⟨w,by simp[storeCells],by simp at hj;subst hj;simpa using hb,Chg.refl _ _⟩
  | cons c r ih=>
   intro j w cs hb hj hone;simp only[List.all_cons,Bool.and_eq_true]at hone;simp only[List.length_cons]at hj;have ho:j<cs.length:=by omega
   have hc:w.cell? ⟨b,j,none⟩=some cs[j]:=by rw[hb.cell];simp[ho]
   have hfz:=hb.frozen j;have ha:(⟨b,0,none⟩:Addr).add j=⟨b,j,none⟩:=by unfold Addr.add;split<;>simp_all
   obtain⟨w2,h1,h2,h3⟩:=ih (j+1) (w.setCell ⟨b,j,none⟩ c) (cs.set j c) (hb.set j c) (by simp;omega) hone.2;refine⟨w2,?_,?_,(Chg.set w b j c).trans h3 (λx hx=>.inl hx)⟩
   ·simp only[storeCells,ha];have hst:=run_store P w ⟨b,j,none⟩ c .plain hone.1;simp[hst,stored,hc,hfz];exact h1
   ·have :(cs.set j c).take (j+1)++r=cs.take j++c::r:=by
     rw[List.take_succ_eq_append_getElem (by simpa using ho)];have e:List.take j (cs.set j c)=List.take j cs:=List.take_set_of_le (Nat.le_refl _);simp[e]
    rw[←this];exact h2
 obtain⟨w1,h1,h2,h3⟩:=key vs 0 w cs hb (by omega) hone;refine⟨w1,λ_ _ _ _=>?_,by simpa using h2,h3⟩;simp only[execOp,h.eval hx,h.eval hy];simp[Instr.storeAt,Instr.sureAddr,storeVar,sizeOf,typeInfo,hi,hs,hv,Value.cells,h1]
end
def bE(P:Program)(fid:FuncId):Bool:=match P.funcs[fid]? with
 |some fn=>!(fn.name== "runtime.NumGoroutine")&&fn.body.isSome
 |none=>false
variable{fid:FuncId}
theorem kW(q:bE P fid=true)(args:Array Value)(w:World):(callFunc fid args).run P w=.ok (.enter fid args) w:=by
 unfold bE at q;split at q
 ·rename_i fn hf;simp only[Bool.and_eq_true,Bool.not_eq_true',beq_eq_false_iff_ne,ne_eq]at q;have E:fn.body.isNone=false:=by cases hx:fn.body<;>simp_all
  simp[callFunc,hf,q.1,E];intro G;simp[G]at E
 ·cases q
section
variable{P:Program}{ops:Array Oper}{Q:Exit→Act→World→Prop}{a:Act}{w w':World}{rest:List Oper}{n:Nat}{f:Nat→Option Value}{ty:TypeId}
variable{d:Option Tmp}{op:Op}{ps:String}{af:Array Edge}{g:Option (Nat×Bool)}{v:Value}
theorem sI{args:List Operand}{tys:Array TypeId}{R:Ending→World→Prop}{K:Act→World→Prop}(h:Fr a n f)(hd:dg d n=true)(hv:lN f args=some vs)(q:bE P fid=true)
  (E:Calls P fid vs.toArray w R) (k:∀e w',R e w'→∃v,e=.returned v∧K (a.put d v) w'):
  Oper.wp P ⟨d,.call {callee:=.value (.func fid),args:=args.toArray,argTypes:=tys},ty,ps,af,g⟩ a w K Q:=by
 have hx:(execOp a.eval ⟨d,.call {callee:=.value (.func fid),args:=args.toArray,argTypes:=tys},ty,ps,af,g⟩).run P w=.ok (.enter fid vs.toArray) w:=by
  have e:args.toArray.map a.eval=vs.toArray:=by rw[←h.vals hv];simp
  simp only[execOp,resolve,e];simp[Act.eval,Deferred.ofValue,invoke,kW q]
 unfold Oper.wp;rw[hx,Oper.upon_enter];refine E.mono λe w1 G=>?_;obtain⟨v,rfl,J⟩:=k e w1 G;exact J
theorem Bj(h:Fr a n f)(q:dn f ops g=true)(hd:dg d n=true)(E:Runs P a ty op w (.value v) w')
  (k:∀a',Fr a' n (upo f d v)→wpList P ops Q rest a' w'):wpList P ops Q (⟨d,op,ty,ps,af,g⟩::rest) a w:=by
 unfold wpList;rw[if_pos (gq h (o:=⟨d,op,ty,ps,af,g⟩) q)];refine .inl ?_;unfold Oper.wp;rw[E];exact k _ (h.puto hd v)
theorem GR(h:Fr a n f)(q:dn f ops g=true)(hd:dg d n=true)(E:Runs P a ty op w .skip w')
  (k:∀a',Fr a' n (upo f d undef)→wpList P ops Q rest a' w'):wpList P ops Q (⟨d,op,ty,ps,af,g⟩::rest) a w:=by
 unfold wpList;rw[if_pos (gq h (o:=⟨d,op,ty,ps,af,g⟩) q)];refine .inl ?_;unfold Oper.wp;rw[E];exact k _ (h.puto hd undef)
theorem Hc(h:Fr a n f)(q:nk f ops g=true)(hd:dg d n=true)(k:∀a',Fr a' n (upo f d undef)→wpList P ops Q rest a' w):wpList P ops Q (⟨d,op,ty,ps,af,g⟩::rest) a w:=by
 unfold wpList;rw[if_neg (by rw[ot h (o:=⟨d,op,ty,ps,af,g⟩) q];simp)];exact k _ (h.puto hd undef)
theorem GT{args:List Operand}{tys:Array TypeId}{R:Ending→World→Prop}(h:Fr a n f)(q:dn f ops g=true)(hd:dg d n=true)(hv:lN f args=some vs)(E:bE P fid=true)
  (G:Calls P fid vs.toArray w R) (k:∀e w',R e w'→∃v,e=.returned v∧∀a',Fr a' n (upo f d v)→wpList P ops Q rest a' w'):
  wpList P ops Q (⟨d,.call {callee:=.value (.func fid),args:=args.toArray,argTypes:=tys},ty,ps,af,g⟩::rest) a w:=by
 unfold wpList;rw[if_pos (gq h (o:=⟨d,_,ty,ps,af,g⟩) q)];refine .inl (sI h hd hv E G λe w1 J=>?_);obtain⟨v,hv,O⟩:=k e w1 J;exact⟨v,hv,O _ (h.puto hd v)⟩
theorem AD(k:Q .normal a w):wpList P ops Q [] a w:=k
theorem qY{c:Operand}{q E:Code}(h:Fr a n f)(G:ao f c=some (.bool true))(k:q.wp P Q a w):(Code.cond c q E).wp P Q a w:=
 wp_cond_true (h.eval G) k
theorem rr{c:Operand}{E q:Code}(h:Fr a n f)(G:ao f c=some (.bool false))(k:q.wp P Q a w):(Code.cond c E q).wp P Q a w:=
 wp_cond_false (h.eval G) k
end
section
variable{P:Program}{Q:Exit→Act→World→Prop}{a:Act}{w:World}{n:Nat}{f:Nat→Option Value}
def fm:List (Nat×Value)→Nat→Option Value
 |[],_=>none
 |(j,v)::r,i=>match Nat.beq i j with|true=>some v|false=>fm r i
def Cz(f:Nat→Option Value):List (Nat×Value)→Prop
 |[]=>True
 |(j,v)::r=>f j=some v∧Cz f r
theorem CM:∀{l:List (Nat×Value)},Cz f l→∀i v,fm l i=some v→f i=some v
 |[],_,i,v,h=>by cases h
 | (j,u)::r,hA,i,v,h=>by
  simp only[fm]at h;split at h
  ·rename_i hb;have :=Nat.eq_of_beq_eq_true hb;subst this;rw[←h];exact hA.1
  ·exact CM hA.2 i v h
theorem Fr.pick(h:Fr a n f){l:List (Nat×Value)}(q:Cz f l):Fr a n (fm l):=h.le (CM q)
def lP(P:Program)(f:Nat→Option Value)(w:World):List ResultVar→List Value→Prop
 |[],vs=>vs=[]
 |.tmp t::r,vs=>∃v us,vs=v::us∧f t=some v∧lP P f w r us
 |.cell t ty::r,vs=>∃cs us b tb m,vs=.agg cs.toArray::us∧f t=some (.pointer (some ⟨b,0,none⟩))∧jt P ty=some m∧Blk w b tb cs∧cs.length=m∧lP P f w r us
def kQ(a:Act):ResultVar→Sem Value
 |.tmp t=>pure (a.tmps.getD t undef)
 |.cell x t=>do loadVar t (←asAddr (a.tmps.getD x undef))
theorem tc(h:Fr a n f):∀{l:List ResultVar} {vs:List Value},lP P f w l vs→(l.mapM (kQ a)).run P w=.ok vs w
 |[],vs,e=>by simp only[lP]at e;simp[e]
 | .tmp t::r,vs,e=>by
  simp only[lP]at e;obtain⟨v,us,rfl,h1,h2⟩:=e;have ih:=tc h h2;have h3:(kQ a (.tmp t)).run P w=.ok v w:=by
   have :=h.get t v h1;simp[kQ,Array.getD_eq_getD_getElem?,this]
  simp[List.mapM_cons,h3,ih]
 | .cell t ty::r,vs,e=>by
  simp only[lP]at e;obtain⟨cs,us,b,tb,m,rfl,h1,h2,h3,h4,h5⟩:=e;have ih:=tc h h5;have hL:=pX (P:=P) (w:=w) (b:=b) (o:=0) h2 h4 (λj hj=>by rw[h3.cell];simp);have h6:(kQ a (.cell t ty)).run P w=.ok (.agg cs.toArray) w:=by
   have :=h.get t _ h1;simp only[Instr.loadAt,Instr.sureAddr]at hL;simp at hL;simp[kQ,Array.getD_eq_getD_getElem?,this,asAddr,hL]
  simp[List.mapM_cons,h6,ih]
def kR:List Value→Value
 |[v]=>v
 |vs=>.tuple vs.toArray
theorem ret_of{fn:Func}{R:Ending→World→Prop}{rs:List ResultVar}(h:Fr a n f)(hr:fn.results=rs.toArray)(hv:lP P f w rs vs)(q:R (.returned (kR vs)) w):bodyPost P fn R .ret a w:=by
 refine bodyPost_ret (v:=kR vs) ?_ h.defers q;have E:=tc h hv;have e:(Array.mapM (kQ a) rs.toArray).run P w=.ok vs.toArray w:=by rw[List.mapM_toArray];simp[E]
 unfold results;rw[hr];change ((Array.mapM (kQ a) rs.toArray)>>=λvs=>pure (if h:vs.size=1 then vs[0]else .tuple vs)).run P w=_;simp only[Sem.run_bind,e,Result.andThen_ok,Sem.run_pure]
 match vs with
 |[]=>rfl
 |[v]=>rfl
 |v::u::r=>simp[kR]
theorem FD{fn:Func}{R:Ending→World→Prop}{rs:List ResultVar}(h:Fr a n f)(hr:fn.results=rs.toArray)(hv:lP P f w rs vs)(q:R (.returned (kR vs)) w):bodyPost P fn R .normal a w:=
 ret_of h hr hv q
theorem Ci{fn:Func}{c:Code}{args:List Value}{R:Ending→World→Prop}(N:Nat)(hf:P.funcs[fid]?=some fn)(E:fn.body=some c)(G:fn.ntmps=N)(J:Nat.ble args.length N=true)
  (k:∀a,Fr a N (λi=>args[i]?)→c.wp P (bodyPost P fn R) a w):Calls P fid args.toArray w R:=by
 refine calls_of_wp hf E (k _ ⟨?_,rfl,λi v hi=>?_⟩)
 ·have :args.length≤N:=by simpa using J
  simp[G];omega
 ·have q:i<args.length:=by
   rcases Nat.lt_or_ge i args.length with h|h
   ·exact h
   ·rw[List.getElem?_eq_none h]at hi;cases hi
  rw[Array.getElem?_append_left (by simpa using q)];simpa using hi
end
section
variable{P:Program}{ops:Array Oper}{Q:Exit→Act→World→Prop}{md:Region.Mode}{S:World→Prop}
def ja(md:Region.Mode)(ops:Array Oper)(m i:Nat):Bool:=match ops[m]? with
 |none=>true
 |some o=>o.after.any (λe=>Region.binds md e&&e.on==i)
def wpAnyL(P:Program)(md:Region.Mode)(ops:Array Oper)(Q:Exit→Act→World→Prop)(S:World→Prop)(m:Nat):Nat→Array Bool→Act→World→Prop
 |0,listed,a,w=>Region.ready md ops listed=[]∧Q .normal a w
 |fuel+1,listed,a,w=>
  (Region.ready md ops listed=[]→Q .normal a w)∧
  ∀i∈Region.ready md ops listed,wpOp P ops Q i (λa' w'=>(S w'∨(listed.setIfInBounds i true).getD m false=true)∧wpAnyL P md ops Q S m fuel (listed.setIfInBounds i true) a' w') a w
theorem sp{m:Nat}:∀(fuel:Nat) (listed:Array Bool) (a:Act) (w:World),wpAnyL P md ops Q S m fuel listed a w→wpAny P md ops Q fuel listed a w
 |0,_,_,_,h=>h
 |fuel+1,_,_,_,h=>⟨h.1,λi hi=>wpOp_mono (λa' w' h'=>sp fuel _ a' w' h'.2) (h.2 i hi)⟩
theorem fz{listed:Array Bool}(h:listed.getD m false=true):(listed.setIfInBounds i true).getD m false=true:=by
 rw[Array.getD_eq_getD_getElem?]at *;rw[Array.getElem?_setIfInBounds];split
 ·rename_i q;subst q;split
  ·rfl
  ·rename_i E;rw[Array.getElem?_eq_none (by omega)]at h;cases h
 ·exact h
theorem me{listed:Array Bool}{j:Nat}{oj:Oper}(hr:i∈Region.ready md ops listed)(E:∀e∈oj.after,Region.binds md e=true→listed.getD e.on false=true):∀e∈oj.after,Region.binds md e=true→e.on≠i:=λe J O G=>by
 have q:=(mem_ready.1 hr).1;have h1:=E e J O;rw[G]at h1;rcases Nat.lt_or_ge i listed.size with h'|h'
 ·simp[h']at q h1;rw[q]at h1;cases h1
 ·simp[Array.getElem?_eq_none h']at h1
theorem wpAnyL_pure {m:Nat} {i:Nat} {oi:Oper} {v:Value} (him:i≠m) (hi:ops[i]?=some oi) (hsel:∀(j:Nat) (o:Oper) cs b,ops[j]?=some o→o.op≠.select cs b)
    (hQ:∀c a w,Q (.panic c) (a.put oi.dst v) w→Q (.panic c) a w):
    ∀ (fuel:Nat) (listed:Array Bool) (a:Act) (w:World),
      (∀j oj,ops[j]?=some oj→j≠i→listed.getD j true=false→(∀e∈oj.after,Region.binds md e=true→e.on≠i)→oi.apart ops oj=true)→
      i∈Region.ready md ops listed→YieldsIf P ops (λ_=>True) oi v a→(S w∨listed.getD m false=true)→
      wpAnyL P md ops Q S m fuel (listed.setIfInBounds i true) (a.put oi.dst v) w→wpAnyL P md ops Q S m (fuel+1) listed a w:=by
  intro fuel
  induction fuel with
  | zero=>
    intro listed a w _ hr hy hS H;refine⟨λh=>(by rw[h]at hr;cases hr),λj hj=>?_⟩;by_cases hji:j=i
    ·subst hji;exact hy.wpOp hi trivial ⟨hS.imp id fz,H⟩
    · have :=ready_mono hj hji;rw[H.1]at this;cases this
  | succ fuel ih=>
    intro listed a w hfree hr hy hS H;refine⟨λh=>(by rw[h]at hr;cases hr),λj hj=>?_⟩;by_cases hji:j=i
    ·subst hji;exact hy.wpOp hi trivial ⟨hS.imp id fz,H⟩
    · have h1:=H.2 j (ready_mono hj hji);obtain⟨hjun,oj,hoj,hall⟩:=mem_ready.1 hj;have hnot:=me (j:=j) hr hall;have h2:=wpOp_putIf hoj (hfree j oj hoj hji hjun hnot) (λcs b=>hsel i oi cs b hi) (λcs b=>hsel j oj cs b hoj) hQ hy h1;have hfree':∀k ok,ops[k]?=some ok→k≠i→(listed.setIfInBounds j true).getD k true=false→
          (∀e∈ok.after,Region.binds md e=true→e.on≠i)→oi.apart ops ok=true:=λk ok hk hki hun hno=>by
        refine hfree k ok hk hki ?_ hno;by_cases hjk:j=k
        ·subst hjk;exact hjun
        ·rw[getD_set_ne true hjk]at hun;exact hun
      refine wpOp_mono (λa' w' h3=>?_) h2;have hS3:S w'∨(listed.setIfInBounds j true).getD m false=true:=h3.2.1.imp id λh=>by
        rw[Array.setIfInBounds_comm _ _ (λe=>hji e.symm),getD_set_ne false him]at h;exact h
      refine⟨hS3,ih (listed.setIfInBounds j true) a' w' hfree' (ready_mono hr (Ne.symm hji)) h3.1 hS3 ?_⟩;rw[Array.setIfInBounds_comm _ _ hji];exact h3.2.2
theorem wpAnyL_load {m:Nat} {i:Nat} {oi:Oper} {v:Value} (him:i≠m) (hwt:ja md ops m i=true) (hi:ops[i]?=some oi) (hsel:∀(j:Nat) (o:Oper) cs b,ops[j]?=some o→o.op≠.select cs b)
    (hQ:∀c a w,Q (.panic c) (a.put oi.dst v) w→Q (.panic c) a w):
    ∀ (fuel:Nat) (listed:Array Bool) (a:Act) (w:World),
      (∀j oj,ops[j]?=some oj→j≠i→listed.getD j true=false→(∀e∈oj.after,Region.binds md e=true→e.on≠i)→oi.apart ops oj=true)→
      i∈Region.ready md ops listed→YieldsIf P ops S oi v a→S w→listed.getD m false=false→
      wpAnyL P md ops Q S m fuel (listed.setIfInBounds i true) (a.put oi.dst v) w→wpAnyL P md ops Q S m (fuel+1) listed a w:=by
  intro fuel
  induction fuel with
  | zero=>
    intro listed a w _ hr hy hS _ H;refine⟨λh=>(by rw[h]at hr;cases hr),λj hj=>?_⟩;by_cases hji:j=i
    ·subst hji;exact hy.wpOp hi hS ⟨.inl hS,H⟩
    · have :=ready_mono hj hji;rw[H.1]at this;cases this
  | succ fuel ih=>
    intro listed a w hfree hr hy hS hlm H;refine⟨λh=>(by rw[h]at hr;cases hr),λj hj=>?_⟩;by_cases hji:j=i
    ·subst hji;exact hy.wpOp hi hS ⟨.inl hS,H⟩
    · have h1:=H.2 j (ready_mono hj hji);obtain⟨hjun,oj,hoj,hall⟩:=mem_ready.1 hj;have hnot:=me (j:=j) hr hall;have hjm:j≠m:=by
        rintro rfl;unfold ja at hwt;rw[hoj]at hwt;obtain⟨e,he,hb⟩:=Array.any_eq_true'.1 hwt;simp only[Bool.and_eq_true,beq_iff_eq]at hb;exact hnot e he hb.1 hb.2
      have h2:=wpOp_putIf hoj (hfree j oj hoj hji hjun hnot) (λcs b=>hsel i oi cs b hi) (λcs b=>hsel j oj cs b hoj) hQ hy h1;have hfree':∀k ok,ops[k]?=some ok→k≠i→(listed.setIfInBounds j true).getD k true=false→
          (∀e∈ok.after,Region.binds md e=true→e.on≠i)→oi.apart ops ok=true:=λk ok hk hki hun hno=>by
        refine hfree k ok hk hki ?_ hno;by_cases hjk:j=k
        ·subst hjk;exact hjun
        ·rw[getD_set_ne true hjk]at hun;exact hun
      refine wpOp_mono (λa' w' h3=>?_) h2;have hlm':(listed.setIfInBounds j true).getD m false=false:=by rw[getD_set_ne false hjm];exact hlm
      have hS':S w':=by
        rcases h3.2.1 with h|h
        ·exact h
        · rw[Array.setIfInBounds_comm _ _ (λe=>hji e.symm),getD_set_ne false him,hlm']at h;cases h
      refine⟨.inl hS',ih (listed.setIfInBounds j true) a' w' hfree' (ready_mono hr (Ne.symm hji)) h3.1 hS' hlm' ?_⟩;rw[Array.setIfInBounds_comm _ _ hji];exact h3.2.2
variable{a:Act}{w w':World}{n:Nat}{f:Nat→Option Value}{ty:TypeId}{d:Option Tmp}{op:Op}{ps:String}{af:Array Edge}{g:Option (Nat×Bool)}{v:Value}{m fuel:Nat}{listed:Array Bool}
theorem Cl{id:Nat}{l:List Oper}(S:World→Prop)(m sz:Nat)(hsz:l.length=sz)(q:P.follows .mixedOrders=true)(E:Region.noSelect l.toArray=true)
  (k:∀w',Chg [] w w'→Region.noSelect l.toArray=true→wpAnyL P .any l.toArray (NoPanic Q) S m sz (Array.replicate sz false) a w'):(Code.region id l.toArray true).wp P Q a w:=by
 refine wp_region_noPanic (wp_region_any q (sp (S:=S) (m:=m) _ _ _ _ ?_));have :=k _ (Chg.drew w) E;subst hsz;simpa using this
theorem dl_v(i:Nat)(q:Nat.beq i m=false)(hi:ops[i]?=some ⟨d,op,ty,ps,af,g⟩)(E:Region.noSelect ops=true)(hf:Region.free .any ops listed i=true)(hr:(Region.ready .any ops listed).contains i=true)
  (h:Fr a n f) (G:dn f ops g=true) (hd:dg d n=true) (J:S w∨listed.getD m false=true) (O:∀w',Runs P a ty op w' (.value v) w')
  (k:∀a',Fr a' n (upo f d v)→wpAnyL P .any ops (NoPanic Q) S m fuel (listed.setIfInBounds i true) a' w):wpAnyL P .any ops (NoPanic Q) S m (fuel+1) listed a w:=
 wpAnyL_pure (Nat.ne_of_beq_eq_false q) hi (Region.noSelect_spec E) (λ_ _ _ h=>h.elim) fuel listed a w (Region.free_spec hi hf) (by simpa using hr)
  (.inl ⟨gq h G,λw' _=>O w' _ _ _ _⟩) J (k _ (h.puto hd v))
theorem GK(i:Nat)(q:Nat.beq i m=false)(hi:ops[i]?=some ⟨d,op,ty,ps,af,g⟩)(E:Region.noSelect ops=true)(hf:Region.free .any ops listed i=true)(hr:(Region.ready .any ops listed).contains i=true)
  (h:Fr a n f) (G:nk f ops g=true) (hd:dg d n=true) (J:S w∨listed.getD m false=true)
  (k:∀a',Fr a' n (upo f d undef)→wpAnyL P .any ops (NoPanic Q) S m fuel (listed.setIfInBounds i true) a' w):wpAnyL P .any ops (NoPanic Q) S m (fuel+1) listed a w:=
 wpAnyL_pure (Nat.ne_of_beq_eq_false q) hi (Region.noSelect_spec E) (λ_ _ _ h=>h.elim) fuel listed a w (Region.free_spec hi hf) (by simpa using hr)
  (.inr ⟨ot h G,rfl⟩) J (k _ (h.puto hd undef))
theorem GF(i:Nat)(q:Nat.beq i m=false)(E:ja .any ops m i=true)(G:listed.getD m false=false)(hi:ops[i]?=some ⟨d,op,ty,ps,af,g⟩)(J:Region.noSelect ops=true)(hf:Region.free .any ops listed i=true)(hr:(Region.ready .any ops listed).contains i=true)
  (h:Fr a n f) (O:dn f ops g=true) (hd:dg d n=true) (U:S w) (Z:∀w',S w'→Runs P a ty op w' (.value v) w')
  (k:∀a',Fr a' n (upo f d v)→wpAnyL P .any ops (NoPanic Q) S m fuel (listed.setIfInBounds i true) a' w):wpAnyL P .any ops (NoPanic Q) S m (fuel+1) listed a w:=
 wpAnyL_load (Nat.ne_of_beq_eq_false q) E hi (Region.noSelect_spec J) (λ_ _ _ h=>h.elim) fuel listed a w (Region.free_spec hi hf) (by simpa using hr)
  (.inl ⟨gq h O,λw' hS'=>Z w' hS' _ _ _ _⟩) U G (k _ (h.puto hd v))
theorem GS(i:Nat)(hr:Region.ready .any ops listed=[i])(hi:ops[i]?=some ⟨d,op,ty,ps,af,g⟩)(h:Fr a n f)(G:dn f ops g=true)(hd:dg d n=true)(J:Runs P a ty op w .skip w')
  (k:∀a',Fr a' n (upo f d undef)→(S w'∨(listed.setIfInBounds i true).getD m false=true)∧wpAnyL P .any ops (NoPanic Q) S m fuel (listed.setIfInBounds i true) a' w'):wpAnyL P .any ops (NoPanic Q) S m (fuel+1) listed a w:=by
 refine⟨λq=>(by rw[hr]at q;cases q),λj E=>?_⟩;rw[hr]at E;obtain rfl:j=i:=by simpa using E
 unfold wpOp;simp only[hi];rw[if_pos (gq h (o:=⟨d,op,ty,ps,af,g⟩) G)];refine .inl ?_;unfold Oper.wp;rw[J];exact k _ (h.puto hd undef)
theorem EY(i:Nat){fid:FuncId}{args:List Operand}{tys:Array TypeId}{vs:List Value}{R:Ending→World→Prop}(hr:Region.ready .any ops listed=[i])
  (hi:ops[i]?=some ⟨d,.call {callee:=.value (.func fid),args:=args.toArray,argTypes:=tys},ty,ps,af,g⟩) (h:Fr a n f) (G:dn f ops g=true) (hd:dg d n=true) (hv:lN f args=some vs) (J:bE P fid=true)
  (O:Calls P fid vs.toArray w R)
  (k:∀e w',R e w'→∃v,e=.returned v∧∀a',Fr a' n (upo f d v)→(S w'∨(listed.setIfInBounds i true).getD m false=true)∧wpAnyL P .any ops (NoPanic Q) S m fuel (listed.setIfInBounds i true) a' w'):wpAnyL P .any ops (NoPanic Q) S m (fuel+1) listed a w:=by
 refine⟨λq=>(by rw[hr]at q;cases q),λj E=>?_⟩;rw[hr]at E;obtain rfl:j=i:=by simpa using E
 unfold wpOp;simp only[hi];rw[if_pos (gq h (o:=⟨d,_,ty,ps,af,g⟩) G)];refine .inl (sI h hd hv J O λe w1 U=>?_);obtain⟨v,hv,Z⟩:=k e w1 U;exact⟨v,hv,Z _ (h.puto hd v)⟩
variable{K:Act→World→Prop}
theorem DR(hr:Region.ready .any ops listed=[])(k:Q .normal a w):wpAnyL P .any ops (NoPanic Q) S m fuel listed a w:=by
 cases fuel with
 |zero=>exact⟨hr,k⟩
 |succ fuel=>exact⟨λ_=>k,by rw[hr];simp⟩
end
def en(P:Program)(t:TypeId)(i:Nat):Option Nat:=match P.underlying t with
 |some (.struct fs)=>match fs[i]? with
  |some fl=>match P.info? fl.type with
   |some inf=>if inf.size=0 then none else some fl.offset
   |none=>none
  |none=>none
 |_=>none
def mK(P:Program)(t:TypeId)(i:Nat):Option Nat:=match P.underlying t with
 |some (.struct fs)=>match fs[i]? with
  |some fl=>if cS P fl.type=true then some fl.offset else none
  |none=>none
 |_=>none
section
variable{P:Program}{a:Act}{w w':World}{n:Nat}{f:Nat→Option Value}{ty:TypeId}
theorem uv{r:Nat}(h:Fr a n f)(hx:ao f x=some (.pointer (some ⟨b,o,none⟩)))(q:en P t i=some k)(hr:o+k=r):Runs P a ty (.fieldAddr t x i) w (.value (.pointer (some ⟨b,r,none⟩))) w:=by
 refine yZ h hx λw=>?_;subst hr;unfold en at q;split at q
 ·rename_i fs J;split at q
  ·rename_i fl G;split at q
   ·rename_i inf E;split at q
    ·cases q
    ·rename_i O;simp only[Option.some.injEq]at q;subst q;simp[Instr.fieldAt,run_underlying J,G,Instr.sureAddr,fieldPlace,sizeOf,typeInfo,E,O,iP]
   ·cases q
  ·cases q
 ·cases q
theorem FQ{cs:List Value}{v:Value}(h:Fr a n f)(hx:ao f x=some (.agg cs.toArray))(q:mK P t i=some k)(hv:cs[k]?=some v):Runs P a ty (.field t x i) w (.value v) w:=by
 refine vh h hx λw=>?_;unfold mK at q;split at q
 ·rename_i fs O;split at q
  ·rename_i fl J;split at q
   ·rename_i G;simp only[Option.some.injEq]at q;subst q;have U:(isAgg fl.type).run P w=.ok false w:=by
     unfold cS at G;cases E:P.underlying fl.type with
     |none=>rw[E]at G;cases G
     |some d=>
      rw[E]at G;cases d<;>first|(simp[isAgg,run_underlying E];done)|cases G
    simp[Instr.field,run_underlying O,J,part,U,asAgg,hv]
   ·cases q
  ·cases q
 ·cases q
def sh:List Value→List Nat→List (Nat×Value)→List Value
 |z,o::os,(_,v)::r=>sh (z.set o v) os r
 |z,_,_=>z
def CU(P:Program)(t:TypeId)(z:Nat)(l:List Nat):Option (List Nat):=match P.underlying t with
 |some (.struct fs)=>l.mapM λi=>match fs[i]? with
  |some fl=>if bS P fl.type=some 1&&decide (fl.offset<z)then some fl.offset else none
  |none=>none
 |_=>none
def Ax(P:Program)(t:TypeId):Bool:=match P.underlying t with
 |some (.struct fs)=>fs.toList.all λfl=>(P.info? fl.type).isSome
 |_=>false
theorem vw(place:Nat→Option (Nat×Nat)):∀(vs:List (Nat×Value)) (os:List Nat) (z:List Value),vs.length=os.length→(∀p∈vs,p.2.oneCell'=true)→
  (∀(j i:Nat) (v:Value) (o:Nat),vs[j]?=some (i,v)→os[j]?=some o→place i=some (o,1)∧o<z.length)→Instr.fill place z.toArray vs=some (sh z os vs).toArray
 |[],[],z,_,_,_=>rfl
 | (i,v)::r,o::os,z,hl,h1,hp=>by
  have h0:=hp 0 i v o rfl rfl;have hc:v.cells=#[v]:=pG (h1 (i,v) (by simp));have ih:=vw place r os (z.set o v) (by simpa using hl) (λp hp=>h1 p (by simp[hp])) (λj i' v' o' hj ho=>by
   have :=hp (j+1) i' v' o' (by simpa using hj) (by simpa using ho);simpa using this)
  simp only[Instr.fill,h0.1,hc];rw[if_neg (by simp;omega)];simp only[sh];rw[←ih];simp[Array.zipIdx]
 |[],_::_,_,hl,_,_=>by simp at hl
 |_::_,[],_,hl,_,_=>by simp at hl
theorem wz{fs:List Field}(h:fs.all (λfl=>(P.info? fl.type).isSome)=true)(w:World):∃ps:List (Nat×Nat),(fs.mapM (m:=Sem) λfl=>do pure (fl.offset,←sizeOf fl.type)).run P w=.ok ps w∧∀(i:Nat) (fl:Field),fs[i]?=some fl→∀s,bS P fl.type=some s→ps[i]?=some (fl.offset,s):=by
 induction fs with
 |nil=>exact⟨[],by simp,λi fl h=>by simp at h⟩
 | cons fl r ih=>
  simp only[List.all_cons,Bool.and_eq_true]at h;obtain⟨ps,h1,h2⟩:=ih h.2;obtain⟨inf,hi⟩:=Option.isSome_iff_exists.1 h.1;refine⟨(fl.offset,inf.size)::ps,?_,?_⟩
  ·have h3:(sizeOf fl.type).run P w=.ok inf.size w:=by simp[sizeOf,typeInfo,hi]
   simp[List.mapM_cons,h3];simp at h1;simp[h1]
  ·intro i fl' hf s hs;cases i with
   |zero=>simp only[List.getElem?_cons_zero,Option.some.injEq]at hf;subst hf;simp[bS,hi]at hs;simp[hs]
   |succ i=>simp only[List.getElem?_cons_succ]at hf⊢;exact h2 i fl' hf s hs
theorem FP {t:TypeId} {ps:List (Nat×Operand)} {vs:List (Nat×Value)} {z:List Value} {os:List Nat} {cs:List Value} (h:Fr a n f) (hx:dx f ps=some vs) (hz:jb P t=some z) (hs:Ax P t=true) (ho:CU P t z.length (ps.map (·.1))=some os)
  (h1:vs.all (λp=>p.2.oneCell')=true) (hcs:sh z os vs=cs):Runs P a ty (.build t ps.toArray) w (.value (.agg cs.toArray)) w:=by
 refine rt h hx λw=>?_;subst hcs;have hpv:ps.map (·.1)=vs.map (·.1):=by rw[←h.parts hx];simp
 rw[hpv]at ho;unfold jb at hz;obtain⟨z0,hz1,hz2⟩:=Option.map_eq_some_iff.1 hz;obtain⟨inf,hi,hiz⟩:=Option.bind_eq_some_iff.1 hz1;have ez:z0.cells=z.toArray:=by rw[←hz2]
 unfold Ax at hs;unfold CU at ho;cases hu:P.underlying t with
 |none=>rw[hu]at hs;cases hs
 | some d=>
  rw[hu]at hs ho;cases d with
  | struct fs=>
   simp only at hs ho;obtain⟨pl,hp1,hp2⟩:=wz hs w;have key:∀(vs:List (Nat×Value)) (os:List Nat),(vs.map (·.1)).mapM (λi=>match fs[i]? with
     |some fl=>if bS P fl.type=some 1&&decide (fl.offset<z.length)then some fl.offset else none
     |none=>none)=some os→vs.length=os.length∧∀(j i:Nat) (v:Value) (o:Nat),vs[j]?=some (i,v)→os[j]?=some o→pl[i]?=some (o,1)∧o<z.length:=by
    intro vs
    induction vs with
    |nil=>intro os hh;simp at hh;subst hh;exact⟨rfl,λj i v o hj=>by simp at hj⟩
    | cons p r ih=>
     intro os hh;simp only[List.map_cons,List.mapM_cons]at hh;obtain⟨o1,ho1,hh⟩:=Option.bind_eq_some_iff.1 hh;obtain⟨os1,hos1,hh⟩:=Option.bind_eq_some_iff.1 hh;simp only[Option.pure_def,Option.some.injEq]at hh;subst hh;obtain⟨hl,hk⟩:=ih os1 hos1;refine⟨by simp[hl],λj i v o hj hoj=>?_⟩;cases j with
     | zero=>
      simp only[List.getElem?_cons_zero,Option.some.injEq]at hj hoj;subst hoj;rw[hj]at ho1;split at ho1
      ·rename_i fl hfl;split at ho1
       ·rename_i hcond;simp only[Bool.and_eq_true,beq_iff_eq,decide_eq_true_eq]at hcond;simp only[Option.some.injEq]at ho1;subst ho1;exact⟨hp2 i fl (by simpa using hfl) 1 hcond.1,hcond.2⟩
       ·cases ho1
      ·cases ho1
     |succ j=>exact hk j i v o (by simpa using hj) (by simpa using hoj)
   obtain⟨hl,hk⟩:=key vs os ho;have hfill:=vw (λi=>pl.toArray[i]?) vs os z hl (λp hp=>List.all_eq_true.1 h1 p hp) (λj i v o hj hoj=>by simpa using hk j i v o hj hoj);have hm:(fs.mapM (m:=Sem) λfl=>do pure (fl.offset,←sizeOf fl.type)).run P w=.ok pl.toArray w:=by
    have e:fs.mapM (m:=Sem) (λfl=>do pure (fl.offset,←sizeOf fl.type))=List.toArray<$>fs.toList.mapM (m:=Sem) (λfl=>do pure (fl.offset,←sizeOf fl.type)):=by
     rw[←List.mapM_toArray]
    rw[e];simp at hp1;simp[hp1]
   simp only[Instr.build];simp at hm;simp[zeroValue,typeInfo,hi,hiz,run_underlying hu,hm,ez];simp at hfill;rw[hfill];simp
  |_=>cases hs
theorem qa(off:Nat):∀(l:List Value) (j:Nat) (c:List Value),off+j+l.length≤c.length→
  (l.zipIdx j).foldl (λ(cs:Array Value) (p:Value×Nat)=>cs.setIfInBounds (off+p.2) p.1) c.toArray=(c.take (off+j)++l++c.drop (off+j+l.length)).toArray
 |[],j,c,h=>by simp
 | x::r,j,c,h=>by
  simp only[List.length_cons]at h;have ih:=qa off r (j+1) (c.set (off+j) x) (by simp;omega);simp only[List.zipIdx_cons,List.foldl_cons,List.setIfInBounds_toArray];rw[ih]
  congr 1
  have e1:(c.set (off+j) x).take (off+(j+1))=c.take (off+j)++[x]:=by
   rw[←Nat.add_assoc,List.take_succ_eq_append_getElem (by simp;omega),List.take_set_of_le (Nat.le_refl _)];simp
  have e2:(c.set (off+j) x).drop (off+(j+1)+r.length)=c.drop (off+j+(r.length+1)):=by
   rw[List.drop_set_of_lt (by omega)];congr 1;omega
  rw[e1,e2];simp
theorem vK(sz:Nat):∀(vs:List (Nat×Value)) (k:Nat) (c:List Value),vs.map (·.1)=(List.range vs.length).map (·+k)→(∀p∈vs,p.2.cells.size=sz)→(k+vs.length)*sz=c.length→
  Instr.fill (λi=>some (i*sz,sz)) c.toArray vs=some (c.take (k*sz)++vs.flatMap λp=>p.2.cells.toList).toArray
 |[],k,c,_,_,hl=>by simp[Instr.fill];simp at hl;rw[hl];simp
 | (i,v)::r,k,c,hi,hc,hl=>by
  have hv:v.cells.size=sz:=hc (i,v) (by simp);have hi0:i=k:=by
   have :=congrArg (λl=>l.head?) hi;simpa[List.range_succ_eq_map]using this
  subst hi0;simp only[List.length_cons]at hl;have hle:(i+1)*sz≤c.length:=by rw[←hl];exact Nat.mul_le_mul_right _ (by omega)
  rw[Nat.add_mul,Nat.one_mul]at hle;have hf:=qa (i*sz) v.cells.toList 0 c (by simpa[hv]using hle);have hr:r.map (·.1)=(List.range r.length).map (·+(i+1)):=by
   have :=congrArg List.tail hi;simp only[List.map_cons,List.tail_cons,List.length_cons,List.range_succ_eq_map,List.map_map]at this;rw[this];apply List.map_congr_left;intro x _;simp;omega
  have ih:=vK sz r (i+1) (c.take (i*sz)++v.cells.toList++c.drop (i*sz+sz)) hr (λp hp=>hc p (by simp[hp])) (by
   have e:(i+(r.length+1))*sz=(i+1+r.length)*sz:=by congr 1;omega
   simp[hv];rw[←hl]at hle⊢;omega)
  simp only[Instr.fill];rw[if_neg (by simp[hv];omega)];have e0:(v.cells.zipIdx.foldl (λcs (x:Value×Nat)=>match x with|(c,j)=>cs.setIfInBounds (i*sz+j) c) c.toArray)=(c.take (i*sz)++v.cells.toList++c.drop (i*sz+sz)).toArray:=by
   rw[←Array.foldl_toList,Array.toList_zipIdx];simp only[Nat.add_zero,Array.length_toList,hv]at hf;exact hf
  rw[e0,ih]
  congr 1
  have e3:(c.take (i*sz)++v.cells.toList++c.drop (i*sz+sz)).take ((i+1)*sz)=c.take (i*sz)++v.cells.toList:=by
   rw[Nat.add_mul,Nat.one_mul,List.take_append_of_le_length (by simp[hv];omega)];apply List.take_of_length_le;simp[hv];omega
  rw[e3];simp
theorem tQ{vs:List (Nat×Value)}{m:Nat}{z cs:List Value}(h:Fr a n f)(hx:dx f ps=some vs)(ht:P.underlying t=some (.slice e))(hz:bS P e=some sz)(hzero:jb P e=some z)
  (E:ps.map (·.1)=List.range m) (hc:vs.all (λp=>p.2.cells.size==sz)=true) (O:Nat.ble (m*sz) 16777216=true) (U:(vs.flatMap λp=>p.2.cells.toList)=cs) (w:World) (ty:TypeId):
  ∃w' b,Runs P a ty (.buildSlice t m ps.toArray) w (.value (.slice (some ⟨b,0,none⟩) m m)) w'∧Blk w' b e cs∧Chg [] w w'∧b=w.heap.size∧b<w'.heap.size:=by
 subst U;refine⟨w.alloc (.cells (vs.flatMap λp=>p.2.cells.toList).toArray e),w.heap.size,λ_ _ _ _=>?_,Blk.new w e _,Chg.alloc _ _,rfl,by simp⟩;obtain⟨inf,hi,hs⟩:=Option.map_eq_some_iff.1 (show(P.info? e).map (·.size)=some sz from hz);unfold jb at hzero;obtain⟨z0,Z,hz2⟩:=Option.map_eq_some_iff.1 hzero;obtain⟨inf',G,hiz⟩:=Option.bind_eq_some_iff.1 Z;rw[hi]at G;cases G;have J:vs.map (·.1)=List.range m:=by rw[←E,←h.parts hx];simp
 have hm:vs.length=m:=by have :=congrArg List.length J;simpa using this
 have e:(ps.toArray.map λ(i,x)=>(i,a.eval x))=vs.toArray:=by rw[←h.parts hx];simp
 have hsm':m*sz≤16777216:=by simpa using O
 have hfill:∀c:Array Value,c.size=m*sz→Instr.fill (λi=>some (i*sz,sz)) c vs=some (vs.flatMap λp=>p.2.cells.toList).toArray:=λc hcz=>by
  have :=vK sz vs 0 c.toList (by rw[J,hm];simp) (λp hp=>by simpa using List.all_eq_true.1 hc p hp) (by simp[hm,hcz]);simpa using this
 simp only[execOp];rw[e];simp only[Instr.buildSlice];by_cases h0:m*sz=0
 ·have q:=hfill ((Array.range 0).map (λx=>(default:Value))) (by simp[h0]);simp[run_underlying ht,sizeOf,typeInfo,hi,hs,h0,newRow];rw[q];simp
 ·have q:=hfill ((Array.range (m*sz)).map (z0.cells[·%z0.cells.size]!)) (by simp)
  try simp at q
  simp[run_underlying ht,sizeOf,typeInfo,hi,hs,h0,newRow,zeroValue,hiz,show¬16777216<m*sz by omega,q]
theorem xb{z:Value}{sz by_:Nat}{cs:List Value}(h:Fr a n f)(hx:ao f x=some (.int .i64 (m:Int)))(hy:ao f y=some (.int .i64 (m:Int)))(ht:P.underlying t=some (.slice e))
  (hi:(P.info? e).map (λi=>(i.zero,i.size,i.bytes))=some (some z,sz,by_)) (hb:Nat.ble (by_*m) 281474976710656=true) (G:Nat.ble m 9223372036854775807=true) (J:madeCells z.cells (m*sz)=cs.toArray) (w:World) (ty:TypeId):
  ∃w' b,Runs P a ty (.makeSlice t x y) w (.value (.slice (some ⟨b,0,none⟩) m m)) w'∧Blk w' b e cs∧Chg [] w w'∧b=w.heap.size∧b<w'.heap.size:=by
 obtain⟨E,O,q⟩:=Option.map_eq_some_iff.1 hi;simp only[Prod.mk.injEq]at q;obtain⟨hz,hs,U⟩:=q;refine⟨w.alloc (.cells cs.toArray e),w.heap.size,λ_ _ _ _=>?_,Blk.new w e _,Chg.alloc _ _,rfl,by simp⟩;have Z:(E.bytes:Int)*(m:Int)≤281474976710656:=by
  have h9:E.bytes*m≤281474976710656:=by rw[U];exact Nat.le_of_ble_eq_true hb
  have h8:((E.bytes*m:Nat):Int)≤281474976710656:=by omega
  rwa [Int.natCast_mul]at h8
 have h63':m≤9223372036854775807:=Nat.le_of_ble_eq_true G;have hr:=run_make (P:=P) w t e E z ht O hz .i64 .i64 m m (by omega) (by omega) Z (by omega);simp only[execOp,h.eval hx,h.eval hy];simp only[Int.toNat_natCast,hs,J]at hr;simp[hr]
theorem sk{e size:Nat}{cs:List Value}(h:Blk w b e cs)(E:base≤b)(q:cs.length=m*size)(G:Nat.ble m maxLen=true):w.ownsRow base e size (.slice (some ⟨b,0,none⟩) m m) m cs:=by
 refine⟨q,.inr ⟨b,m,cs.toArray,rfl,E,h,Nat.le_refl _,by simpa using G,by simpa using q,?_⟩⟩;simp[←q]
end
theorem nm0:b∉([]:List Nat):=by simp
theorem Ex{p:Nat→Prop}:∀b,b∈([]:List Nat)→p b:=by simp
variable{X:List Nat}
theorem Ha{p:Nat→Prop}{c:Nat}(h:p c)(k:∀b,b∈X→p b):∀b,b∈c::X→p b:=by
 intro b q;rcases List.mem_cons.1 q with e|e
 ·exact e▸h
 ·exact k b e
variable{w1:World}
theorem Chg.cell{w:World}(h:Chg X w w1)(q:b<w.heap.size)(E:b∉X):w1.cell? ⟨b,o,none⟩=w.cell? ⟨b,o,none⟩:=World.cell?_of_block (a:=⟨b,o,none⟩) (h.block b q E)
section
variable{P:Program}{a:Act}{w w':World}{n:Nat}{f:Nat→Option Value}{X:List Nat}
end
variable{f:Nat→Option Value}
theorem DB{a:Act}{w:World}{ty t u:TypeId}{k:IntKind}{m l:Int}(h:Fr a n f)(hx:ao f x=some (.int k m))(hy:ao f y=some (.int k l)):Runs P a ty (.call {callee:=.builtin .max,args:=#[x,y],argTypes:=#[t,u]}) w (.value (.int k (max m l))) w:=λ_ _ _ _=>by
 simp only[execOp,resolve,List.map_toArray,List.map_cons,List.map_nil,h.eval hx,h.eval hy];simp[go_sem,invoke,builtin]
 try (split<;>omega)
end Go.Proofs.YtojjjmkmkbnieaaGreat
namespace Go.Proofs.YtojjjmkmkbnieaaGreat.Lx
def bJ(c:UInt8):Bool:=decide (97≤c.toNat)&&decide (c.toNat≤122)
def upperB(c:UInt8):Bool:=decide (65≤c.toNat)&&decide (c.toNat≤90)
def be(c:UInt8):Bool:=decide (48≤c.toNat)&&decide (c.toNat≤57)
def aS(c:UInt8):Bool:=bJ c||upperB c
def aQ(c:UInt8):Bool:=aS c||be c||c.toNat==95
def bu(c:UInt8):Bool:=c.toNat==9||c.toNat==10||c.toNat==13||c.toNat==32
def cP(c:UInt8):Bool:=decide (32≤c.toNat)&&decide (c.toNat≤126)
def aI(c:UInt8):Bool:=bu c||cP c
def yi:List (List UInt8):=[[109,111,100,117,108,101],[100,101,102],[116,121,112,101],[108,101,116],[105,110],[105,102],[116,104,101,110],[101,108,115,101],[116,114,117,101],[102,97,108,115,101],[73,110,116],[84,101,120,116],[66,111,111,108]]
def hZ(l:List UInt8):Bool:=yi.contains l
def spanN(p:UInt8→Bool)(l:List UInt8):Nat:=(l.takeWhile p).length
def cq(l:List UInt8):Bool:=
 upperB (l.getD 0 0)&&!hZ (l.take (spanN aQ l))&&decide (spanN aQ l+1<l.length)&&((l.getD (spanN aQ l) 0).toNat==46)&&aS (l.getD (spanN aQ l+1) 0)
def bk(l:List UInt8)(n:Nat):Nat×Nat×Nat:=
 if 24<n then(0,0,3)else if hZ (l.take n)=true then(7,n,0)else if bJ (l.getD 0 0)=true then(1,n,0)else(2,n,0)
def dD(l:List UInt8)(n m:Nat):Nat×Nat×Nat:=
 if 24<n∨24<m then(0,0,3)
 else if hZ ((l.drop (n+1)).take m)=true then(0,0,2)
 else if bJ (l.getD (n+1) 0)=true then(3,n+1+m,0)
 else(4,n+1+m,0)
def bv(l:List UInt8):Nat×Nat×Nat:=
 if cq l=true then dD l (spanN aQ l) (spanN aQ (l.drop (spanN aQ l+1)))else bk l (spanN aQ l)
def dl(l:List UInt8):Nat×Nat:=
 let n:=spanN be l
 if 1<n∧(l.getD 0 0).toNat=48 then(0,2)else if 15<n then(0,3)else(n,0)
def quotedT:List UInt8→Nat→Nat×Nat
 |[],_=>(0,2)
 |c::r,i=>
  if aI c=false then(i,1)
  else if c.toNat=34 then(i+1,0)
  else if c.toNat=92∨c.toNat<32 then(0,2)
  else quotedT r (i+1)
def lJ:List UInt8:=[40,41,91,93,58,44,61,43,45,42,60,63]
def tokenT(l:List UInt8):Nat×Nat×Nat:=
 let c:=l.getD 0 0
 if aI c=false then(0,0,1)
 else if aS c=true then bv l
 else if be c=true then(5,dl l)
 else if c.toNat=34 then(6,quotedT l.tail 1)
 else if c.toNat=61∧1<l.length∧(l.getD 1 0).toNat=61 then(8,2,0)
 else if lJ.contains c=true then(8,1,0)
 else(0,0,2)
def aC:Bool→List UInt8→Nat→Nat×Option Nat
 |_,[],n=>(n,none)
 |false,c::r,n=>if bu c=true then aC false r (n+1)else if c.toNat=35 then aC true r (n+1)else(n,none)
 |true,c::r,n=>if c.toNat=10 then aC false r (n+1)else if aI c=false then(n,some n)else aC true r (n+1)
structure TokZ where
 kind:Int
 lead:List UInt8
 text:List UInt8
structure Scanned where
 toks:List TokZ
 tail:List UInt8
 place:Nat
 err:Nat
def scanT:Nat→List UInt8→Nat→List TokZ→Scanned
 |0,_,_,_=>⟨[],[],0,0⟩
 | f +1,l,pos,acc=>
  match(aC false l 0).2 with
  |some b=>⟨[],[],pos+b,1⟩
  | none=>
   if(aC false l 0).1=l.length then⟨acc,l,0,0⟩
   else if(tokenT (l.drop (aC false l 0).1)).2.2=0 then
    scanT f (l.drop ((aC false l 0).1+(tokenT (l.drop (aC false l 0).1)).2.1)) (pos+(aC false l 0).1+(tokenT (l.drop (aC false l 0).1)).2.1)
     (acc++[⟨(tokenT (l.drop (aC false l 0).1)).1,l.take (aC false l 0).1,(l.drop (aC false l 0).1).take (tokenT (l.drop (aC false l 0).1)).2.1⟩])
   else⟨[],[],pos+(aC false l 0).1+(tokenT (l.drop (aC false l 0).1)).2.1,(tokenT (l.drop (aC false l 0).1)).2.2⟩
def fw(l:List UInt8):Scanned:=if 4096<l.length then⟨[],[],4096,3⟩else scanT (l.length+1) l 0 []
def bq(l:List UInt8):Nat:=if l=[]then 0 else if(tokenT l).2.2=0∧(tokenT l).2.1=l.length then(tokenT l).1 else 0
def fB:Bool→List UInt8→Bool→Bool
 |c,[],fin=>!c||fin
 |c,x::r,fin=>
  if aI x=false then false
  else if c=true then fB (!(x.toNat==10)) r fin
  else if x.toNat=35 then fB true r fin
  else if bu x=false then false
  else fB c r fin
def fusesT(a b:List UInt8):Bool:=
 if bq a=0∨bq b=0 then false
 else
  let r:=fw (a++b)
  if r.err=0∧r.toks.length=2∧r.tail=[]then
   !((r.toks.getD 0 ⟨0,[],[]⟩).lead==[]&&(r.toks.getD 0 ⟨0,[],[]⟩).text==a&&(r.toks.getD 1 ⟨0,[],[]⟩).lead==[]&&(r.toks.getD 1 ⟨0,[],[]⟩).text==b)
  else true
variable{l:List UInt8}{k:Nat}
theorem jc{p:UInt8→Bool}{c:UInt8}(h:k<l.length)(q:l[k]=c)(E:p c=true):
  spanN p (l.drop k)=spanN p (l.drop (k+1))+1:=by
 rw[List.drop_eq_getElem_cons h,q];simp[spanN,E]
theorem mr{p:UInt8→Bool}{c:UInt8}(h:k<l.length)(q:l[k]=c)(E:p c=false):
  spanN p (l.drop k)=0:=by
 rw[List.drop_eq_getElem_cons h,q];simp[spanN,E]
theorem nB{p:UInt8→Bool}(h:l.length≤k):spanN p (l.drop k)=0:=by
 rw[List.drop_of_length_le h];rfl
theorem iN(p:UInt8→Bool):∀(l:List UInt8),spanN p l≤l.length
 |[]=>Nat.le_refl _
 |c::r=>by
  have :=iN p r;unfold spanN at *;rw[List.takeWhile_cons];split<;>simp <;>omega
theorem pE{p:UInt8→Bool}(h:0<l.length)(q:p (l.getD 0 0)=true):0<spanN p l:=by
 cases l with
 |nil=>simp at h
 |cons c r=>simp[spanN]at *;simp[q]
theorem oK{c:UInt8}(h:aS c=true∨be c=true∨((c.toNat:Int)==95)=true):aQ c=true:=by
 rcases h with h|h|h<;>simp_all[aQ]<;>omega
theorem wA{c:UInt8}(h1:¬aS c=true)(h2:¬be c=true)(q:((c.toNat:Int)==95)=false):aQ c=false:=by
 simp_all[aQ];omega
theorem az{c:UInt8}(h:k<l.length)(q:l[k]=c):l.getD k 0=c:=by
 simp[List.getD,List.getElem?_eq_getElem h,q]
variable{n m:Nat}
theorem cp(h:((n:Int)==(m:Int))=true):n=m:=by simp at h;omega
theorem bw(h:((n:Int)==(m:Int))=false):¬n=m:=by simp at h;omega
theorem kO{c:UInt8}(h:spanN be l=k)(h1:1<k)(E:0<l.length)(G:l[0]=c)(q:((c.toNat:Int)==48)=true):dl l=(0,2):=by
 unfold dl;rw[h,az E G];have :=cp (m:=48) q;simp[h1,this]
theorem kI(h:spanN be l=k)(h1:1<k→¬(l.getD 0 0).toNat=48)(q:15<k):dl l=(0,3):=by
 unfold dl;rw[h];simp only;rw[if_neg (λx=>h1 x.1 x.2),if_pos q]
theorem fI(h:spanN be l=k)(h1:1<k→¬(l.getD 0 0).toNat=48)(q:¬15<k):dl l=(k,0):=by
 unfold dl;rw[h];simp only;rw[if_neg (λx=>h1 x.1 x.2),if_neg q]
theorem vg{c:UInt8}(h:k<l.length)(q:l[k]=c):
  quotedT (l.drop k) k=if aI c=false then(k,1)else if c.toNat=34 then(k+1,0)else if c.toNat=92∨c.toNat<32 then(0,2)else quotedT (l.drop (k+1)) (k+1):=by
 rw[List.drop_eq_getElem_cons h,q];rfl
theorem wT(h:l.length≤k):quotedT (l.drop k) k=(0,2):=by
 rw[List.drop_of_length_le h];rfl
theorem rJ(l:List UInt8)(a b:Nat):(ByteArray.mk l.toArray).extract a b=⟨((l.drop a).take (b-a)).toArray⟩:=by
 apply ByteArray.ext;rw[ByteArray.data_extract];simp[List.extract_eq_take_drop]
theorem mg(l:List UInt8)(a:Nat):(l.drop a).take (l.length-a)=l.drop a:=by
 apply List.take_of_length_le;simp
theorem gb(q:spanN aQ l=n)(h:cq l=false):bv l=bk l n:=by simp[bv,h,q]
theorem tI(q:spanN aQ l=n)(E:spanN aQ (l.drop (n+1))=m)(h:cq l=true):bv l=dD l n m:=by simp[bv,h,q,E]
theorem zR{c:UInt8}(q:0<l.length)(E:l[0]=c)(h:upperB c=false):cq l=false:=by
 simp[cq,az q E,h,-List.getD_eq_getElem?_getD]
theorem AX(q:spanN aQ l=n)(h:hZ (l.take n)=true):cq l=false:=by
 simp[cq,q,h]
theorem Ad(q:spanN aQ l=n)(h:¬n+1<l.length):cq l=false:=by
 simp[cq,q,h]
theorem An{c:UInt8}(q:spanN aQ l=n)(E:n<l.length)(G:l[n]=c)(h:((c.toNat:Int)==46)=false):cq l=false:=by
 have :=bw (m:=46) h;simp[cq,q,az E G,this,-List.getD_eq_getElem?_getD]
theorem zV{c:UInt8}(q:spanN aQ l=n)(E:n+1<l.length)(G:l[n+1]=c)(h:aS c=false):cq l=false:=by
 simp[cq,q,az E G,h,-List.getD_eq_getElem?_getD]
theorem uZ{c0 U Z:UInt8}(hn:spanN aQ l=n)(h0:0<l.length)(q:l[0]=c0)(hu:upperB c0=true)(hr:hZ (l.take n)=false)
  (hl:n+1<l.length) (E:n<l.length) (G:l[n]=U) (J:((U.toNat:Int)==46)=true) (O:l[n+1]=Z) (h3:aS Z=true):cq l=true:=by
 have :=cp (m:=46) J;simp[cq,hn,az h0 q,az E G,az hl O,hu,hr,hl,h3,this,-List.getD_eq_getElem?_getD]
theorem pJ{c:UInt8}(q:0<l.length)(E:l[0]=c):
  tokenT l=if aI c=false then(0,0,1)else if aS c=true then bv l else if be c=true then(5,dl l)else if c.toNat=34 then(6,quotedT l.tail 1)
   else if c.toNat=61∧1<l.length∧(l.getD 1 0).toNat=61 then(8,2,0)else if lJ.contains c=true then(8,1,0)else(0,0,2):=by
 unfold tokenT;rw[az q E]
theorem qO:∀(r:List UInt8) (i:Nat),(quotedT r i).1≤i+r.length∧((quotedT r i).2=0→i<(quotedT r i).1)
 |[],i=>by simp[quotedT]
 | c::r,i=>by
  have ih:=qO r (i+1);unfold quotedT;split
  ·simp
  ·split
   ·simp <;>omega
   ·split
    ·simp
    ·simp only[List.length_cons];exact⟨by omega,λh=>by have :=ih.2 h;omega⟩
theorem zJ(q:0<l.length)(E:aS (l.getD 0 0)=true):(bv l).2.1≤l.length∧((bv l).2.2=0→0<(bv l).2.1):=by
 have h1:=iN aQ l;have h2:0<spanN aQ l:=pE q (by simp[aQ,E,-List.getD_eq_getElem?_getD]);have G:=iN aQ (l.drop (spanN aQ l+1));simp only[List.length_drop]at G;unfold bv;split
 ·rename_i hcond;have J:spanN aQ l+1<l.length:=by
   unfold cq at hcond;simp only[Bool.and_eq_true,decide_eq_true_eq]at hcond;exact hcond.1.1.2
  unfold dD;split
  ·simp
  ·split
   ·simp
   ·split<;>simp <;>omega
 ·unfold bk;split
  ·simp
  ·split
   ·simp;omega
   ·split<;>simp <;>omega
theorem wE(q:0<l.length)(E:be (l.getD 0 0)=true):(dl l).1≤l.length∧((dl l).2=0→0<(dl l).1):=by
 have h1:=iN be l;have h2:0<spanN be l:=pE q E;unfold dl;simp only;split
 ·simp
 ·split
  ·simp
  ·simp;omega
theorem yl(q:0<l.length):(tokenT l).2.1≤l.length∧((tokenT l).2.2=0→0<(tokenT l).2.1):=by
 unfold tokenT;simp only;split
 ·simp
 split
 ·exact zJ q ‹_›
 split
 ·exact wE q ‹_›
 split
 ·have :=qO l.tail 1;simp only[List.length_tail]at this;exact⟨by simp only;omega,λh=>by have :=this.2 h;simp only;omega⟩
 split
 ·simp;omega
 split
 ·simp;omega
 ·simp
theorem ww{c:UInt8}(h:k<l.length)(q:l[k]=c)(E:bu c=true):aC false (l.drop k) n=aC false (l.drop (k+1)) (n+1):=by
 rw[List.drop_eq_getElem_cons h,q];simp[aC,E]
theorem yS{c:UInt8}(h:k<l.length)(E:l[k]=c)(q:c.toNat=35):aC false (l.drop k) n=aC true (l.drop k) n:=by
 rw[List.drop_eq_getElem_cons h,E];have h1:bu c=false:=by simp[bu,q]
 have h2:aI c=true:=by simp[aI,cP,q]
 simp[aC,h1,h2,q]
theorem wP{c:UInt8}(h:k<l.length)(q:l[k]=c)(E:bu c=false)(G:¬c.toNat=35):aC false (l.drop k) n=(n,none):=by
 rw[List.drop_eq_getElem_cons h,q];simp[aC,E,G]
theorem yQ{c:UInt8}(h:k<l.length)(E:l[k]=c)(q:c.toNat=10):aC true (l.drop k) n=aC false (l.drop k) n:=by
 rw[List.drop_eq_getElem_cons h,E];have h1:bu c=true:=by simp[bu,q]
 simp[aC,h1,q]
theorem As{c:UInt8}(h:k<l.length)(E:l[k]=c)(q:¬c.toNat=10)(G:aI c=false):aC true (l.drop k) n=(n,some n):=by
 rw[List.drop_eq_getElem_cons h,E];simp[aC,q,G]
theorem Ct{c:UInt8}(h:k<l.length)(E:l[k]=c)(q:¬c.toNat=10)(G:aI c=true):aC true (l.drop k) n=aC true (l.drop (k+1)) (n+1):=by
 rw[List.drop_eq_getElem_cons h,E];simp[aC,q,G]
theorem pF(b:Bool)(h:l.length≤k):aC b (l.drop k) n=(n,none):=by
 rw[List.drop_of_length_le h];cases b<;>rfl
variable{b:Nat}
theorem AP{f:Nat}{pos:Nat}{acc:List TokZ}(h:aC false l 0=(n,some b)):scanT (f+1) l pos acc=⟨[],[],pos+b,1⟩:=by
 simp[scanT,h]
theorem zZ{f:Nat}{pos:Nat}{acc:List TokZ}(h:aC false l 0=(n,none))(q:n=l.length):scanT (f+1) l pos acc=⟨acc,l,0,0⟩:=by
 simp[scanT,h,q]
theorem Az{f:Nat}{pos e:Nat}{acc:List TokZ}(h:aC false l 0=(n,none))(q:¬n=l.length)(ht:tokenT (l.drop n)=(k,m,e))(E:¬e=0):
  scanT (f+1) l pos acc=⟨[],[],pos+n+m,e⟩:=by
 simp[scanT,h,q,ht,E]
theorem AM{f:Nat}{pos:Nat}{acc:List TokZ}(h:aC false l 0=(n,none))(q:¬n=l.length)(ht:tokenT (l.drop n)=(k,m,0)):
  scanT (f+1) l pos acc=scanT f (l.drop (n+m)) (pos+n+m) (acc++[⟨k,l.take n,(l.drop n).take m⟩]):=by
 simp[scanT,h,q,ht]
end Go.Proofs.YtojjjmkmkbnieaaGreat.Lx
namespace Go.Proofs.YtojjjmkmkbnieaaGreat.Sx
open Lx
inductive Tree where
 |node (kind:Int) (text:List UInt8) (leads:List (List UInt8)) (kids:List Tree)
def Tree.kind:Tree→Int|.node k _ _ _=>k
def Tree.text:Tree→List UInt8|.node _ s _ _=>s
def Tree.leads:Tree→List (List UInt8)|.node _ _ l _=>l
def Tree.kids:Tree→List Tree|.node _ _ _ k=>k
def lx:Tree:=.node 0 [] [] []
def Df:TokZ:=⟨0,[],[]⟩
structure PS where
 toks:List TokZ
 off:Nat
 size:Nat
 failed:Nat
 place:Nat
def bp(s:PS):TokZ:=s.toks.headD Df
def qB(e:Nat)(s:PS):PS:=if s.failed=0 then⟨[],s.off,s.size,e,s.off⟩else⟨[],s.off,s.size,s.failed,s.place⟩
def db(s:PS):PS:=
 match s.toks with
 |[]=>s
 |[_]=>⟨[],s.size,s.size,s.failed,s.place⟩
 |t::u::r=>⟨u::r,s.off+(t.text.length+u.lead.length),s.size,s.failed,s.place⟩
def dY(x:List UInt8)(s:PS):List UInt8×PS:=if(bp s).text=x then((bp s).lead,db s)else([],qB 2 s)
def nw(k o:Int)(s:PS):List UInt8×List UInt8×PS:=
 if(bp s).kind=0∨((bp s).kind≠k∧(bp s).kind≠o)then([],[],qB 2 s)else((bp s).text,(bp s).lead,db s)
def DT:List UInt8:=[109,111,100,117,108,101]
def Bn:List UInt8:=[100,101,102]
def CC:List UInt8:=[116,121,112,101]
def EE:List UInt8:=[108,101,116]
def wIn:List UInt8:=[105,110]
def wIf:List UInt8:=[105,102]
def Gj:List UInt8:=[116,104,101,110]
def FU:List UInt8:=[101,108,115,101]
def CS:List UInt8:=[116,114,117,101]
def Al:List UInt8:=[102,97,108,115,101]
def Gz:List UInt8:=[73,110,116]
def FZ:List UInt8:=[84,101,120,116]
def Gk:List UInt8:=[66,111,111,108]
def FX(x:List UInt8):Bool:=x==[43]||x==[45]||x==[42]||x==[60]||x==[61,61]
def xu(t:TokZ):Bool:=
 t.kind==5||t.kind==6||t.kind==1||t.kind==3||t.text==EE||t.text==wIf||t.text==CS||t.text==Al||t.text==[63]||t.text==[91]||t.text==[40]
def tf:Nat→PS→Tree×PS
 |0,s=>(lx,s)
 | n+1,s=>
  if(bp s).text=Gz then(.node 5 [] [(bp s).lead] [],db s)
  else if(bp s).text=FZ then(.node 6 [] [(bp s).lead] [],db s)
  else if(bp s).text=Gk then(.node 7 [] [(bp s).lead] [],db s)
  else if(bp s).text=[91]then
   (.node 8 [] [(bp s).lead,(dY [93] (tf n (db s)).2).1] [(tf n (db s)).1],(dY [93] (tf n (db s)).2).2)
  else(.node 9 (nw 2 4 s).1 [(nw 2 4 s).2.1] [],(nw 2 4 s).2.2)
def zW(n:Nat)(s0:PS):Tree×PS:=
 let a:=dY CC s0
 let b:=nw 2 2 a.2
 let c:=dY [61] b.2.2
 let t:=tf n c.2
 (.node 3 b.1 [a.1,b.2.1,c.1] [t.1],t.2)
def Ep(n:Nat)(s0:PS):Tree×PS:=
 let b:=nw 1 1 s0
 let c:=dY [58] b.2.2
 let t:=tf n c.2
 (.node 4 b.1 [b.2.1,c.1] [t.1],t.2)
def commaF(item:PS→Tree×PS)(most:Nat)(beg:TokZ→Bool):Nat→List (List UInt8)→List Tree→PS→List (List UInt8)×List Tree×PS
 |0,cs,ks,s=>(cs,ks,s)
 | m+1,cs,ks,s=>
  if(bp s).text=[44]then
   let s2:=if ks.length=most∧beg (bp (db s))=true then qB 3 (db s)else db s
   commaF item most beg m (cs++[(bp s).lead]) (ks++[(item s2).1]) (item s2).2
  else(cs,ks,s)
def Hg(E:PS→Tree×PS)(s:PS):Tree×PS:=(.node 17 [] [] [(E s).1],(E s).2)
def Fk(item:PS→Tree×PS)(most:Nat)(beg:TokZ→Bool)(s:PS):List (List UInt8)×List Tree×PS:=
 if(bp s).text=[41]then([],[],s)else commaF item most beg ((item s).2.toks.length+1) [] [(item s).1] (item s).2
def Hd(E:PS→Tree×PS)(s0:PS):Tree×PS:=
 if(bp s0).kind=1∧¬(bp (db s0)).text=[40]then(.node 12 (bp s0).text [(bp s0).lead] [],db s0)
 else
  let a:=dY [40] (db s0)
  let r:=Fk (Hg E) 8 xu a.2
  let z:=dY [41] r.2.2
  (.node 16 (bp s0).text ([(bp s0).lead,a.1,z.1]++r.1) r.2.1,z.2)
def Gv(E:PS→Tree×PS)(s0:PS):Tree×PS:=
 let a:=dY [91] s0
 let r:=commaF E 16 xu ((E a.2).2.toks.length+1) [] [(E a.2).1] (E a.2).2
 let z:=dY [93] r.2.2
 (.node 18 [] ([a.1,z.1]++r.1) r.2.1,z.2)
def Ed(E:PS→Tree×PS)(s0:PS):Tree×PS:=
 let e:=E (db s0)
 let z:=dY [41] e.2
 (.node 22 [] [(bp s0).lead,z.1] [e.1],z.2)
def uo(E:PS→Tree×PS)(s:PS):Tree×PS:=
 let t:=bp s
 if t.kind=1∨t.kind=3 then Hd E s
 else if t.text=CS then(.node 13 [] [t.lead] [],db s)
 else if t.text=Al then(.node 14 [] [t.lead] [],db s)
 else if t.text=[63]then(.node 15 [] [t.lead] [],db s)
 else if t.text=[91]then Gv E s
 else if t.text=[40]then Ed E s
 else if t.kind=5 then(.node 10 t.text [t.lead] [],db s)
 else if t.kind=6 then(.node 11 t.text [t.lead] [],db s)
 else(lx,qB 2 s)
def Fy(U:PS→Tree×PS):Nat→Tree→PS→Tree×PS
 |0,t,s=>(t,s)
 |m+1,t,s=>
  if FX (bp s).text=true then Fy U m (.node 21 (bp s).text [(bp s).lead] [t,(U (db s)).1]) (U (db s)).2
  else(t,s)
def GY(E:PS→Tree×PS)(s0:PS):Tree×PS:=
 let b:=nw 1 1 (db s0)
 let c:=dY [61] b.2.2
 let x:=E c.2
 let d:=dY wIn x.2
 let y:=E d.2
 (.node 20 b.1 [(bp s0).lead,b.2.1,c.1,d.1] [x.1,y.1],y.2)
def ifF(E:PS→Tree×PS)(s0:PS):Tree×PS:=
 let x:=E (db s0)
 let c:=dY Gj x.2
 let y:=E c.2
 let d:=dY FU y.2
 let z:=E d.2
 (.node 19 [] [(bp s0).lead,c.1,d.1] [x.1,y.1,z.1],z.2)
def FY(E:PS→Tree×PS)(s:PS):Tree×PS:=
 if(bp s).text=EE then GY E s
 else if(bp s).text=wIf then ifF E s
 else Fy (uo E) ((uo E s).2.toks.length+1) (uo E s).1 (uo E s).2
def CR:Nat→PS→Tree×PS
 |0,s=>(lx,s)
 |n+1,s=>FY (CR n) s
def tV(n:Nat)(s0:PS):Tree×PS:=
 let a:=dY Bn s0
 let b:=nw 1 1 a.2
 let c:=dY [40] b.2.2
 let r:=Fk (Ep n) 8 (λt=>t.kind==1) c.2
 let d:=dY [41] r.2.2
 let e:=dY [58] d.2
 let t:=tf n e.2
 let g:=dY [61] t.2
 let x:=CR n g.2
 (.node 2 b.1 ([a.1,b.2.1,c.1,d.1,e.1,g.1]++r.1) (r.2.1++[t.1,x.1]),x.2)
def ss(n:Nat):Nat→List Tree→PS→List Tree×PS
 |0,ks,s=>(ks,s)
 |m+1,ks,s=>
  if s.toks=[]then(ks,s)
  else if¬(bp s).text=Bn∧¬(bp s).text=CC then ss n m ks (qB 2 s)
  else if ks.length=40 then ss n m ks (qB 3 s)
  else if(bp s).text=Bn then ss n m (ks++[(tV n s).1]) (tV n s).2
  else ss n m (ks++[(zW n s).1]) (zW n s).2
def Ge(n:Nat)(s0:PS):Tree×PS:=
 let a:=dY DT s0
 let b:=nw 2 2 a.2
 let r:=ss n (b.2.2.toks.length+2) [] b.2.2
 (.node 1 b.1 [a.1,b.2.1,[]] r.1,r.2)
mutual
def depthT:Tree→Nat
 |.node _ _ _ ks=>depthsT ks+1
def depthsT:List Tree→Nat
 |[]=>0
 |t::r=>max (depthT t) (depthsT r)
end
def EZ(toks:List TokZ)(size:Nat):PS:=⟨toks,match toks with|[]=>size|t::_=>t.lead.length,size,0,0⟩
def Fx(l:List UInt8):Tree×Nat×Nat:=
 let r:=fw l
 if¬r.err=0 then(lx,r.place,r.err)
 else
  let f:=Ge (r.toks.length+1) (EZ r.toks l.length)
  if¬f.2.failed=0 then(lx,f.2.place,f.2.failed)
  else if 40<depthT f.1 then(lx,0,4)
  else(.node f.1.kind f.1.text (f.1.leads.set 2 r.tail) f.1.kids,0,0)
end Go.Proofs.YtojjjmkmkbnieaaGreat.Sx
namespace Go.Proofs.YtojjjmkmkbnieaaGreat
open _root_.Go.Proofs.Tryz
open Go.RowKit Lx Sx
abbrev aE(l:List UInt8):Value:=.string ⟨l.toArray⟩
def RowIn(S:Nat→Prop)(w:World)(size:Nat)(A:Option Addr)(n:Nat)(xs:List Value):Prop:=
 xs.length=n*size∧(0<n→∃b off,A=some ⟨b,off,none⟩∧S b∧b<w.heap.size∧∀j,j<n*size→w.cell? ⟨b,off+j,none⟩=xs[j]?)
mutual
def TreeIs(S:Nat→Prop)(w:World):Tree→List Value→Prop
 |.node k s ls ks,c=>∃A m B n,c=[.int .i64 k,aE s,.slice A ls.length m,.slice B ks.length n]∧ls.length≤m∧m≤maxLen∧ks.length≤n∧n≤maxLen∧
  RowIn S w 1 A ls.length (ls.map aE)∧∃cs,KidsAre S w ks cs∧RowIn S w 4 B ks.length cs
def KidsAre(S:Nat→Prop)(w:World):List Tree→List Value→Prop
 |[],cs=>cs=[]
 |t::r,cs=>∃c d,cs=c++d∧TreeIs S w t c∧KidsAre S w r d
end
variable{A:Option Addr}
variable{n:Nat}{xs:List Value}
variable{base:Nat}{e:TypeId}
variable{m:Nat}
section
variable{S S':Nat→Prop}{w w':World}
theorem RowIn.none_{size:Nat}:RowIn S w size A 0 []:=⟨by simp,λh=>absurd h (by omega)⟩
theorem RowIn.keepB{size:Nat}(h:RowIn S w size A n xs)(J:∀b,S b→b<w.heap.size→S' b)(O:∀b,S b→b<w.heap.size→w'.heap[b]?=w.heap[b]?):RowIn S' w' size A n xs:=by
 refine⟨h.1,λU=>?_⟩;obtain⟨b,off,e,G,q,Z⟩:=h.2 U;have E:=O b G q;refine⟨b,off,e,J b G q,?_,λj hj=>?_⟩
 ·rcases Nat.lt_or_ge b w'.heap.size with h1|h1
  ·exact h1
  ·rw[Array.getElem?_eq_none h1,Array.getElem?_eq_getElem q]at E;cases E
 ·rw[←Z j hj];exact World.cell?_of_block (a:=⟨b,off+j,none⟩) E
theorem RowIn.keep{size:Nat}(h:RowIn S w size A n xs)(J:∀b,S b→S' b)(O:∀b,S b→b<w.heap.size→w'.heap[b]?=w.heap[b]?):RowIn S' w' size A n xs:=by
 refine⟨h.1,λU=>?_⟩;obtain⟨b,off,e,E,G,Z⟩:=h.2 U;have q:=O b E G;refine⟨b,off,e,J b E,?_,λj hj=>?_⟩
 ·rcases Nat.lt_or_ge b w'.heap.size with h1|h1
  ·exact h1
  ·rw[Array.getElem?_eq_none h1,Array.getElem?_eq_getElem G]at q;cases q
 ·rw[←Z j hj];exact World.cell?_of_block (a:=⟨b,off+j,none⟩) q
mutual
theorem TreeIs.keepB(hS:∀b,S b→b<w.heap.size→S' b)(hk:∀b,S b→b<w.heap.size→w'.heap[b]?=w.heap[b]?):∀{t:Tree} {c:List Value},TreeIs S w t c→TreeIs S' w' t c
 |.node k s ls ks,c,h=>by
  simp only[TreeIs]at h⊢;obtain⟨A,m,B,n,e,h1,h2,h3,h4,h5,cs,h6,h7⟩:=h;exact⟨A,m,B,n,e,h1,h2,h3,h4,h5.keepB hS hk,cs,KidsAre.keepB hS hk h6,h7.keepB hS hk⟩
theorem KidsAre.keepB(hS:∀b,S b→b<w.heap.size→S' b)(hk:∀b,S b→b<w.heap.size→w'.heap[b]?=w.heap[b]?):∀{ts:List Tree} {cs:List Value},KidsAre S w ts cs→KidsAre S' w' ts cs
 |[],cs,h=>by simp only[KidsAre]at h⊢;exact h
 |t::r,cs,h=>by
  simp only[KidsAre]at h⊢;obtain⟨c,d,e,h1,h2⟩:=h;exact⟨c,d,e,TreeIs.keepB hS hk h1,KidsAre.keepB hS hk h2⟩
end
theorem TreeIs.four{t:Tree}{c:List Value}(h:TreeIs S w t c):c.length=4:=by
 cases t;simp only[TreeIs]at h;obtain⟨A,m,B,n,e,_⟩:=h;rw[e];rfl
theorem KidsAre.length:∀{ts:List Tree} {cs:List Value},KidsAre S w ts cs→cs.length=ts.length*4
 |[],cs,h=>by simp only[KidsAre]at h;simp[h]
 |t::r,cs,h=>by
  simp only[KidsAre]at h;obtain⟨c,d,e,h1,h2⟩:=h;have :=KidsAre.length h2;have :=h1.four;rw[e];simp;omega
theorem KidsAre.at_:∀{ts:List Tree} {cs:List Value} {i:Nat},KidsAre S w ts cs→(hi:i<ts.length)→∃c0 q E G,TreeIs S w ts[i] [c0,q,E,G]∧cs[i*4]?=some c0∧cs[i*4+1]?=some q∧cs[i*4+2]?=some E∧cs[i*4+3]?=some G
 |t::r,cs,0,h,hi=>by
  simp only[KidsAre]at h;obtain⟨c,d,e,h1,h2⟩:=h;have J:=h1.four
  match c,J,h1,e with
  |[c0,q,E,G],_,h1,e=>exact⟨c0,q,E,G,h1,by simp[e],by simp[e],by simp[e],by simp[e]⟩
 |t::r,cs,i+1,h,hi=>by
  simp only[KidsAre]at h;obtain⟨c,d,e,h1,h2⟩:=h;have J:=h1.four;obtain⟨c0,q,E,G,g,O,U,Z,g3⟩:=KidsAre.at_ (i:=i) h2 (by simpa using hi);refine⟨c0,q,E,G,by simpa using g,?_,?_,?_,?_⟩
  ·rw[e,List.getElem?_append_right (by omega),show(i+1)*4-c.length=i*4 by omega];exact O
  ·rw[e,List.getElem?_append_right (by omega),show(i+1)*4+1-c.length=i*4+1 by omega];exact U
  ·rw[e,List.getElem?_append_right (by omega),show(i+1)*4+2-c.length=i*4+2 by omega];exact Z
  ·rw[e,List.getElem?_append_right (by omega),show(i+1)*4+3-c.length=i*4+3 by omega];exact g3
abbrev Any:Nat→Prop:=λ_=>True
theorem RowIn.of_own{size c:Nat}(h:w.ownsRow base e size (.slice A n c) n xs):RowIn (λb=>base≤b) w size A n xs:=by
 refine⟨h.1,λG=>?_⟩;obtain⟨b,off,q,hb,J⟩:=(Row.of_own h).2 G;obtain⟨g,cap,hv,O,E⟩:=h.form G;have :A=some ⟨g,0,none⟩:=by injection hv
 rw[this]at q;injection q with q
 injection q with U Z
 subst U;exact⟨g,off,by rw[this,←Z],O,E,J⟩
theorem qD{k:Int}{s:List UInt8}{ls:List (List UInt8)}{ks:List Tree}{A B:Option Addr}{cs:List Value}(h1:ls.length≤m)(h2:m≤maxLen)(q:ks.length≤n)(E:n≤maxLen)
  (G:RowIn S w 1 A ls.length (ls.map aE)) (J:KidsAre S w ks cs) (O:RowIn S w 4 B ks.length cs):TreeIs S w (.node k s ls ks) [.int .i64 k,aE s,.slice A ls.length m,.slice B ks.length n]:=by
 simp only[TreeIs];exact⟨A,m,B,n,rfl,h1,h2,q,E,G,cs,J,O⟩
theorem TreeIs.one{t:Tree}{c:List Value}(h:TreeIs S w t c):c.all (·.oneCell')=true:=by
 cases t;simp only[TreeIs]at h;obtain⟨A,m,B,n,e,_⟩:=h;rw[e];rfl
end
open Go.RowKit
inductive V where
 |int (k:IntKind) (n:Int)
 |bool (b:Bool)
 |str (l:List UInt8)
 |nilp
 |nils
 |raw (x:Value)
 |ptr (id off:Nat)
 |el (id sz i off:Nat)
 |sl (id:Nat)
 |box (cs:List V) (off:Nat)
 |row (sz:Nat) (els:List V)
 |agg (cs:List V)
 |tup (vs:List V)
 |clo (fid:FuncId) (cs:List V)
 |lk (els:List (List V))
 |np (id:Nat)
abbrev qi(n:Int):V:=.int .i64 n
inductive Ob where
 |free
 |gone
 |var (t:TypeId) (cs:List V)
 |row (e:TypeId) (sz:Nat) (els:List V)
 |ext (bs:List Nat) (Φ:World→Prop)
 |mp (kt et:TypeId) (ks vs:List V)
abbrev ρ0:Nat→Option Value:=λ_=>none
section
variable(S:Nat→Prop)(w:World)
mutual
def VRel(ρ:Nat→Option Value):V→Value→Prop
 |.int k n,x=>x=.int k n
 |.bool b,x=>x=.bool b
 |.str l,x=>x=.string ⟨l.toArray⟩
 |.nilp,x=>x=.pointer none
 |.nils,x=>x=.slice none 0 0
 |.raw y,x=>x=y∧y.oneCell'=true
 |.ptr id o,x=>∃b,ρ id=some (.pointer (some ⟨b,0,none⟩))∧x=.pointer (some ⟨b,o,none⟩)
 |.el id sz i o,x=>∃b n c,ρ id=some (.slice (some ⟨b,0,none⟩) n c)∧x=.pointer (some ⟨b,i*sz+o,none⟩)
 |.sl id,x=>ρ id=some x∧x.oneCell'=true
 |.box cs o,x=>∃b off xs,x=.pointer (some ⟨b,off+o,none⟩)∧S b∧b<w.heap.size∧LRel ρ0 cs xs∧∀j,j<xs.length→w.cell? ⟨b,off+j,none⟩=xs[j]?
 |.row sz els,x=>∃A c xs,x=.slice A els.length c∧els.length≤c∧c≤maxLen∧CRel ρ0 sz els xs∧RowIn S w sz A els.length xs
 |.agg cs,x=>∃xs,x=.agg xs.toArray∧LRel ρ cs xs
 |.tup cs,x=>∃xs,x=.tuple xs.toArray∧LRel ρ cs xs
 |.clo fid cs,x=>∃xs,x=.func (.func fid) #[] xs.toArray∧LRel ρ cs xs
 |.lk els,x=>KRel els x
 |.np id,x=>x=.pointer none∨∃b,ρ id=some (.pointer (some ⟨b,0,none⟩))∧x=.pointer (some ⟨b,0,none⟩)
def LRel(ρ:Nat→Option Value):List V→List Value→Prop
 |[],xs=>xs=[]
 |v::r,xs=>∃x ys,xs=x::ys∧VRel ρ v x∧LRel ρ r ys
def KRel:List (List V)→Value→Prop
 |[],x=>x=.pointer none
 |cs::r,x=>∃b off xs y,x=.pointer (some ⟨b,off,none⟩)∧S b∧b<w.heap.size∧LRel ρ0 cs xs∧KRel r y∧y.oneCell'=true∧∀j,j<xs.length+1→w.cell? ⟨b,off+j,none⟩=(xs++[y])[j]?
def CRel(ρ:Nat→Option Value)(sz:Nat):List V→List Value→Prop
 |[],xs=>xs=[]
 |v::r,xs=>∃x ys,xs=x.cells.toList++ys∧(x.cells.size=sz∧x.cells.toList.all (·.oneCell')=true)∧VRel ρ v x∧CRel ρ sz r ys
end
end
structure Up (S S':Nat→Prop) (w w':World) (ρ ρ':Nat→Option Value):Prop where
 s:∀b,S b→S' b
 blk:∀b,S b→b<w.heap.size→w'.heap[b]?=w.heap[b]?
 r:∀i x,ρ i=some x→ρ' i=some x
variable{b:Nat}
variable{i:Nat}
variable{ρ:Nat→Option Value}
section
variable{S S':Nat→Prop}{w w':World}
section
variable{ρ ρ':Nat→Option Value}
theorem Up.refl:Up S S w w ρ ρ:=⟨λ_ h=>h,λ_ _ _=>rfl,λ_ _ h=>h⟩
theorem Up.lt(u:Up S S' w w' ρ ρ')(G:S b)(q:b<w.heap.size):b<w'.heap.size:=by
 have E:=u.blk b G q;rcases Nat.lt_or_ge b w'.heap.size with h1|h1
 ·exact h1
 ·rw[Array.getElem?_eq_none h1,Array.getElem?_eq_getElem q]at E;cases E
theorem Up.cell(u:Up S S' w w' ρ ρ')(q:S b)(E:b<w.heap.size):w'.cell? ⟨b,i,none⟩=w.cell? ⟨b,i,none⟩:=
 World.cell?_of_block (a:=⟨b,i,none⟩) (u.blk b q E)
end
theorem Up.z{ρ':Nat→Option Value}(u:Up S S' w w' ρ ρ'):Up S S' w w' ρ0 ρ0:=⟨u.s,u.blk,λ_ _ h=>h⟩
mutual
theorem VRel.up{ρ ρ':Nat→Option Value}(u:Up S S' w w' ρ ρ'):∀{v:V} {x:Value},VRel S w ρ v x→VRel S' w' ρ' v x
 |.int _ _,x,h=>by simp only[VRel]at h⊢;exact h
 |.bool _,x,h=>by simp only[VRel]at h⊢;exact h
 |.str _,x,h=>by simp only[VRel]at h⊢;exact h
 |.nilp,x,h=>by simp only[VRel]at h⊢;exact h
 |.nils,x,h=>by simp only[VRel]at h⊢;exact h
 |.raw _,x,h=>by simp only[VRel]at h⊢;exact h
 |.ptr id o,x,h=>by
  simp only[VRel]at h⊢;obtain⟨b,h1,h2⟩:=h;exact⟨b,u.r _ _ h1,h2⟩
 |.el id sz i o,x,h=>by
  simp only[VRel]at h⊢;obtain⟨b,n,c,h1,h2⟩:=h;exact⟨b,n,c,u.r _ _ h1,h2⟩
 |.sl id,x,h=>by simp only[VRel]at h⊢;exact⟨u.r _ _ h.1,h.2⟩
 |.box cs o,x,h=>by
  simp only[VRel]at h⊢;obtain⟨b,off,xs,h1,h2,h3,h4,h5⟩:=h;exact⟨b,off,xs,h1,u.s b h2,u.lt h2 h3,LRel.up u.z h4,λj hj=>(u.cell h2 h3).trans (h5 j hj)⟩
 |.row sz els,x,h=>by
  simp only[VRel]at h⊢;obtain⟨A,c,xs,h1,h2,h3,h4,h5⟩:=h;exact⟨A,c,xs,h1,h2,h3,CRel.up u.z h4,h5.keep u.s u.blk⟩
 |.agg cs,x,h=>by
  simp only[VRel]at h⊢;obtain⟨xs,h1,h2⟩:=h;exact⟨xs,h1,LRel.up u h2⟩
 |.tup cs,x,h=>by
  simp only[VRel]at h⊢;obtain⟨xs,h1,h2⟩:=h;exact⟨xs,h1,LRel.up u h2⟩
 |.clo fid cs,x,h=>by
  simp only[VRel]at h⊢;obtain⟨xs,h1,h2⟩:=h;exact⟨xs,h1,LRel.up u h2⟩
 |.lk els,x,h=>by
  simp only[VRel]at h⊢;exact KRel.up u h
 |.np id,x,h=>by
  simp only[VRel]at h⊢;exact h.imp_right λ⟨b,h1,h2⟩=>⟨b,u.r _ _ h1,h2⟩
theorem KRel.up{ρ ρ':Nat→Option Value}(u:Up S S' w w' ρ ρ'):∀{els:List (List V)} {x:Value},KRel S w els x→KRel S' w' els x
 |[],x,h=>by simp only[KRel]at h⊢;exact h
 |cs::r,x,h=>by
  simp only[KRel]at h⊢;obtain⟨b,off,xs,y,h1,h2,h3,h4,h5,h6,h7⟩:=h;exact⟨b,off,xs,y,h1,u.s b h2,u.lt h2 h3,LRel.up u.z h4,KRel.up u h5,h6,λj hj=>(u.cell h2 h3).trans (h7 j hj)⟩
theorem LRel.up{ρ ρ':Nat→Option Value}(u:Up S S' w w' ρ ρ'):∀{v:List V} {x:List Value},LRel S w ρ v x→LRel S' w' ρ' v x
 |[],x,h=>by simp only[LRel]at h⊢;exact h
 |v::r,x,h=>by
  simp only[LRel]at h⊢;obtain⟨y,ys,h1,h2,h3⟩:=h;exact⟨y,ys,h1,VRel.up u h2,LRel.up u h3⟩
theorem CRel.up{ρ ρ':Nat→Option Value}(u:Up S S' w w' ρ ρ'){sz:Nat}:∀{v:List V} {x:List Value},CRel S w ρ sz v x→CRel S' w' ρ' sz v x
 |[],x,h=>by simp only[CRel]at h⊢;exact h
 |v::r,x,h=>by
  simp only[CRel]at h⊢;obtain⟨y,ys,h1,h2,h3,h4⟩:=h;exact⟨y,ys,h1,h2,VRel.up u h3,CRel.up u h4⟩
end
end
section
variable(S:Nat→Prop)(w:World)(ρ:Nat→Option Value)
def own(id:Nat):Ob→Nat→Prop
 |.free,_=>False
 |.gone,_=>False
 |.var _ _,b=>ρ id=some (.pointer (some ⟨b,0,none⟩))
 |.row _ _ _,b=>∃v,ρ id=some v∧v.ownBlock=some b
 |.ext bs _,b=>b∈bs
 |.mp _ _ _ _,b=>ρ id=some (.map (some b))
def gn(id:Nat):Ob→Prop
 |.free=>ρ id=none
 |.gone=>True
 |.var t cs=>∃b xs,ρ id=some (.pointer (some ⟨b,0,none⟩))∧Blk w b t xs∧LRel S w ρ cs xs
 |.row e sz els=>∃v xs,ρ id=some v∧w.ownsRow 0 e sz v els.length xs∧CRel S w ρ sz els xs
 |.ext bs Φ=>Φ w∧(∀b,b∈bs→b<w.heap.size)∧∀w',(∀b,b∈bs→w'.heap[b]?=w.heap[b]?)→Φ w'
 |.mp _ _ ks vs=>∃b es clock,ρ id=some (.map (some b))∧w.heap[b]?=some (.map es clock)∧LRel S w ρ0 ks (es.toList.map (·.key))∧LRel S w ρ0 vs (es.toList.map (·.val))
def ut:List (Nat×List V):=[]
structure SOk:Prop where
 lt:∀b,S b→b<w.heap.size
 gl:∀p∈ut,VRel S w ρ0 (.box p.2 0) (.pointer (some ⟨p.1,0,none⟩))
structure HRel (h:Nat→Ob):Prop where
 ob:∀id,gn S w ρ id (h id)
 sep:∀id b,own ρ id (h id) b→¬S b
 dis:∀i j b,own ρ i (h i) b→own ρ j (h j) b→i=j
 slt:SOk S w
end
instance slt_fun {S:Nat→Prop} {w:World}:CoeFun (SOk S w) (λ_=>∀b,S b→b<w.heap.size):=⟨SOk.lt⟩
theorem SOk.up{S S':Nat→Prop}{w w':World}{ρ':Nat→Option Value}(h:SOk S w)(u:Up S S' w w' ρ ρ')(q:∀b,S' b→b<w'.heap.size):SOk S' w':=⟨q,λp E=>VRel.up u.z (h.gl p E)⟩
variable{sz:Nat}
variable{v:V}
section
variable{S S':Nat→Prop}{w w':World}{ρ ρ':Nat→Option Value}{h h':Nat→Ob}
theorem ws{e:Nat}{v:Value}(q:w.ownsRow base e sz v n xs)(E:∀b,v.ownBlock=some b→w'.heap[b]?=w.heap[b]?):w'.ownsRow base e sz v n xs:=by
 refine⟨q.1,?_⟩;rcases q.2 with G|⟨g,cap,cur,rfl,J,O,U⟩
 ·exact .inl G
 ·exact .inr ⟨g,cap,cur,rfl,J,(E g rfl).trans O,U⟩
theorem eo{id:Nat}{o:Ob}(G:gn S w ρ id o)(q:own ρ id o b):b<w.heap.size:=by
 cases o with
 |free=>exact q.elim
 |gone=>exact q.elim
 |var t cs=>
  obtain⟨J,xs,h1,h2,_⟩:=G;simp only[own]at q;rw[h1]at q;simp only[Option.some.injEq,Value.pointer.injEq,Addr.mk.injEq,and_true]at q;subst q;exact h2.lt
 |row e sz els=>
  obtain⟨v,xs,h1,h2,_⟩:=G;obtain⟨U,E,O⟩:=q;rw[h1]at E;simp only[Option.some.injEq]at E;subst E;exact(h2.lt b O).2
 |ext bs Φ=>exact G.2.1 b q
 |mp kt Z ks vs=>
  obtain⟨J,es,ck,h1,h2,_⟩:=G;simp only[own]at q;rw[h1]at q;simp only[Option.some.injEq,Value.map.injEq]at q;subst q;rcases Nat.lt_or_ge J w.heap.size with E|E
  ·exact E
  ·rw[Array.getElem?_eq_none E]at h2;cases h2
theorem gn.up{id:Nat}{o:Ob}(u:Up S S' w w' ρ ρ')(hf:o=.free→ρ' id=none)(U:gn S w ρ id o)(G:∀b,own ρ id o b→w'.heap[b]?=w.heap[b]?):gn S' w' ρ' id o:=by
 cases o with
 |free=>exact hf rfl
 |gone=>trivial
 |var t cs=>
  obtain⟨J,xs,h1,h2,q⟩:=U;exact⟨J,xs,u.r _ _ h1,(G J h1).trans h2,LRel.up u q⟩
 |row e sz els=>
  obtain⟨v,xs,h1,h2,q⟩:=U;exact⟨v,xs,u.r _ _ h1,ws h2 (λb E=>G b ⟨v,h1,E⟩),CRel.up u q⟩
 |mp kt et ks vs=>
  obtain⟨J,es,ck,h1,h2,q,O⟩:=U;exact⟨J,es,ck,u.r _ _ h1,(G J h1).trans h2,LRel.up u.z q,LRel.up u.z O⟩
 |ext bs Φ=>
  obtain⟨h1,h2,q⟩:=U;refine⟨q _ G,λb E=>?_,λw'' h'=>q w'' (λb E=>(h' b E).trans (G b E))⟩;have Z:=G b E;rcases Nat.lt_or_ge b w'.heap.size with O|O
  ·exact O
  ·rw[Array.getElem?_eq_none O,Array.getElem?_eq_getElem (h2 b E)]at Z;cases Z
theorem AN{id:Nat}{o:Ob}(hr:∀i x,ρ i=some x→ρ' i=some x)(E:gn S w ρ id o)(q:own ρ' id o b):own ρ id o b:=by
 cases o with
 |free=>exact q
 |gone=>exact q
 |var t cs=>
  obtain⟨O,xs,h1,h2,J⟩:=E;have :=hr _ _ h1;simp only[own]at q⊢;rw[this]at q;rw[h1];exact q
 |row e sz els=>
  obtain⟨v,xs,h1,h2,J⟩:=E;obtain⟨Z,G,U⟩:=q;rw[hr _ _ h1]at G;simp only[Option.some.injEq]at G;subst G;exact⟨v,h1,U⟩
 |ext bs Φ=>exact q
 |mp kt et ks vs=>
  obtain⟨O,es,ck,h1,h2,J⟩:=E;have :=hr _ _ h1;simp only[own]at q⊢;rw[this]at q;rw[h1];exact q
theorem LRel.length:∀{vs:List V} {xs:List Value},LRel S w ρ vs xs→xs.length=vs.length
 |[],xs,h=>by simp only[LRel]at h;simp[h]
 |v::r,xs,h=>by
  simp only[LRel]at h;obtain⟨x,ys,rfl,_,q⟩:=h;simp[LRel.length q]
theorem LRel.get:∀{vs:List V} {xs:List Value} {i:Nat} {v:V},LRel S w ρ vs xs→vs[i]?=some v→∃x,xs[i]?=some x∧VRel S w ρ v x
 |[],xs,i,v,h,hi=>by simp at hi
 |u::r,xs,0,v,h,hi=>by
  simp only[LRel]at h;obtain⟨x,ys,rfl,h2,q⟩:=h;simp only[List.getElem?_cons_zero,Option.some.injEq]at hi;subst hi;exact⟨x,by simp,h2⟩
 |u::r,xs,i+1,v,h,hi=>by
  simp only[LRel]at h;obtain⟨x,ys,rfl,h2,q⟩:=h;simp only[List.getElem?_cons_succ]at hi⊢;exact LRel.get q hi
theorem LRel.set:∀{vs:List V} {xs:List Value} {i:Nat} {v:V} {x:Value},LRel S w ρ vs xs→VRel S w ρ v x→LRel S w ρ (vs.set i v) (xs.set i x)
 |[],xs,i,v,x,h,hx=>by simp only[LRel]at h;subst h;simp[LRel]
 |u::r,xs,0,v,x,h,hx=>by
  simp only[LRel]at h;obtain⟨y,ys,rfl,h2,q⟩:=h;exact⟨x,ys,by simp,hx,q⟩
 |u::r,xs,i+1,v,x,h,hx=>by
  simp only[LRel]at h;obtain⟨y,ys,rfl,h2,q⟩:=h;exact⟨y,ys.set i x,by simp,h2,LRel.set q hx⟩
theorem LRel.append:∀{vs us:List V} {xs ys:List Value},LRel S w ρ vs xs→LRel S w ρ us ys→LRel S w ρ (vs++us) (xs++ys)
 |[],us,xs,ys,h,q=>by simp only[LRel]at h;subst h;simpa using q
 |v::r,us,xs,ys,h,q=>by
  simp only[LRel]at h;obtain⟨y,zs,rfl,h2,E⟩:=h;exact⟨y,zs++ys,by simp,h2,LRel.append E q⟩
theorem LRel.drop:∀{vs:List V} {xs:List Value} (n:Nat),LRel S w ρ vs xs→LRel S w ρ (vs.drop n) (xs.drop n)
 |vs,xs,0,h=>by simpa using h
 |[],xs,n+1,h=>by simp only[LRel]at h;subst h;simp[LRel]
 |v::r,xs,n+1,h=>by
  simp only[LRel]at h;obtain⟨y,zs,rfl,h2,q⟩:=h;simpa using LRel.drop n q
theorem LRel.take:∀{vs:List V} {xs:List Value} (n:Nat),LRel S w ρ vs xs→LRel S w ρ (vs.take n) (xs.take n)
 |vs,xs,0,h=>by simp[LRel]
 |[],xs,n+1,h=>by simp only[LRel]at h;subst h;simp[LRel]
 |v::r,xs,n+1,h=>by
  simp only[LRel]at h;obtain⟨y,zs,rfl,h2,q⟩:=h;exact⟨y,zs.take n,by simp,h2,LRel.take n q⟩
theorem CRel.length{sz:Nat}:∀{vs:List V} {xs:List Value},CRel S w ρ sz vs xs→xs.length=vs.length*sz
 |[],xs,h=>by simp only[CRel]at h;simp[h]
 |v::r,xs,h=>by
  simp only[CRel]at h;obtain⟨x,ys,rfl,⟨h2,_⟩,E,q⟩:=h;have :=CRel.length q;simp[this,h2,Nat.add_mul];omega
theorem CRel.get{sz:Nat}:∀{vs:List V} {xs:List Value} {i:Nat} {v:V},CRel S w ρ sz vs xs→vs[i]?=some v→∃x,VRel S w ρ v x∧x.cells.size=sz∧∀j,j<sz→xs[i*sz+j]?=x.cells.toList[j]?
 |[],xs,i,v,h,hi=>by simp at hi
 |u::r,xs,0,v,h,hi=>by
  simp only[CRel]at h;obtain⟨x,ys,rfl,⟨h2,_⟩,q,E⟩:=h;simp only[List.getElem?_cons_zero,Option.some.injEq]at hi;subst hi;exact⟨x,q,h2,λj G=>by rw[List.getElem?_append_left (by simp;omega)];simp⟩
 |u::r,xs,i+1,v,h,hi=>by
  simp only[CRel]at h;obtain⟨x,ys,rfl,⟨h2,_⟩,q,E⟩:=h;simp only[List.getElem?_cons_succ]at hi;obtain⟨y,J,O,U⟩:=CRel.get E hi;refine⟨y,J,O,λj G=>?_⟩;rw[List.getElem?_append_right (by simp[h2,Nat.add_mul];omega),←U j G]
  congr 1
  simp[h2,Nat.add_mul];omega
theorem CRel.append{sz:Nat}:∀{vs us:List V} {xs ys:List Value},CRel S w ρ sz vs xs→CRel S w ρ sz us ys→CRel S w ρ sz (vs++us) (xs++ys)
 |[],us,xs,ys,h,q=>by simp only[CRel]at h;subst h;simpa using q
 |v::r,us,xs,ys,h,q=>by
  simp only[CRel]at h;obtain⟨y,zs,rfl,h2,E,G⟩:=h;exact⟨y,zs++ys,by simp,h2,E,CRel.append G q⟩
theorem CRel.drop{sz:Nat}:∀{vs:List V} {xs:List Value} (n:Nat),CRel S w ρ sz vs xs→CRel S w ρ sz (vs.drop n) (xs.drop (n*sz))
 |vs,xs,0,h=>by simpa using h
 |[],xs,n+1,h=>by simp only[CRel]at h;subst h;simp[CRel]
 | v::r,xs,n+1,h=>by
  simp only[CRel]at h;obtain⟨y,zs,rfl,⟨h2,_⟩,h3,h4⟩:=h;have :=CRel.drop n h4;have e:(y.cells.toList++zs).drop ((n+1)*sz)=zs.drop (n*sz):=by
   rw[List.drop_append,List.drop_of_length_le (by simp[h2,Nat.add_mul])];simp[h2,Nat.add_mul]
  rw[e];simpa using this
theorem CRel.take{sz:Nat}:∀{vs:List V} {xs:List Value} (n:Nat),CRel S w ρ sz vs xs→CRel S w ρ sz (vs.take n) (xs.take (n*sz))
 |vs,xs,0,h=>by simp[CRel]
 |[],xs,n+1,h=>by simp only[CRel]at h;subst h;simp[CRel]
 | v::r,xs,n+1,h=>by
  simp only[CRel]at h;obtain⟨y,zs,rfl,⟨h2,h1⟩,h3,h4⟩:=h;have :=CRel.take n h4;have e:(y.cells.toList++zs).take ((n+1)*sz)=y.cells.toList++zs.take (n*sz):=by
   rw[List.take_append,List.take_of_length_le (by simp[h2,Nat.add_mul])]
   congr 2
   simp[h2,Nat.add_mul]
  rw[e];exact⟨y,_,rfl,⟨h2,h1⟩,h3,this⟩
theorem CRel.ones{sz:Nat}:∀{vs:List V} {xs:List Value},CRel S w ρ sz vs xs→∀u∈xs,u.oneCell'=true
 |[],xs,h=>by simp only[CRel]at h;subst h;simp
 |v::r,xs,h=>by
  simp only[CRel]at h;obtain⟨x,ys,rfl,⟨h2,h1⟩,G,q⟩:=h;intro u E;rcases List.mem_append.1 E with h|h
  ·exact List.all_eq_true.1 h1 u h
  ·exact CRel.ones q u h
def V.one:V→Bool
 |.agg _=>false
 |.tup _=>false
 |_=>true
theorem VRel.one{x:Value}(hv:VRel S w ρ v x)(h1:v.one=true):x.oneCell'=true:=by
 cases v with
 |int _ _=>simp only[VRel]at hv;subst hv;rfl
 |bool _=>simp only[VRel]at hv;subst hv;rfl
 |str _=>simp only[VRel]at hv;subst hv;rfl
 |nilp=>simp only[VRel]at hv;subst hv;rfl
 |nils=>simp only[VRel]at hv;subst hv;rfl
 |np id=>simp only[VRel]at hv;rcases hv with rfl|⟨b,_,rfl⟩<;>rfl
 |raw y=>simp only[VRel]at hv;obtain⟨rfl,h⟩:=hv;exact h
 |ptr id o=>simp only[VRel]at hv;obtain⟨b,_,rfl⟩:=hv;rfl
 |el id sz i o=>simp only[VRel]at hv;obtain⟨b,n,c,_,rfl⟩:=hv;rfl
 |sl id=>simp only[VRel]at hv;exact hv.2
 |box cs o=>simp only[VRel]at hv;obtain⟨b,off,xs,rfl,_⟩:=hv;rfl
 |row sz els=>simp only[VRel]at hv;obtain⟨A,c,xs,rfl,_⟩:=hv;rfl
 |agg cs=>cases h1
 |tup cs=>cases h1
 |clo fid cs=>simp only[VRel]at hv;obtain⟨xs,rfl,_⟩:=hv;rfl
 |lk els=>
  simp only[VRel]at hv;cases els with
  |nil=>simp only[KRel]at hv;subst hv;rfl
  |cons c r=>simp only[KRel]at hv;obtain⟨b,off,xs,y,rfl,_⟩:=hv;rfl
theorem up0:Up S S w w ρ0 ρ:=⟨λ_ h=>h,λ_ _ _=>rfl,λ_ _ h=>by cases h⟩
def V.cells:V→List V
 |.agg cs=>cs
 |v=>[v]
theorem VRel.cells{x:Value}(hv:VRel S w ρ v x):LRel S w ρ v.cells x.cells.toList:=by
 have one:∀{u:V},u.cells=[u]→VRel S w ρ u x→x.cells=#[x]→LRel S w ρ u.cells x.cells.toList:=λh1 h2 q=>by rw[h1,q];exact⟨x,[],rfl,h2,rfl⟩
 cases v with
 |agg cs=>
  simp only[VRel]at hv;obtain⟨xs,rfl,h⟩:=hv;exact h
 |tup cs=>
  refine one rfl hv ?_;simp only[VRel]at hv;obtain⟨xs,rfl,h⟩:=hv;rfl
 |_=>exact one rfl hv (pG (hv.one rfl))
end
mutual
def V.pure:V→Bool
 |.ptr _ _=>false
 |.el _ _ _ _=>false
 |.sl _=>false
 |.np _=>false
 |.agg cs=>pureL cs
 |.tup cs=>pureL cs
 |.clo _ cs=>pureL cs
 |.int _ _=>true
 |.bool _=>true
 |.str _=>true
 |.nilp=>true
 |.nils=>true
 |.raw _=>true
 |.box _ _=>true
 |.row _ _=>true
 |.lk _=>true
def pureL:List V→Bool
 |[]=>true
 |v::r=>match v.pure with
  |true=>pureL r
  |false=>false
end
section
variable{S:Nat→Prop}{w:World}{ρ ρ':Nat→Option Value}
theorem sD{r:List V}(h:pureL (v::r)=true):v.pure=true∧pureL r=true:=by
 simp only[pureL]at h;split at h
 ·exact⟨‹_›,h⟩
 ·cases h
mutual
theorem VRel.pure:∀{v:V} {x:Value},v.pure=true→VRel S w ρ v x→VRel S w ρ' v x
 |.int _ _,x,_,h=>by simp only[VRel]at h⊢;exact h
 |.bool _,x,_,h=>by simp only[VRel]at h⊢;exact h
 |.str _,x,_,h=>by simp only[VRel]at h⊢;exact h
 |.nilp,x,_,h=>by simp only[VRel]at h⊢;exact h
 |.nils,x,_,h=>by simp only[VRel]at h⊢;exact h
 |.raw _,x,_,h=>by simp only[VRel]at h⊢;exact h
 |.ptr id o,x,hp,h=>by cases hp
 |.el id sz i o,x,hp,h=>by cases hp
 |.sl id,x,hp,h=>by cases hp
 |.np id,x,hp,h=>by cases hp
 |.box cs o,x,_,h=>by simp only[VRel]at h⊢;exact h
 |.row sz els,x,_,h=>by simp only[VRel]at h⊢;exact h
 |.agg cs,x,hp,h=>by
  simp only[VRel]at h⊢;obtain⟨xs,h1,h2⟩:=h;exact⟨xs,h1,LRel.pure (by simpa only[V.pure]using hp) h2⟩
 |.tup cs,x,hp,h=>by
  simp only[VRel]at h⊢;obtain⟨xs,h1,h2⟩:=h;exact⟨xs,h1,LRel.pure (by simpa only[V.pure]using hp) h2⟩
 |.lk _,x,_,h=>by simp only[VRel]at h⊢;exact h
 |.clo fid cs,x,hp,h=>by
  simp only[VRel]at h⊢;obtain⟨xs,h1,h2⟩:=h;exact⟨xs,h1,LRel.pure (by simpa only[V.pure]using hp) h2⟩
theorem LRel.pure:∀{v:List V} {x:List Value},pureL v=true→LRel S w ρ v x→LRel S w ρ' v x
 |[],x,_,h=>by simp only[LRel]at h⊢;exact h
 |v::r,x,hp,h=>by
  simp only[LRel]at h⊢;obtain⟨y,ys,h1,h2,h3⟩:=h;have hp':=sD hp;exact⟨y,ys,h1,VRel.pure hp'.1 h2,LRel.pure hp'.2 h3⟩
end
theorem CRel.pure{sz:Nat}:∀{v:List V} {x:List Value},pureL v=true→CRel S w ρ sz v x→CRel S w ρ' sz v x
 |[],x,_,h=>by simp only[CRel]at h⊢;exact h
 |v::r,x,E,h=>by
  simp only[CRel]at h⊢;obtain⟨y,ys,h1,h2,G,J⟩:=h;have q:=sD E;exact⟨y,ys,h1,h2,VRel.pure q.1 G,CRel.pure q.2 J⟩
end
theorem tL(l:List UInt8)(a b:Nat):(ByteArray.mk l.toArray).extract a b=⟨((l.drop a).take (b-a)).toArray⟩:=Lx.rJ l a b
def Agree(S:Nat→Prop)(w w':World):Prop:=∀b,S b→w'.heap[b]?=w.heap[b]?
abbrev fA(a:Act):Nat→Option Value:=λi=>a.tmps[i]?
def Opd(S:Nat→Prop)(w:World)(ρ:Nat→Option Value)(a:Act)(x:Operand)(v:V):Prop:=∃y,ao (fA a) x=some y∧VRel S w ρ v y
def Yld(P:Program)(S:Nat→Prop)(w:World)(ρ:Nat→Option Value)(a:Act)(ty:TypeId)(op:Op)(v:V):Prop:=∃x,VRel S w ρ v x∧∀w',Agree S w w'→Runs P a ty op w' (.value x) w'
variable{x:Operand}
variable{y:Operand}
variable{o:Nat}
variable{cs:List V}
variable{t:TypeId}
variable{k:Nat}
variable{j:Nat}
variable{f:Nat→Option Value}
variable{u:TypeId}
variable{els:List V}
variable{l:List UInt8}
variable{ps:List (Nat×Operand)}
section
variable{P:Program}{S:Nat→Prop}{w:World}{ρ:Nat→Option Value}{a:Act}{n:Nat}{ty:TypeId}
theorem FJ(fr:Fr a n (fA a))(hx:Opd S w ρ a x v):Yld P S w ρ a ty (.move x) v:=by
 obtain⟨y,h1,h2⟩:=hx;exact⟨y,h2,λw' _=>qw fr h1⟩
theorem BW(fr:Fr a n (fA a))(hx:Opd S w ρ a x v):Yld P S w ρ a ty (.assign x) v:=by
 obtain⟨y,h1,h2⟩:=hx;exact⟨y,h2,λw' _=>pW fr h1⟩
theorem Dp{c:Operand}(fr:Fr a n (fA a))(q:Opd S w ρ a c (.bool true))(hx:Opd S w ρ a x v):Yld P S w ρ a ty (.pick c x y) v:=by
 obtain⟨b,h1,h2⟩:=q;obtain⟨z,E,G⟩:=hx;simp only[VRel]at h2;subst h2;exact⟨z,G,λw' _=>vb fr h1 E⟩
theorem DG{c:Operand}(fr:Fr a n (fA a))(q:Opd S w ρ a c (.bool false))(hx:Opd S w ρ a y v):Yld P S w ρ a ty (.pick c x y) v:=by
 obtain⟨b,h1,h2⟩:=q;obtain⟨z,E,G⟩:=hx;simp only[VRel]at h2;subst h2;exact⟨z,G,λw' _=>uA fr h1 E⟩
theorem FI{id:Nat}(fr:Fr a n (fA a))(hx:Opd S w ρ a x (.ptr id o)):Yld P S w ρ a ty (.nilCheck x) (.ptr id o):=by
 obtain⟨y,h1,h2⟩:=hx;refine⟨y,h2,λw' _=>?_⟩;simp only[VRel]at h2;obtain⟨b,_,rfl⟩:=h2;exact sE fr h1
theorem Ev{id:Nat}(fr:Fr a n (fA a))(hx:Opd S w ρ a x (.el id sz i o)):Yld P S w ρ a ty (.nilCheck x) (.el id sz i o):=by
 obtain⟨y,h1,h2⟩:=hx;refine⟨y,h2,λw' _=>?_⟩;simp only[VRel]at h2;obtain⟨b,_,_,_,rfl⟩:=h2;exact sE fr h1
theorem Fp(fr:Fr a n (fA a))(hx:Opd S w ρ a x (.box cs o)):Yld P S w ρ a ty (.nilCheck x) (.box cs o):=by
 obtain⟨y,h1,h2⟩:=hx;refine⟨y,h2,λw' _=>?_⟩;simp only[VRel]at h2;obtain⟨b,off,xs,rfl,_⟩:=h2;exact sE fr h1
theorem FW{vs:List V}(fr:Fr a n (fA a))(hx:Opd S w ρ a x (.tup vs))(hi:vs[i]?=some v):Yld P S w ρ a ty (.extract x i) v:=by
 obtain⟨y,h1,h2⟩:=hx;simp only[VRel]at h2;obtain⟨xs,rfl,q⟩:=h2;obtain⟨z,E,G⟩:=q.get hi;exact⟨z,G,λw' _=>so fr h1 (by simpa using E)⟩
theorem Gl{b:Bool}(fr:Fr a n (fA a))(hx:Opd S w ρ a x (.bool b)):Yld P S w ρ a ty (.unOp .not t x) (.bool !b):=by
 obtain⟨y,h1,h2⟩:=hx;simp only[VRel]at h2;subst h2;exact⟨_,by simp only[VRel],λw' _=>zz fr h1 rfl⟩
theorem FV{id:Nat}(fr:Fr a n (fA a))(hx:Opd S w ρ a x (.ptr id o))(q:en P t i=some k):Yld P S w ρ a ty (.fieldAddr t x i) (.ptr id (o+k)):=by
 obtain⟨y,h1,h2⟩:=hx;simp only[VRel]at h2;obtain⟨b,E,rfl⟩:=h2;exact⟨_,by simp only[VRel];exact⟨b,E,rfl⟩,λw' _=>uv fr h1 q rfl⟩
theorem Gn{id:Nat}(fr:Fr a n (fA a))(hx:Opd S w ρ a x (.el id sz j o))(q:en P t i=some k):Yld P S w ρ a ty (.fieldAddr t x i) (.el id sz j (o+k)):=by
 obtain⟨y,h1,h2⟩:=hx;simp only[VRel]at h2;obtain⟨b,m,c,E,rfl⟩:=h2;exact⟨_,by simp only[VRel];exact⟨b,m,c,E,rfl⟩,λw' _=>uv fr h1 q (Nat.add_assoc _ _ _)⟩
theorem Gq(fr:Fr a n (fA a))(hx:Opd S w ρ a x (.box cs o))(q:en P t i=some k):Yld P S w ρ a ty (.fieldAddr t x i) (.box cs (o+k)):=by
 obtain⟨y,h1,h2⟩:=hx;simp only[VRel]at h2;obtain⟨b,off,xs,rfl,E⟩:=h2;exact⟨_,by simp only[VRel];exact⟨b,off,xs,rfl,E⟩,λw' _=>uv fr h1 q (Nat.add_assoc _ _ _)⟩
theorem GG(fr:Fr a n (fA a))(hx:Opd S w ρ a x (.agg cs))(q:mK P t i=some k)(hv:cs[k]?=some v):Yld P S w ρ a ty (.field t x i) v:=by
 obtain⟨y,h1,h2⟩:=hx;simp only[VRel]at h2;obtain⟨xs,rfl,E⟩:=h2;obtain⟨z,G,J⟩:=E.get hv;exact⟨z,J,λw' _=>FQ fr h1 q G⟩
def mA(P:Program)(t:TypeId)(i:Nat):Option (Nat×Nat):=match P.underlying t with
 |some (.struct fs)=>match fs[i]? with
  |some fl=>match jt P fl.type with
   |some m=>some (fl.offset,m)
   |none=>none
  |none=>none
 |_=>none
theorem EQ{cs:List Value}(h:Fr a n f)(hx:ao f x=some (.agg cs.toArray))(q:mA P t i=some (k,m)):Runs P a ty (.field t x i) w (.value (.agg ((cs.drop k).take m).toArray)) w:=by
 refine vh h hx λw=>?_;unfold mA at q;split at q
 ·rename_i fs G;split at q
  ·rename_i fl J;split at q
   ·rename_i U E;simp only[Option.some.injEq,Prod.mk.injEq]at q;obtain⟨rfl,rfl⟩:=q;have O:(isAgg fl.type).run P w=.ok true w∧(sizeOf fl.type).run P w=.ok U w:=by
     unfold jt at E;cases G:P.underlying fl.type with
     |none=>rw[G]at E;cases E
     |some d=>
      rw[G]at E;cases d<;>first|cases E|(obtain⟨i,hi,E⟩:=Option.map_eq_some_iff.1 E;simp[isAgg,run_underlying G,sizeOf,typeInfo,hi,E])
    simp[Instr.field,run_underlying G,J,part,O.1,O.2,asAgg]
   ·cases q
  ·cases q
 ·cases q
theorem FL(fr:Fr a n (fA a))(hx:Opd S w ρ a x (.agg cs))(q:mA P t i=some (k,m)):Yld P S w ρ a ty (.field t x i) (.agg ((cs.drop k).take m)):=by
 obtain⟨y,h1,h2⟩:=hx;simp only[VRel]at h2;obtain⟨xs,rfl,E⟩:=h2;exact⟨_,by simp only[VRel];exact⟨_,rfl,(E.drop k).take m⟩,λw' _=>EQ fr h1 q⟩
section
variable{t u:TypeId}{x y:Operand}{k:IntKind}{m l:Int}
theorem aT(h:Opd S w ρ a x (.int k m)):ao (fA a) x=some (.int k m):=by
 obtain⟨y,h1,h2⟩:=h;simp only[VRel]at h2;subst h2;exact h1
theorem ly{b:Bool}(h:Opd S w ρ a x (.bool b)):ao (fA a) x=some (.bool b):=by
 obtain⟨y,h1,h2⟩:=h;simp only[VRel]at h2;subst h2;exact h1
theorem eQ{s:List UInt8}(h:Opd S w ρ a x (.str s)):ao (fA a) x=some (.string ⟨s.toArray⟩):=by
 obtain⟨y,h1,h2⟩:=h;simp only[VRel]at h2;subst h2;exact h1
variable(fr:Fr a n (fA a))(hx:Opd S w ρ a x (.int k m))(hy:Opd S w ρ a y (.int k l))
include fr hx hy
theorem Gr:Yld P S w ρ a ty (.binOp .eql t x y u) (.bool (m==l)):=⟨_,by simp only[VRel],λw' _=>Av fr (aT hx) (aT hy) rfl⟩
theorem Gx:Yld P S w ρ a ty (.binOp .neq t x y u) (.bool (m !=l)):=⟨_,by simp only[VRel],λw' _=>AZ fr (aT hx) (aT hy) rfl⟩
theorem Gg:Yld P S w ρ a ty (.binOp .lss t x y u) (.bool (decide (m<l))):=⟨_,by simp only[VRel],λw' _=>lX fr (aT hx) (aT hy) rfl⟩
theorem Gs:Yld P S w ρ a ty (.binOp .leq t x y u) (.bool (decide (m≤l))):=⟨_,by simp only[VRel],λw' _=>Ey fr (aT hx) (aT hy) rfl⟩
theorem FS:Yld P S w ρ a ty (.binOp .gtr t x y u) (.bool (decide (l<m))):=⟨_,by simp only[VRel],λw' _=>vd fr (aT hx) (aT hy) rfl⟩
theorem Gd:Yld P S w ρ a ty (.binOp .geq t x y u) (.bool (decide (l≤m))):=⟨_,by simp only[VRel],λw' _=>EH fr (aT hx) (aT hy) rfl⟩
end
section
variable{t u:TypeId}{x y:Operand}{m l:Int}(fr:Fr a n (fA a))(hx:Opd S w ρ a x (.int .i64 m))(hy:Opd S w ρ a y (.int .i64 l))
include fr hx hy
theorem Fh:Yld P S w ρ a ty (.call {callee:=.builtin .max,args:=#[x,y],argTypes:=#[t,u]}) (.int .i64 (max m l)):=⟨_,by simp only[VRel],λw' _=>DB fr (aT hx) (aT hy)⟩
end
theorem Gp{m l:Bool}(fr:Fr a n (fA a))(ht:P.underlying t=some .bool)(hx:Opd S w ρ a x (.bool m))(hy:Opd S w ρ a y (.bool l)):Yld P S w ρ a ty (.binOp .eql t x y u) (.bool (m==l)):=
 ⟨_,by simp only[VRel],λw' _=>FB ht fr (ly hx) (ly hy) rfl⟩
theorem Es{m l c:Bool}(ht:P.underlying t=some .bool)(h:Fr a n f)(hx:ao f x=some (.bool m))(hy:ao f y=some (.bool l))(q:(m !=l)=c):Runs P a ty (.binOp .neq t x y u) w (.value (.bool c)) w:=λ_ _ _ _=>by subst q;simp only[execOp,h.eval hx,h.eval hy];simp[go_sem,eqGuard,ht,bne]
theorem FT{m l:Bool}(fr:Fr a n (fA a))(ht:P.underlying t=some .bool)(hx:Opd S w ρ a x (.bool m))(hy:Opd S w ρ a y (.bool l)):Yld P S w ρ a ty (.binOp .neq t x y u) (.bool (m !=l)):=
 ⟨_,by simp only[VRel],λw' _=>Es ht fr (ly hx) (ly hy) rfl⟩
section
variable{t u:TypeId}{x y:Operand}{m l:List UInt8}(fr:Fr a n (fA a))(hx:Opd S w ρ a x (.str m))(hy:Opd S w ρ a y (.str l))
include fr hx hy
theorem Gh:Yld P S w ρ a ty (.binOp .eql t x y u) (.bool (m==l)):=⟨_,by simp only[VRel],λw' _=>ER fr (eQ hx) (eQ hy) rfl⟩
theorem FR:Yld P S w ρ a ty (.binOp .neq t x y u) (.bool (m !=l)):=⟨_,by simp only[VRel],λw' _=>Eh fr (eQ hx) (eQ hy) rfl⟩
end
theorem Ao{m:List UInt8}(fr:Fr a n (fA a))(ht:P.underlying t=some .string)(hx:Opd S w ρ a x (.str m)):Yld P S w ρ a ty (.call {callee:=.builtin .len,args:=#[x],argTypes:=#[t]}) (.int .i64 m.length):=
 ⟨_,by simp only[VRel],λw' _=>Dd fr ht (eQ hx)⟩
theorem FF(fr:Fr a n (fA a))(ht:P.underlying t=some (.slice e))(hx:Opd S w ρ a x .nils):Yld P S w ρ a ty (.call {callee:=.builtin .len,args:=#[x],argTypes:=#[t]}) (.int .i64 0):=by
 obtain⟨y,h1,h2⟩:=hx;simp only[VRel]at h2;subst h2;exact⟨.int .i64 (0:Nat),by simp only[VRel];rfl,λw' _=>ku fr ht h1⟩
theorem AA(fr:Fr a n (fA a))(ht:P.underlying t=some (.slice e))(hx:Opd S w ρ a x (.row sz els)):Yld P S w ρ a ty (.call {callee:=.builtin .len,args:=#[x],argTypes:=#[t]}) (.int .i64 els.length):=by
 obtain⟨y,h1,h2⟩:=hx;simp only[VRel]at h2;obtain⟨A,c,xs,rfl,_⟩:=h2;exact⟨_,by simp only[VRel],λw' _=>ku fr ht h1⟩
theorem ee{e:Nat}{v:Value}(h:w.ownsRow base e sz v k xs):∃A c,v=.slice A k c∧k≤c∧c≤maxLen:=by
 rcases h.2 with⟨rfl,rfl⟩|⟨g,cap,cur,rfl,_,_,q,E,_⟩
 ·exact⟨none,0,rfl,Nat.le_refl _,by decide⟩
 ·exact⟨_,cap,rfl,q,E⟩
theorem Bb{h:Nat→Ob}{G:TypeId}{id:Nat}(hr:HRel S w ρ h)(J:h id=.row G sz els)(fr:Fr a n (fA a))(ht:P.underlying t=some (.slice e))(hx:Opd S w ρ a x (.sl id)):Yld P S w ρ a ty (.call {callee:=.builtin .len,args:=#[x],argTypes:=#[t]}) (.int .i64 els.length):=by
 obtain⟨y,h1,h2⟩:=hx;simp only[VRel]at h2;have q:=hr.ob id;rw[J]at q;obtain⟨v,xs,E,O,U⟩:=q;rw[h2.1]at E;cases E;obtain⟨A,c,rfl,_⟩:=ee O;exact⟨_,by simp only[VRel],λw' _=>ku fr ht h1⟩
theorem p_idxR(fr:Fr a n (fA a))(ht:P.underlying t=some (.slice e))(G:bS P e=some sz)(hx:Opd S w ρ a x (.row sz els))(hy:Opd S w ρ a y (.int .i64 (i:Int)))(hi:els[i]?=some v):
  Yld P S w ρ a ty (.indexAddr t x y) (.box v.cells 0):=by
 obtain⟨y',h1,h2⟩:=hx;simp only[VRel]at h2;obtain⟨A,c,xs,rfl,h3,h4,J,O⟩:=h2;have q:i<els.length:=by
  rcases Nat.lt_or_ge i els.length with h|h
  ·exact h
  ·rw[List.getElem?_eq_none h]at hi;cases hi
 obtain⟨b,off,rfl,U,Z,hc⟩:=O.2 (by omega);obtain⟨z,g1,g2,g3⟩:=J.get hi;have hcell:∀j,j<sz→w.cell? ⟨b,off+i*sz+j,none⟩=z.cells.toList[j]?:=λj E=>by
  rw[←g3 j E,Nat.add_assoc];refine hc _ ?_;have :(i+1)*sz≤els.length*sz:=Nat.mul_le_mul_right _ q;rw[Nat.add_mul,Nat.one_mul]at this;omega
 refine⟨_,?_,λw' _=>iQ fr ht G h1 (aT hy) rfl q rfl⟩;simp only[VRel];refine⟨b,off+i*sz,_,by simp,U,Z,g1.cells,λj E=>?_⟩;exact hcell j (by simp at E;omega)
theorem p_idxO{h:Nat→Ob}{G:TypeId}{id:Nat}(hr:HRel S w ρ h)(J:h id=.row G sz els)(fr:Fr a n (fA a))(ht:P.underlying t=some (.slice e))(O:bS P e=some sz)(hx:Opd S w ρ a x (.sl id))(hy:Opd S w ρ a y (.int .i64 (i:Int)))(hi:i<els.length):
  Yld P S w ρ a ty (.indexAddr t x y) (.el id sz i 0):=by
 obtain⟨Z,h1,h2⟩:=hx;simp only[VRel]at h2;have q:=hr.ob id;rw[J]at q;obtain⟨v,xs,E,U,h6⟩:=q;rw[h2.1]at E;cases E;obtain⟨g,cap,rfl,_⟩:=U.form (by omega);exact⟨_,by simp only[VRel];exact⟨g,_,_,h2.1,rfl⟩,λw' _=>iQ fr ht O h1 (aT hy) rfl hi (by simp)⟩
theorem Ds{c:UInt8}(h:Fr a n f)(ht:P.underlying t=some .string)(hx:ao f x=some (.string ⟨l.toArray⟩))(hy:ao f y=some (.int .i64 (i:Int)))(hi:l[i]?=some c):Runs P a ty (.index t x y) w (.value (.int .u8 c.toNat)) w:=λ_ _ _ _=>by
 simp only[execOp,h.eval hx,h.eval hy];have E:(ByteArray.mk l.toArray)[i]?=some c:=by
  obtain⟨q,G⟩:=List.getElem?_eq_some_iff.1 hi;have :i<(ByteArray.mk l.toArray).size:=by simpa[ByteArray.size]using q
  rw[getElem?_pos (ByteArray.mk l.toArray) i this];simpa[ByteArray.getElem_eq_getElem_data]using G
 simp[Instr.index,asIntOf,run_underlying ht,E]
theorem Et{c:UInt8}(fr:Fr a n (fA a))(ht:P.underlying t=some .string)(hx:Opd S w ρ a x (.str l))(hy:Opd S w ρ a y (.int .i64 (i:Int)))(hi:l[i]?=some c):Yld P S w ρ a ty (.index t x y) (.int .u8 c.toNat):=
 ⟨_,by simp only[VRel],λw' _=>Ds fr ht (eQ hx) (aT hy) hi⟩
theorem EM{lo hi:Option Operand}{i j:Nat}(h:Fr a n f)(ht:P.underlying t=some .string)(hx:ao f x=some (.string ⟨l.toArray⟩))
  (E:(lo=none∧i=0)∨∃y,lo=some y∧ao f y=some (.int .i64 (i:Int))) (G:(hi=none∧j=l.length)∨∃y,hi=some y∧ao f y=some (.int .i64 (j:Int))) (O:i≤j) (U:j≤l.length):
  Runs P a ty (.slice t x lo hi none) w (.value (.string ⟨((l.drop i).take (j-i)).toArray⟩)) w:=λ_ _ _ _=>by
 have q:(ByteArray.mk l.toArray).size=l.length:=by simp[ByteArray.size]
 rw[←tL];rcases E with⟨rfl,rfl⟩|⟨y,rfl,hy⟩<;>rcases G with⟨rfl,rfl⟩|⟨z,rfl,J⟩
 ·simp only[execOp,h.eval hx,Option.map_none];simp[Instr.sliceAt,Instr.slice,run_underlying ht,Instr.sliceBounds,q];rw[tL];simp
 ·simp only[execOp,h.eval hx,h.eval J,Option.map_none,Option.map_some];simp[Instr.sliceAt,Instr.slice,run_underlying ht,Instr.sliceBounds,q,run_sliceBound _ .i64 (j:Int) l.length _ (by omega) (by omega)]
 ·simp only[execOp,h.eval hx,h.eval hy,Option.map_none,Option.map_some];simp[Instr.sliceAt,Instr.slice,run_underlying ht,Instr.sliceBounds,q,run_sliceBound _ .i64 (i:Int) l.length _ (by omega) (by omega)]
 ·simp only[execOp,h.eval hx,h.eval hy,h.eval J,Option.map_some];simp[Instr.sliceAt,Instr.slice,run_underlying ht,Instr.sliceBounds,q,run_sliceBound _ .i64 (j:Int) l.length _ (by omega) (by omega),run_sliceBound _ .i64 (i:Int) j _ (by omega) (by omega)]
theorem FO{lo hi:Option Operand}{i j:Nat}(fr:Fr a n (fA a))(ht:P.underlying t=some .string)(hx:Opd S w ρ a x (.str l))
  (q:(lo=none∧i=0)∨∃y,lo=some y∧Opd S w ρ a y (.int .i64 (i:Int))) (E:(hi=none∧j=l.length)∨∃y,hi=some y∧Opd S w ρ a y (.int .i64 (j:Int))) (G:i≤j) (J:j≤l.length):
  Yld P S w ρ a ty (.slice t x lo hi none) (.str ((l.drop i).take (j-i))):=
 ⟨_,by simp only[VRel],λw' _=>EM fr ht (eQ hx) (q.imp id λ⟨y,e,h⟩=>⟨y,e,aT h⟩) (E.imp id λ⟨y,e,h⟩=>⟨y,e,aT h⟩) G J⟩
theorem zE{lo hi:Option Operand}{c i j:Nat}(h:Fr a n f)(ht:P.underlying t=some (.slice e))(U:bS P e=some sz)(hx:ao f x=some (.slice A m c))
  (G:(lo=none∧i=0)∨∃y,lo=some y∧ao f y=some (.int .i64 (i:Int))) (J:(hi=none∧j=m)∨∃y,hi=some y∧ao f y=some (.int .i64 (j:Int))) (Z:i≤j) (hj:j≤m) (hm:m≤c):
  Runs P a ty (.slice t x lo hi none) w (.value (.slice (if c=i then A else A.map (·.add (i*sz))) (j-i) (c-i))) w:=λ_ _ _ _=>by
 obtain⟨inf,O,hs⟩:=Option.map_eq_some_iff.1 (show(P.info? e).map (·.size)=some sz from U);have q:(sizeOf e).run P w=.ok sz w:=by simp[sizeOf,typeInfo,O,hs]
 rcases G with⟨rfl,rfl⟩|⟨y,rfl,hy⟩<;>rcases J with⟨rfl,rfl⟩|⟨z,rfl,E⟩
 ·simp only[execOp,h.eval hx,Option.map_none];simp[Instr.sliceAt,Instr.slice,run_underlying ht,Instr.sliceBounds,q]
 ·simp only[execOp,h.eval hx,h.eval E,Option.map_none,Option.map_some];simp[Instr.sliceAt,Instr.slice,run_underlying ht,Instr.sliceBounds,q,run_sliceBound _ .i64 (j:Int) c _ (by omega) (by omega)]
 ·simp only[execOp,h.eval hx,h.eval hy,Option.map_none,Option.map_some];simp[Instr.sliceAt,Instr.slice,run_underlying ht,Instr.sliceBounds,q,run_sliceBound _ .i64 (i:Int) j _ (by omega) (by omega)]
 ·simp only[execOp,h.eval hx,h.eval hy,h.eval E,Option.map_some];simp[Instr.sliceAt,Instr.slice,run_underlying ht,Instr.sliceBounds,q,run_sliceBound _ .i64 (j:Int) c _ (by omega) (by omega),run_sliceBound _ .i64 (i:Int) j _ (by omega) (by omega)]
theorem AB{c:Nat}(hr:RowIn S w sz A m xs)(q:i≤j)(E:j≤m)(Z:m≤c):RowIn S w sz (if c=i then A else A.map (·.add (i*sz))) (j-i) ((xs.drop (i*sz)).take ((j-i)*sz)):=by
 have h1:(j-i)*sz+i*sz=j*sz:=by rw[←Nat.add_mul];congr 1;omega
 have h2:j*sz≤m*sz:=Nat.mul_le_mul_right _ E;refine⟨by simp[hr.1];omega,λhn=>?_⟩;obtain⟨b,off,rfl,G,J,O⟩:=hr.2 (by omega);rw[if_neg (by omega)];refine⟨b,off+i*sz,by simp[iP],G,J,λk U=>?_⟩;rw[Nat.add_assoc,O _ (by omega),List.getElem?_take,if_pos U,List.getElem?_drop]
theorem CK{lo hi:Option Operand}{i j:Nat}(fr:Fr a n (fA a))(ht:P.underlying t=some (.slice e))(U:bS P e=some sz)(hx:Opd S w ρ a x (.row sz els))
  (E:(lo=none∧i=0)∨∃y,lo=some y∧Opd S w ρ a y (.int .i64 (i:Int))) (G:(hi=none∧j=els.length)∨∃y,hi=some y∧Opd S w ρ a y (.int .i64 (j:Int))) (q:i≤j) (J:j≤els.length):
  Yld P S w ρ a ty (.slice t x lo hi none) (.row sz ((els.drop i).take (j-i))):=by
 obtain⟨y,h1,h2⟩:=hx;simp only[VRel]at h2;obtain⟨A,c,xs,rfl,O,h4,Z,h6⟩:=h2;refine⟨_,?_,λw' _=>zE fr ht U h1 (E.imp id λ⟨y,e,h⟩=>⟨y,e,aT h⟩) (G.imp id λ⟨y,e,h⟩=>⟨y,e,aT h⟩) q J O⟩;simp only[VRel];have e:((els.drop i).take (j-i)).length=j-i:=by simp;omega
 rw[e];exact⟨_,_,_,rfl,by omega,by omega,(Z.drop i).take (j-i),AB h6 q J O⟩
theorem Da(fr:Fr a n (fA a))(ht:cS P t=true)(hx:Opd S w ρ a x (.box cs o))(hv:cs[o]?=some v):Yld P S w ρ a ty (.load t x) v:=by
 obtain⟨y,h1,h2⟩:=hx;simp only[VRel]at h2;obtain⟨b,off,xs,rfl,G,hb,J,O⟩:=h2;obtain⟨z,q,U⟩:=J.get hv;have E:o<xs.length:=by
  rcases Nat.lt_or_ge o xs.length with h|h
  ·exact h
  ·rw[List.getElem?_eq_none h]at q;cases q
 exact⟨z,U.up up0,λw' Z=>ex_load fr h1 ht ((World.cell?_of_block (a:=⟨b,off+o,none⟩) (Z b G)).trans ((O o E).trans q))⟩
theorem Ca(fr:Fr a n (fA a))(ht:jt P t=some m)(hx:Opd S w ρ a x (.box cs o))(Z:o+m≤cs.length):Yld P S w ρ a ty (.load t x) (.agg ((cs.drop o).take m)):=by
 obtain⟨y,h1,h2⟩:=hx;simp only[VRel]at h2;obtain⟨b,off,xs,rfl,G,hb,q,J⟩:=h2;have E:=q.length;refine⟨.agg ((xs.drop o).take m).toArray,by simp only[VRel];exact⟨_,rfl,((q.drop o).take m).up up0⟩,λw' O=>ex_loadN fr h1 ht (by simp;omega) λj U=>?_⟩;rw[World.cell?_of_block (a:=⟨b,off+o+j,none⟩) (O b G),Nat.add_assoc,J _ (by omega),List.getElem?_take,if_pos U,List.getElem?_drop]
def ny(cs:List V)(o:Nat)(ps:List V):List V:=cs.take o++ps++cs.drop (o+ps.length)
def nm(place:Nat→Option (Nat×Nat)):List V→List (Nat×V)→Option (List V)
 |cs,[]=>some cs
 |cs,(i,v)::r=>match place i with
  |some (o,sz)=>match Nat.beq v.cells.length sz&&Nat.ble (o+sz) cs.length with
   |true=>nm place (ny cs o v.cells) r
   |false=>none
  |none=>none
def gM(S:Nat→Prop)(w:World)(ρ:Nat→Option Value):List (Nat×V)→List (Nat×Value)→Prop
 |[],ys=>ys=[]
 |(i,v)::r,ys=>∃x zs,ys=(i,x)::zs∧VRel S w ρ v x∧gM S w ρ r zs
theorem th{place pl:Nat→Option (Nat×Nat)}(hpl:∀i p,place i=some p→pl i=some p):∀{vs:List (Nat×V)} {ys:List (Nat×Value)} {cs cs':List V} {xs:List Value},gM S w ρ vs ys→LRel S w ρ cs xs→nm place cs vs=some cs'→∃xs',Instr.fill pl xs.toArray ys=some xs'.toArray∧LRel S w ρ cs' xs'
 |[],ys,cs,cs',xs,hp,hl,hf=>by
  simp only[gM]at hp;subst hp;simp only[nm,Option.some.injEq]at hf;subst hf;exact⟨xs,rfl,hl⟩
 | (i,v)::r,ys,cs,cs',xs,hp,hl,hf=>by
  simp only[gM]at hp;obtain⟨x,zs,rfl,hx,hr⟩:=hp;simp only[nm]at hf;split at hf
  ·rename_i o sz hpi;split at hf
   ·rename_i hc;simp only[Bool.and_eq_true,Nat.beq_eq,Nat.ble_eq]at hc;have hcl:=hx.cells.length;simp only[Array.length_toList]at hcl;have hlen:=hl.length;have hl':LRel S w ρ (ny cs o v.cells) (xs.take o++x.cells.toList++xs.drop (o+x.cells.size)):=by
     unfold ny;rw[hcl];exact((hl.take o).append hx.cells).append (hl.drop _)
    obtain⟨xs',h1,h2⟩:=th hpl hr hl' hf;refine⟨xs',?_,h2⟩;simp only[Instr.fill,hpl i _ hpi];rw[if_neg (by simp;omega),←h1]
    congr 1
    have hfs:=qa o x.cells.toList 0 xs (by simp;omega);simp only[Nat.add_zero,Array.length_toList]at hfs;rw[←hfs,←Array.foldl_toList,Array.toList_zipIdx]
   ·cases hf
  ·cases hf
def qv(P:Program)(t:TypeId):Option (List (Nat×Nat)):=match P.underlying t with
 |some (.struct fs)=>fs.toList.mapM λfl=>(bS P fl.type).map λs=>(fl.offset,s)
 |_=>none
theorem sQ:∀{fs:List Field} {ps:List (Nat×Nat)},(fs.mapM λfl=>(bS P fl.type).map λs=>(fl.offset,s))=some ps→(fs.mapM (m:=Sem) λfl=>do pure (fl.offset,←sizeOf fl.type)).run P w=.ok ps w
 |[],ps,h=>by simp at h;subst h;simp
 |fl::r,ps,h=>by
  simp only[List.mapM_cons]at h;obtain⟨p,h1,h⟩:=Option.bind_eq_some_iff.1 h;obtain⟨qs,h2,h⟩:=Option.bind_eq_some_iff.1 h;simp only[Option.pure_def,Option.some.injEq]at h;subst h;obtain⟨s,q,E⟩:=Option.map_eq_some_iff.1 h1;obtain⟨inf,G,J⟩:=Option.map_eq_some_iff.1 (show(P.info? fl.type).map (·.size)=some s from q);have ih:=sQ h2;have O:(sizeOf fl.type).run P w=.ok s w:=by simp[sizeOf,typeInfo,G,J]
  subst E;simp only[List.mapM_cons];simp[O];simp at ih;simp[ih]
theorem Dx{vs:List (Nat×V)}{ys:List (Nat×Value)}{pl:List (Nat×Nat)}{z:List Value}{zv cs:List V}{place:Nat→Option (Nat×Nat)}(fr:Fr a n (fA a))(hps:dx (fA a) ps=some ys)(hpr:gM S w ρ vs ys)(hz:jb P t=some z)(hzv:LRel S w ρ zv z)
  (hpl:qv P t=some pl) (hplace:∀i p,place i=some p→pl[i]?=some p) (hf:nm place zv vs=some cs):Yld P S w ρ a ty (.build t ps.toArray) (.agg cs):=by
 obtain⟨xs,h1,h2⟩:=th (pl:=λi=>pl.toArray[i]?) (λi p h=>by simpa using hplace i p h) hpr hzv hf;refine⟨.agg xs.toArray,by simp only[VRel];exact⟨xs,rfl,h2⟩,λw' _=>rt fr hps λw=>?_⟩;unfold jb at hz;obtain⟨z0,hz1,hz2⟩:=Option.map_eq_some_iff.1 hz;obtain⟨inf,hi,hiz⟩:=Option.bind_eq_some_iff.1 hz1;have ez:z0.cells=z.toArray:=by rw[←hz2]
 unfold qv at hpl;cases hu:P.underlying t with
 |none=>rw[hu]at hpl;cases hpl
 | some d=>
  rw[hu]at hpl;cases d with
  | struct fs=>
   have hm:=sQ (w:=w) hpl;have hm':(fs.mapM (m:=Sem) λfl=>do pure (fl.offset,←sizeOf fl.type)).run P w=.ok pl.toArray w:=by
    have e:fs.mapM (m:=Sem) (λfl=>do pure (fl.offset,←sizeOf fl.type))=List.toArray<$>fs.toList.mapM (m:=Sem) (λfl=>do pure (fl.offset,←sizeOf fl.type)):=by
     rw[←List.mapM_toArray]
    rw[e];simp at hm;simp[hm]
   simp only[Instr.build];simp at hm';simp[zeroValue,typeInfo,hi,hiz,run_underlying hu,hm',ez];simp at h1;rw[h1];simp
  |_=>cases hpl
theorem BT{vs:List (Nat×V)}{ys:List (Nat×Value)}{sz len:Nat}{e:TypeId}{z:List Value}{zv cs:List V}(fr:Fr a n (fA a))(q:dx (fA a) ps=some ys)(E:gM S w ρ vs ys)(Z:jb P t=some z)(G:LRel S w ρ zv z)
  (ht:P.underlying t=some (.array len e)) (he:bS P e=some sz) (hf:nm (λi=>some (i*sz,sz)) zv vs=some cs):Yld P S w ρ a ty (.build t ps.toArray) (.agg cs):=by
 obtain⟨xs,h1,h2⟩:=th (pl:=λi=>some (i*sz,sz)) (λi p h=>h) E G hf;refine⟨.agg xs.toArray,by simp only[VRel];exact⟨xs,rfl,h2⟩,λw' _=>rt fr q λw=>?_⟩;unfold jb at Z;obtain⟨z0,J,O⟩:=Option.map_eq_some_iff.1 Z;obtain⟨inf,hi,U⟩:=Option.bind_eq_some_iff.1 J;have ez:z0.cells=z.toArray:=by rw[←O]
 obtain⟨inf',h5,h6⟩:=Option.map_eq_some_iff.1 (show(P.info? e).map (·.size)=some sz from he);have h7:(sizeOf e).run P w=.ok sz w:=by simp[sizeOf,typeInfo,h5,h6]
 simp only[Instr.build];simp[zeroValue,typeInfo,hi,U,run_underlying ht,h7,ez];rw[h1];simp
end
structure ChgP (X:Nat→Prop) (w w':World):Prop where
 os:w'.os=w.os
 tape:w'.tape=w.tape
 output:w'.output=w.output
 size:w.heap.size≤w'.heap.size
 block:∀k,k<w.heap.size→¬X k→w'.heap[k]?=w.heap[k]?
theorem ChgP.refl(X:Nat→Prop)(w:World):ChgP X w w:=⟨rfl,rfl,rfl,Nat.le_refl _,λ_ _ _=>rfl⟩
variable{w1:World}
theorem ChgP.trans{X Y:Nat→Prop}{w w2:World}(h:ChgP X w w1)(k:ChgP Y w1 w2)(G:∀b,Y b→X b∨w.heap.size≤b):ChgP X w w2:=
 ⟨k.os.trans h.os,k.tape.trans h.tape,k.output.trans h.output,Nat.le_trans h.size k.size,λb q E=>by
  rw[k.block b (Nat.lt_of_lt_of_le q h.size) (λJ=>by rcases G b J with h1|h1;exact E h1;omega),h.block b q E]⟩
theorem ChgP.mono{X Y:Nat→Prop}{w:World}(h:ChgP X w w1)(q:∀b,X b→Y b):ChgP Y w w1:=⟨h.os,h.tape,h.output,h.size,λb E G=>h.block b E (λJ=>G (q b J))⟩
variable{X:List Nat}
theorem ChgP.of{w:World}(h:Chg X w w1):ChgP (·∈X) w w1:=⟨h.os,h.tape,h.output,h.size,h.block⟩
theorem ChgP.of0{X:Nat→Prop}{w:World}(h:Chg [] w w1):ChgP X w w1:=(ChgP.of h).mono (λb q=>by simp at q)
def bM(h:Nat→Ob)(id:Nat)(o:Ob):Nat→Ob:=λi=>match Nat.beq i id with|true=>o|false=>h i
def dc(ρ:Nat→Option Value)(id:Nat)(x:Value):Nat→Option Value:=λi=>match Nat.beq i id with|true=>some x|false=>ρ i
theorem bi(h:Nat→Ob)(id:Nat)(o:Ob):bM h id o id=o:=by simp[bM]
theorem bN(h:Nat→Ob){id:Nat}(o:Ob)(hi:i≠id):bM h id o i=h i:=by
 unfold bM;split
 ·rename_i q;exact absurd (Nat.eq_of_beq_eq_true q) hi
 ·rfl
theorem aJ(ρ:Nat→Option Value)(id:Nat)(x:Value):dc ρ id x id=some x:=by simp[dc]
theorem lI(ρ:Nat→Option Value){id:Nat}(x:Value)(hi:i≠id):dc ρ id x i=ρ i:=by
 unfold dc;split
 ·rename_i q;exact absurd (Nat.eq_of_beq_eq_true q) hi
 ·rfl
structure Eff (S:Nat→Prop) (w w':World) (ρ ρ':Nat→Option Value) (h h':Nat→Ob) (X:Nat→Prop):Prop where
 hr:HRel S w' ρ' h'
 up:Up S S w w' ρ ρ'
 chg:ChgP (λb=>∃id,X id∧own ρ id (h id) b) w w'
 new:∀id b,own ρ' id (h' id) b→(∃j,own ρ j (h j) b)∨w.heap.size≤b
def Does (P:Program) (S:Nat→Prop) (w:World) (ρ:Nat→Option Value) (h:Nat→Ob) (a:Act) (ty:TypeId) (op:Op) (v:Option V) (h':Nat→Ob) (X:Nat→Prop):Prop:=
  ∃ nx w' ρ',Runs P a ty op w nx w'∧Eff S w w' ρ ρ' h h' X∧match v with
    |some v=>∃x,nx=.value x∧VRel S w' ρ' v x
    |none=>nx=.skip
variable{nid:Nat}
variable{tb:TypeId}
variable{v0:V}
section
variable{P:Program}{S:Nat→Prop}{w w':World}{ρ ρ':Nat→Option Value}{h h':Nat→Ob}{a:Act}{n:Nat}{ty:TypeId}
theorem Eff.refl{X:Nat→Prop}(hr:HRel S w ρ h):Eff S w w ρ ρ h h X:=⟨hr,Up.refl,ChgP.refl _ _,λid b q=>.inl ⟨id,q⟩⟩
theorem vI{X Y:Nat→Prop}(k src:Nat)(hr:HRel S w ρ h)(hc:ChgP X w w')(hρ:∀i x,ρ i=some x→ρ' i=some x)(hX:∀b,X b→∃id,Y id∧own ρ id (h id) b)
  (hk:gn S w' ρ' k (h' k)) (U:∀b,own ρ' k (h' k) b→w.heap.size≤b∨own ρ src (h src) b) (Z:src≠k→h' src=.gone)
  (hi:∀i,i≠k→h' i=.gone∨(h' i=h i∧(h i=.free→ρ' i=none)∧∀b,own ρ i (h i) b→¬X b)):Eff S w w' ρ ρ' h h' Y:=by
 have hnS:∀b,S b→¬X b:=λb E hx=>by obtain⟨id,_,ho⟩:=hX b hx;exact hr.sep id b ho E
 have up:Up S S w w' ρ ρ':=⟨λ_ h=>h,λb E hlt=>hc.block b hlt (hnS b E),hρ⟩;have back:∀i b,i≠k→own ρ' i (h' i) b→own ρ i (h i) b:=λi b q E=>by
  rcases hi i q with e|⟨e,_,_⟩
  ·rw[e]at E;exact E.elim
  ·rw[e]at E;exact AN hρ (hr.ob i) E
 refine⟨⟨λi=>?_,λi b E=>?_,λi j b J O=>?_,hr.slt.up up λb E=>Nat.lt_of_lt_of_le (hr.slt b E) hc.size⟩,up,hc.mono hX,λi b E=>?_⟩
 ·by_cases q:i=k
  ·subst q;exact hk
  ·rcases hi i q with e|⟨e,hf,E⟩
   ·rw[e];trivial
   ·rw[e];exact(hr.ob i).up up hf (λb hob=>hc.block b (eo (hr.ob i) hob) (E b hob))
 ·by_cases q:i=k
  ·subst q;rcases U b E with h1|h1
   ·intro hS;have :=hr.slt b hS;omega
   ·exact hr.sep src b h1
  ·exact hr.sep i b (back i b q E)
 ·by_cases q:i=k
  ·by_cases G:j=k
   ·rw[q,G]
   ·subst q;have h1:=back j b G O;rcases U b J with h2|h2
    ·have :=eo (hr.ob j) h1;omega
    ·have h3:=hr.dis src j b h2 h1;subst h3;rw[Z G]at O;exact O.elim
  ·by_cases G:j=k
   ·subst G;have h1:=back i b q J;rcases U b O with h2|h2
    ·have :=eo (hr.ob i) h1;omega
    ·have h3:=hr.dis src i b h2 h1;subst h3;rw[Z q]at J;exact J.elim
   ·exact hr.dis i j b (back i b q J) (back j b G O)
 ·by_cases q:i=k
  ·subst q;rcases U b E with h1|h1
   ·exact .inr h1
   ·exact .inl ⟨src,h1⟩
  ·exact .inl ⟨i,back i b q E⟩
theorem eff_new{x:Value}{o:Ob}(hr:HRel S w ρ h)(hf:h nid=.free)(J:Chg [] w w')(O:gn S w' (dc ρ nid x) nid o)(E:∀b,own (dc ρ nid x) nid o b→w.heap.size≤b):Eff S w w' ρ (dc ρ nid x) h (bM h nid o) (λ_=>False):=by
 have U:ρ nid=none:=by have :=hr.ob nid;rw[hf]at this;exact this
 refine vI (X:=λ_=>False) nid nid hr (ChgP.of0 J) (λi y hy=>?_) (λb E=>E.elim) (by rw[bi];exact O) (λb q=>by rw[bi]at q;exact .inl (E b q)) (λh=>absurd rfl h)
  (λi hi=>.inr ⟨bN _ _ hi,λG=>?_,λb _ hx=>hx⟩)
 ·have :i≠nid:=λe=>by subst e;rw[U]at hy;cases hy
  rw[lI _ _ this];exact hy
 ·rw[lI _ _ hi];have :=hr.ob i;rw[G]at this;exact this
theorem xe{id:Nat}{o:Ob}(hr:HRel S w ρ h)(O:Chg X w w')(J:∀b,b∈X→own ρ id (h id) b)(U:gn S w' ρ id o)(E:∀b,own ρ id o b→own ρ id (h id) b):Eff S w w' ρ ρ h (bM h id o) (·=id):=by
 refine vI (X:=(·∈X)) id id hr (ChgP.of O) (λi y hy=>hy) (λb E=>⟨id,rfl,J b E⟩) (by rw[bi];exact U) (λb q=>by rw[bi]at q;exact .inr (E b q)) (λh=>absurd rfl h)
  (λi hi=>.inr ⟨bN _ _ hi,λG=>?_,λb q hx=>hi (hr.dis i id b q (J b hx))⟩)
 have :=hr.ob i;rw[G]at this;exact this
theorem rH{id:Nat}{x:Value}{o:Ob}(hr:HRel S w ρ h)(hf:h nid=.free)(hid:h id≠.free)(Z:Chg X w w')(U:∀b,b∈X→own ρ id (h id) b)(hk:gn S w' (dc ρ nid x) nid o)(G:∀b,own (dc ρ nid x) nid o b→own ρ id (h id) b∨w.heap.size≤b):
  Eff S w w' ρ (dc ρ nid x) h (bM (bM h id .gone) nid o) (·=id):=by
 have hn:ρ nid=none:=by have :=hr.ob nid;rw[hf]at this;exact this
 have J:id≠nid:=λe=>by subst e;exact hid hf
 refine vI (X:=(·∈X)) nid id hr (ChgP.of Z) (λi y hy=>?_) (λb G=>⟨id,rfl,U b G⟩) (by rw[bi];exact hk) (λb q=>by rw[bi]at q;exact(G b q).symm) (λ_=>by rw[bN _ _ J,bi])
  (λi hi=>?_)
 ·have :i≠nid:=λe=>by subst e;rw[hn]at hy;cases hy
  rw[lI _ _ this];exact hy
 ·rw[bN _ _ hi];by_cases E:i=id
  ·subst E;exact .inl (bi _ _ _)
  ·refine .inr ⟨bN _ _ E,λO=>?_,λb q hx=>E (hr.dis i id b q (U b hx))⟩;rw[lI _ _ hi];have :=hr.ob i;rw[O]at this;exact this
theorem sf{x:Value}(hr:HRel S w ρ h)(hf:h nid=.free)(E:Chg [] w w'):Up S S w w' ρ (dc ρ nid x):=by
 have G:ρ nid=none:=by have :=hr.ob nid;rw[hf]at this;exact this
 refine⟨λ_ h=>h,λb J q=>E.block b q (by simp),λi y hy=>?_⟩;have :i≠nid:=λe=>by subst e;rw[G]at hy;cases hy
 rw[lI _ _ this];exact hy
theorem mG{id:Nat}(hr:HRel S w ρ h)(q:h id=.var t cs):∃b xs,ρ id=some (.pointer (some ⟨b,0,none⟩))∧Blk w b t xs∧LRel S w ρ cs xs:=by
 have :=hr.ob id;rw[q]at this;exact this
theorem gw{id:Nat}(hr:HRel S w ρ h)(q:h id=.row e sz els):∃v xs,ρ id=some v∧w.ownsRow 0 e sz v els.length xs∧CRel S w ρ sz els xs:=by
 have :=hr.ob id;rw[q]at this;exact this
theorem sX{id:Nat}(hx:Opd S w ρ a x (.ptr id o))(E:ρ id=some (.pointer (some ⟨b,0,none⟩))):ao (fA a) x=some (.pointer (some ⟨b,o,none⟩)):=by
 obtain⟨y,h1,h2⟩:=hx;simp only[VRel]at h2;obtain⟨G,q,rfl⟩:=h2;rw[E]at q;simp only[Option.some.injEq,Value.pointer.injEq,Addr.mk.injEq,and_true]at q;subst q;exact h1
theorem wY{id:Nat}(hr:HRel S w ρ h)(fr:Fr a n (fA a))(hx:Opd S w ρ a x (.ptr id o))(q:h id=.var tb cs)(ht:cS P t=true)(hv:cs[o]?=some v):
  ∃b y,ρ id=some (.pointer (some ⟨b,0,none⟩))∧w.cell? ⟨b,o,none⟩=some y∧VRel S w ρ v y∧∀w',w'.cell? ⟨b,o,none⟩=some y→Runs P a ty (.load t x) w' (.value y) w':=by
 obtain⟨b,xs,h1,h2,E⟩:=mG hr q;obtain⟨y,G,J⟩:=E.get hv;exact⟨b,y,h1,by rw[h2.cell,G],J,λw' O=>ex_load fr (sX hx h1) ht O⟩
theorem EA{id:Nat}(hr:HRel S w ρ h)(fr:Fr a n (fA a))(hx:Opd S w ρ a x (.ptr id o))(q:h id=.var tb cs)(ht:cS P t=true)(hv:cs[o]?=some v):Does P S w ρ h a ty (.load t x) (some v) h (λ_=>False):=by
 obtain⟨b,y,h1,h2,E,G⟩:=wY (P:=P) (ty:=ty) hr fr hx q ht hv;exact⟨_,w,ρ,G w h2,Eff.refl hr,y,rfl,E⟩
theorem wg{id:Nat}(hr:HRel S w ρ h)(fr:Fr a n (fA a))(hx:Opd S w ρ a x (.ptr id o))(G:h id=.var tb cs)(ht:jt P t=some m)(U:o+m≤cs.length):
  ∃b ys,ρ id=some (.pointer (some ⟨b,0,none⟩))∧(∀j,j<m→w.cell? ⟨b,o+j,none⟩=ys[j]?)∧LRel S w ρ ((cs.drop o).take m) ys∧∀w',(∀j,j<m→w'.cell? ⟨b,o+j,none⟩=ys[j]?)→Runs P a ty (.load t x) w' (.value (.agg ys.toArray)) w':=by
 obtain⟨b,xs,h1,h2,q⟩:=mG hr G;have E:=q.length;refine⟨b,(xs.drop o).take m,h1,λj J=>?_,(q.drop o).take m,λw' O=>ex_loadN fr (sX hx h1) ht (by simp;omega) O⟩;rw[h2.cell,List.getElem?_take,if_pos J,List.getElem?_drop]
theorem Dj{id:Nat}(hr:HRel S w ρ h)(fr:Fr a n (fA a))(hx:Opd S w ρ a x (.ptr id o))(q:h id=.var tb cs)(ht:jt P t=some m)(E:o+m≤cs.length):Does P S w ρ h a ty (.load t x) (some (.agg ((cs.drop o).take m))) h (λ_=>False):=by
 obtain⟨b,ys,h1,h2,G,J⟩:=wg (P:=P) (ty:=ty) hr fr hx q ht E;exact⟨_,w,ρ,J w h2,Eff.refl hr,_,rfl,by simp only[VRel];exact⟨ys,rfl,G⟩⟩
theorem wc{id:Nat}{v:Value}(hx:Opd S w ρ a x (.el id sz i o))(E:ρ id=some v):∃b m c,v=.slice (some ⟨b,0,none⟩) m c∧ao (fA a) x=some (.pointer (some ⟨b,i*sz+o,none⟩)):=by
 obtain⟨y,h1,h2⟩:=hx;simp only[VRel]at h2;obtain⟨G,m,c,q,rfl⟩:=h2;rw[E]at q;cases q;exact⟨G,m,c,rfl,h1⟩
theorem oP{e c:Nat}(E:w.ownsRow base e sz (.slice (some ⟨b,0,none⟩) m c) k xs)(G:j<k*sz):w.cell? ⟨b,j,none⟩=xs[j]?:=by
 rcases E.2 with⟨J,_⟩|⟨g,cap,cur,hv,hb,O,h4,h5,h6,U⟩
 ·cases J
 ·injection hv with q _ Z
  injection q with q
  injection q with q
  subst q;rw[←U];simp[World.cell?,O,List.getElem?_take,G]
theorem uX{id:Nat}(hr:HRel S w ρ h)(fr:Fr a n (fA a))(hx:Opd S w ρ a x (.el id sz i o))(O:h id=.row e sz els)(ht:cS P t=true)(hi:els[i]?=some v0)(hv:v0.cells[o]?=some v):
  ∃b u y,ρ id=some u∧u.ownBlock=some b∧w.cell? ⟨b,i*sz+o,none⟩=some y∧VRel S w ρ v y∧∀w',w'.cell? ⟨b,i*sz+o,none⟩=some y→Runs P a ty (.load t x) w' (.value y) w':=by
 obtain⟨u,xs,h1,h2,U⟩:=gw hr O;obtain⟨b,m,c,rfl,q⟩:=wc hx h1;obtain⟨z,Z,g2,g3⟩:=U.get hi;obtain⟨y,J,h5⟩:=Z.cells.get hv;have E:o<sz:=by
  have :=(List.getElem?_eq_some_iff.1 J).1;simp at this;omega
 have G:i<els.length:=(List.getElem?_eq_some_iff.1 hi).1;have :(i+1)*sz≤els.length*sz:=Nat.mul_le_mul_right _ G;rw[Nat.add_mul,Nat.one_mul]at this;exact⟨b,_,y,h1,rfl,by rw[oP h2 (by omega),g3 o E,J],h5,λw' hc=>ex_load fr q ht hc⟩
theorem wV{id:Nat}(hr:HRel S w ρ h)(fr:Fr a n (fA a))(hx:Opd S w ρ a x (.el id sz i o))(q:h id=.row e sz els)(ht:cS P t=true)(hi:els[i]?=some v0)(hv:v0.cells[o]?=some v):Does P S w ρ h a ty (.load t x) (some v) h (λ_=>False):=by
 obtain⟨b,u,y,h1,_,h2,E,G⟩:=uX (P:=P) (ty:=ty) hr fr hx q ht hi hv;exact⟨_,w,ρ,G w h2,Eff.refl hr,y,rfl,E⟩
theorem tS{id:Nat}(hr:HRel S w ρ h)(fr:Fr a n (fA a))(hx:Opd S w ρ a x (.el id sz i o))(O:h id=.row e sz els)(ht:jt P t=some m)(hi:els[i]?=some v0)(hl:o+m≤v0.cells.length):
  ∃b u ys,ρ id=some u∧u.ownBlock=some b∧(∀j,j<m→w.cell? ⟨b,i*sz+o+j,none⟩=ys[j]?)∧LRel S w ρ ((v0.cells.drop o).take m) ys∧∀w',(∀j,j<m→w'.cell? ⟨b,i*sz+o+j,none⟩=ys[j]?)→Runs P a ty (.load t x) w' (.value (.agg ys.toArray)) w':=by
 obtain⟨u,xs,h1,h2,U⟩:=gw hr O;obtain⟨b,k,c,rfl,E⟩:=wc hx h1;obtain⟨z,J,g2,Z⟩:=U.get hi;have q:=J.cells.length;simp only[Array.length_toList]at q;have G:i<els.length:=(List.getElem?_eq_some_iff.1 hi).1;have :(i+1)*sz≤els.length*sz:=Nat.mul_le_mul_right _ G;rw[Nat.add_mul,Nat.one_mul]at this;refine⟨b,_,(z.cells.toList.drop o).take m,h1,rfl,λj hj=>?_,(J.cells.drop o).take m,λw' hc=>ex_loadN fr E ht (by simp;omega) hc⟩;rw[oP h2 (by omega),Nat.add_assoc,Z _ (by omega),List.getElem?_take,if_pos hj,List.getElem?_drop]
theorem uJ{id:Nat}(hr:HRel S w ρ h)(fr:Fr a n (fA a))(hx:Opd S w ρ a x (.el id sz i o))(q:h id=.row e sz els)(ht:jt P t=some m)(hi:els[i]?=some v0)(E:o+m≤v0.cells.length):Does P S w ρ h a ty (.load t x) (some (.agg ((v0.cells.drop o).take m))) h (λ_=>False):=by
 obtain⟨b,u,ys,h1,_,h2,G,J⟩:=tS (P:=P) (ty:=ty) hr fr hx q ht hi E;exact⟨_,w,ρ,J w h2,Eff.refl hr,_,rfl,by simp only[VRel];exact⟨ys,rfl,G⟩⟩
theorem DY{z:List Value}{zv:List V}(hr:HRel S w ρ h)(hf:h nid=.free)(G:jb P t=some z)(q:∀S w ρ,LRel S w ρ zv z):Does P S w ρ h a ty (.alloc t) (some (.ptr nid 0)) (bM h nid (.var t zv)) (λ_=>False):=by
 obtain⟨w',b,h1,h2,J,O,U⟩:=vE (P:=P) z G a w ty;refine⟨_,w',dc ρ nid (.pointer (some ⟨b,0,none⟩)),h1,eff_new hr hf J ⟨b,z,aJ _ _ _,h2,q _ _ _⟩ (λZ E=>?_),_,rfl,?_⟩
 ·simp only[own,aJ,Option.some.injEq,Value.pointer.injEq,Addr.mk.injEq,and_true]at E;omega
 ·simp only[VRel];exact⟨b,aJ _ _ _,rfl⟩
theorem Ga(hr:HRel S w ρ h)(fr:Fr a n (fA a))(hf:h nid=.free)(hx:Opd S w ρ a x v):Does P S w ρ h a ty (.box t x) (some (.ptr nid 0)) (bM h nid (.var t v.cells)) (λ_=>False):=by
 obtain⟨y,G,J⟩:=hx;obtain⟨w',b,h1,h2,E,O,U⟩:=nS (P:=P) (t:=t) (cs:=y.cells.toList) fr G (by simp) w ty;refine⟨_,w',dc ρ nid (.pointer (some ⟨b,0,none⟩)),h1,eff_new hr hf E ⟨b,_,aJ _ _ _,h2,J.cells.up (sf hr hf E)⟩ (λZ q=>?_),_,rfl,?_⟩
 ·simp only[own,aJ,Option.some.injEq,Value.pointer.injEq,Addr.mk.injEq,and_true]at q;omega
 ·simp only[VRel];exact⟨b,aJ _ _ _,rfl⟩
theorem uc{v:Value}{cs:List Value}(h:Fr a n f)(hx:ao f x=some (.pointer (some ⟨b,o,none⟩)))(hy:ao f y=some v)(hz:bS P t=some m)(hv:v.cells.size=m)(hone:v.cells.toList.all (·.oneCell')=true)(hb:Blk w b tb cs)(hm:o+m≤cs.length)(ty:TypeId):
  ∃w',Runs P a ty (.store t x y) w .skip w'∧Blk w' b tb (cs.take o++v.cells.toList++cs.drop (o+m))∧Chg [b] w w':=by
 obtain⟨i,hi,hs⟩:=Option.map_eq_some_iff.1 (show(P.info? t).map (·.size)=some m from hz);have key:∀(l:List Value) (j:Nat) (w:World) (cs:List Value),Blk w b tb cs→o+j+l.length≤cs.length→l.all (·.oneCell')=true→∃w',(storeCells ⟨b,o,none⟩ l j).run P w=.ok () w'∧Blk w' b tb (cs.take (o+j)++l++cs.drop (o+j+l.length))∧Chg [b] w w':=by
  intro l
  induction l with
  |nil=>intro j w cs hb hj _;exact⟨w,by simp[storeCells],by simpa using hb,Chg.refl _ _⟩
  | cons c r ih=>
   intro j w cs hb hj hone;simp only[List.all_cons,Bool.and_eq_true]at hone;simp only[List.length_cons]at hj;have ho:o+j<cs.length:=by omega
   have hc:w.cell? ⟨b,o+j,none⟩=some cs[o+j]:=by rw[hb.cell];simp[ho]
   have hfz:=hb.frozen (o+j);have ha:(⟨b,o,none⟩:Addr).add j=⟨b,o+j,none⟩:=iP b o j;obtain⟨w2,h1,h2,h3⟩:=ih (j+1) (w.setCell ⟨b,o+j,none⟩ c) (cs.set (o+j) c) (hb.set (o+j) c) (by simp;omega) hone.2;refine⟨w2,?_,?_,(Chg.set w b (o+j) c).trans h3 (λx hx=>.inl hx)⟩
   ·simp only[storeCells,ha];have hst:=run_store P w ⟨b,o+j,none⟩ c .plain hone.1;simp[hst,stored,hc,hfz];exact h1
   ·have e1:(cs.set (o+j) c).take (o+(j+1))=cs.take (o+j)++[c]:=by
     rw[←Nat.add_assoc,List.take_succ_eq_append_getElem (by simpa using ho),List.take_set_of_le (Nat.le_refl _)];simp
    have e2:(cs.set (o+j) c).drop (o+(j+1)+r.length)=cs.drop (o+j+(r.length+1)):=by
     rw[List.drop_set_of_lt (by omega)];congr 1;omega
    rw[e1,e2]at h2;simpa using h2
 obtain⟨w1,h1,h2,h3⟩:=key v.cells.toList 0 w cs hb (by simp;omega) hone;refine⟨w1,λ_ _ _ _=>?_,by simpa[hv]using h2,h3⟩;simp only[execOp,h.eval hx,h.eval hy];simp[Instr.storeAt,Instr.sureAddr,storeVar,sizeOf,typeInfo,hi,hs,hv,h1]
theorem ol:∀{vs:List V} {xs:List Value},LRel S w ρ vs xs→vs.all V.one=true→xs.all (·.oneCell')=true
 |[],xs,q,h1=>by simp only[LRel]at q;subst q;rfl
 |v::r,xs,q,h1=>by
  simp only[LRel]at q;obtain⟨x,ys,rfl,h2,E⟩:=q;simp only[List.all_cons,Bool.and_eq_true]at h1⊢;exact⟨h2.one h1.1,ol E h1.2⟩
theorem AK{id:Nat}(hr:HRel S w ρ h)(E:Chg X w w')(G:∀b,b∈X→own ρ id (h id) b):Up S S w w' ρ ρ:=
 ⟨λ_ h=>h,λb J q=>E.block b q (λhx=>hr.sep id b (G b hx) J),λ_ _ h=>h⟩
theorem Dz{id:Nat}(hr:HRel S w ρ h)(fr:Fr a n (fA a))(hx:Opd S w ρ a x (.ptr id o))(hy:Opd S w ρ a y v)(G:h id=.var tb cs)(hz:bS P t=some m)(hv:v.cells.length=m)(h1:v.cells.all V.one=true)(hm:o+m≤cs.length):
  Does P S w ρ h a ty (.store t x y) none (bM h id (.var tb (ny cs o v.cells))) (·=id):=by
 obtain⟨b,xs,J,g2,O⟩:=mG hr G;obtain⟨z,k1,U⟩:=hy;have q:=U.cells.length;simp only[Array.length_toList]at q;obtain⟨w',r1,r2,Z⟩:=uc (P:=P) (t:=t) (m:=m) fr (sX hx J) k1 hz (by omega) (ol U.cells h1) g2 (by have :=O.length;omega) ty;have hX:∀c,c∈[b]→own ρ id (h id) c:=λc E=>by simp at E;subst E;rw[G];exact J
 have u:=AK hr Z hX;refine⟨_,w',ρ,r1,xe hr Z hX ⟨b,_,J,r2,?_⟩ (λc E=>by rw[G];exact E),rfl⟩;unfold ny;rw[hv];exact(((O.take o).append U.cells).append (O.drop _)).up u
theorem CRel.set{sz:Nat}:∀{vs:List V} {xs:List Value} {i:Nat} {v:V} {x:Value},CRel S w ρ sz vs xs→i<vs.length→VRel S w ρ v x→x.cells.size=sz→x.cells.toList.all (·.oneCell')=true→CRel S w ρ sz (vs.set i v) (xs.take (i*sz)++x.cells.toList++xs.drop (i*sz+sz))
 |[],xs,i,v,x,hc,hi,hx,hs,h1=>by simp at hi
 |u::r,xs,0,v,x,hc,hi,hx,hs,h1=>by
  simp only[CRel]at hc;obtain⟨y,ys,rfl,⟨h2,h2'⟩,h3,h4⟩:=hc;refine⟨x,ys,?_,⟨hs,h1⟩,hx,h4⟩;simp[h2,List.drop_append]
 | u::r,xs,i+1,v,x,hc,hi,hx,hs,h1=>by
  simp only[CRel]at hc;obtain⟨y,ys,rfl,⟨h2,h2'⟩,h3,h4⟩:=hc;have ih:=CRel.set (i:=i) h4 (by simpa using hi) hx hs h1;refine⟨y,_,?_,⟨h2,h2'⟩,h3,ih⟩;have e1:(y.cells.toList++ys).take ((i+1)*sz)=y.cells.toList++ys.take (i*sz):=by
   rw[List.take_append,List.take_of_length_le (by simp[h2,Nat.add_mul])]
   congr 2
   simp[h2,Nat.add_mul]
  have e2:(y.cells.toList++ys).drop ((i+1)*sz+sz)=ys.drop (i*sz+sz):=by
   rw[List.drop_append,List.drop_of_length_le (by simp[h2,Nat.add_mul])];simp[h2,Nat.add_mul]
  rw[e1,e2];simp
def V.over(v0:V)(o:Nat)(ps:List V):V:=match v0 with
 |.agg cs=>.agg (ny cs o ps)
 |v0=>match ps with
  |[p]=>p
  |_=>v0
theorem rI{id:Nat}(hr:HRel S w ρ h)(fr:Fr a n (fA a))(hx:Opd S w ρ a x (.el id sz i o))(hy:Opd S w ρ a y v)(ho:h id=.row e sz els)(hz:bS P t=some m)(hi:els[i]?=some v0)(hv:v.cells.length=m)(h1:v.cells.all V.one=true)(hm:o+m≤v0.cells.length)
  (hv0:(∃cs,v0=.agg cs)∨(v0.cells=[v0]∧v.cells=[v])):Does P S w ρ h a ty (.store t x y) none (bM h id (.row e sz (els.set i (v0.over o v.cells)))) (·=id):=by
 obtain⟨u,xs,g1,g2,g3⟩:=gw hr ho;obtain⟨b,k,c,rfl,hx'⟩:=wc hx g1;obtain⟨z,k1,k2⟩:=hy;have hlen:=k2.cells.length;simp only[Array.length_toList]at hlen;obtain⟨z0,q1,q2,q3⟩:=g3.get hi;have hle:i<els.length:=(List.getElem?_eq_some_iff.1 hi).1;have hmul:(i+1)*sz≤els.length*sz:=Nat.mul_le_mul_right _ hle;rw[Nat.add_mul,Nat.one_mul]at hmul;have hl0:=q1.cells.length;simp only[Array.length_toList]at hl0;have hxl:=g3.length;rcases g2.2 with⟨hc,_⟩|⟨g,cap,cur,hv1,hb,hg,h4,h5,h6,h7⟩
 ·cases hc
 ·injection hv1 with hv2 hv3 hv4
  injection hv2 with hv2
  injection hv2 with hv2
  subst hv2 hv3 hv4;have hcap:els.length*sz≤c*sz:=Nat.mul_le_mul_right _ h4;have hB:Blk w b e cur.toList:=by unfold Blk;rw[hg]
  obtain⟨w',r1,r2,r3⟩:=uc (P:=P) (t:=t) (m:=m) fr hx' k1 hz (by omega) (ol k2.cells h1) hB (by simp;omega) ty;have hX:∀d,d∈[b]→own ρ id (h id) d:=λd hd=>by simp at hd;subst hd;rw[ho];exact⟨_,g1,rfl⟩
  have up:=AK hr r3 hX;have hnew:∃q,VRel S w ρ (v0.over o v.cells) q∧q.cells.toList=z0.cells.toList.take o++z.cells.toList++z0.cells.toList.drop (o+m):=by
   rcases hv0 with⟨cs,rfl⟩|⟨e1,e2⟩
   ·refine⟨.agg (z0.cells.toList.take o++z.cells.toList++z0.cells.toList.drop (o+m)).toArray,?_,by simp[Value.cells]⟩;simp only[V.over,VRel];refine⟨_,rfl,?_⟩;unfold ny;rw[hv];exact((q1.cells.take o).append k2.cells).append (q1.cells.drop _)
   ·have :v0.over o v.cells=v:=by
     rw[e2];cases v0 with
     |agg cs=>
      simp only[V.cells]at e1;have hs:=congrArg SizeOf.sizeOf e1;simp at hs;omega
     |_=>rfl
    rw[this];refine⟨z,k2,?_⟩;rw[e1]at hm hl0;rw[e2]at hv;simp at hm hl0 hv;subst hv;obtain rfl:o=0:=by omega
    rw[List.drop_of_length_le (l:=z0.cells.toList) (by simp[hl0])];simp
  obtain⟨q,hn1,hn2⟩:=hnew;have hsz':q.cells.size=sz:=by
   have :=congrArg List.length hn2;simp only[Array.length_toList,List.length_append,List.length_take,List.length_drop]at this;rw[this];omega
  have hones:(z0.cells.toList.take o++z.cells.toList++z0.cells.toList.drop (o+m)).all (·.oneCell')=true:=by
   have hall:z0.cells.toList.all (·.oneCell')=true:=by
    have h0:∀j,j<sz→∃u,z0.cells.toList[j]?=some u∧u.oneCell'=true:=λj hj=>by
     have hq:=q3 j hj;have :i*sz+j<xs.length:=by omega
     refine⟨xs[i*sz+j],?_,g3.ones _ (List.getElem_mem _)⟩;rw[←hq];simp[this]
    rw[List.all_eq_true];intro u hu;obtain⟨j,hj,rfl⟩:=List.getElem_of_mem hu;obtain⟨u',e1,e2⟩:=h0 j (by simp at hj;omega);rw[List.getElem?_eq_getElem hj]at e1;cases e1;exact e2
   have hall2:=ol k2.cells h1;rw[List.all_eq_true]at hall hall2⊢;intro u hu;simp only[List.mem_append]at hu;rcases hu with(hu|hu)|hu
   ·exact hall u (List.mem_of_mem_take hu)
   ·exact hall2 u hu
   ·exact hall u (List.mem_of_mem_drop hu)
  have hset:=CRel.set (i:=i) g3 hle hn1 hsz' (by rw[hn2];exact hones);rw[hn2]at hset;have hcur:cur.toList.take (els.length*sz)=xs:=h7;have e9:xs.take (i*sz)++(z0.cells.toList.take o++z.cells.toList++z0.cells.toList.drop (o+m))++xs.drop (i*sz+sz)=xs.take (i*sz+o)++z.cells.toList++xs.drop (i*sz+o+m):=by
   apply List.ext_getElem?;intro j;have hz0:∀j,j<sz→z0.cells.toList[j]?=xs[i*sz+j]?:=λj hj=>(q3 j hj).symm;have L1:(xs.take (i*sz)).length=i*sz:=by simp;omega
   have L2:(z0.cells.toList.take o).length=o:=by simp;omega
   have L3:z.cells.toList.length=m:=by simp;omega
   have L4:(z0.cells.toList.drop (o+m)).length=sz-(o+m):=by simp;omega
   have L5:(xs.take (i*sz+o)).length=i*sz+o:=by simp;omega
   simp only[List.getElem?_append,L1,L2,L3,L4,L5,List.length_append,List.getElem?_take,List.getElem?_drop];by_cases c1:j<i*sz
   ·simp[c1,show j<i*sz+(o+m+(sz-(o+m))) by omega,show j<i*sz+o+m by omega,show j<i*sz+o by omega]
   ·by_cases c2:j<i*sz+o
    ·simp[c1,c2,show j<i*sz+(o+m+(sz-(o+m))) by omega,show j<i*sz+o+m by omega,show j-i*sz<o+m by omega,show j-i*sz<o by omega];have :=hz0 (j-i*sz) (by omega);simp at this;rw[this];congr 1;omega
    ·by_cases c3:j<i*sz+o+m
     ·simp[c1,c2,c3,show j<i*sz+(o+m+(sz-(o+m))) by omega,show j-i*sz<o+m by omega,show¬j-i*sz<o by omega]
      congr 1;omega
     ·by_cases c4:j<i*sz+sz
      ·simp[c1,c2,c3,show j<i*sz+(o+m+(sz-(o+m))) by omega,show¬j-i*sz<o+m by omega];rw[show o+m+(j-i*sz-(o+m))=j-i*sz by omega];have :=hz0 (j-i*sz) (by omega);simp at this;rw[this];congr 1;omega
      ·simp[c1,c2,c3,show¬j<i*sz+(o+m+(sz-(o+m))) by omega]
       congr 1;omega
  rw[e9]at hset;refine⟨_,w',ρ,r1,xe hr r3 hX ⟨_,_,g1,⟨?_,.inr ⟨b,c,(cur.toList.take (i*sz+o)++z.cells.toList++cur.toList.drop (i*sz+o+m)).toArray,?_,hb,r2,by simpa using h4,h5,?_,rfl⟩⟩,?_⟩ (λd hd=>by rw[ho];exact hd),rfl⟩
  ·simp;omega
  ·simp
  ·simp;omega
  ·have e10:List.take ((els.set i (v0.over o v.cells)).length*sz) (cur.toList.take (i*sz+o)++z.cells.toList++cur.toList.drop (i*sz+o+m)).toArray.toList=xs.take (i*sz+o)++z.cells.toList++xs.drop (i*sz+o+m):=by
    simp only[List.length_set];rw[←hcur];apply List.ext_getElem?;intro j;have K1:(cur.toList.take (i*sz+o)).length=i*sz+o:=by simp;omega
    have K2:(List.take (i*sz+o) (List.take (els.length*sz) cur.toList)).length=i*sz+o:=by simp;omega
    simp only[List.getElem?_take,List.getElem?_append,K1,K2,List.length_append,Array.length_toList,List.getElem?_drop];by_cases c0:j<els.length*sz
    ·by_cases c1:j<i*sz+o
     ·simp[c0,c1,show j<i*sz+o+z.cells.size by omega]
     ·by_cases c2:j<i*sz+o+z.cells.size
      ·simp[c0,c1,c2]
      ·simp[c0,c1,c2,show i*sz+o+m+(j-(i*sz+o+z.cells.size))<els.length*sz by omega]
    ·simp[c0,show¬j<i*sz+o+z.cells.size by omega,show¬i*sz+o+m+(j-(i*sz+o+z.cells.size))<els.length*sz by omega]
   rw[e10];exact hset.up up
end
section
variable{P:Program}{S:Nat→Prop}{w w':World}{ρ ρ':Nat→Option Value}{h h':Nat→Ob}{a:Act}{n:Nat}{ty:TypeId}
def iS(sz:Nat):Nat→List (Nat×V)→Option (List V)
 |_,[]=>some []
 |i,(j,v)::r=>match Nat.beq i j&&Nat.beq v.cells.length sz&&v.cells.all V.one with
  |true=>match iS sz (i+1) r with
   |some vs=>some (v::vs)
   |none=>none
  |false=>none
theorem nH{sz:Nat}:∀{vs:List (Nat×V)} {ys:List (Nat×Value)} {i:Nat} {els:List V},gM S w ρ vs ys→iS sz i vs=some els→
  ys.map (·.1)=(List.range' i els.length)∧(ys.all λp=>p.2.cells.size==sz)=true∧CRel S w ρ sz els (ys.flatMap λp=>p.2.cells.toList)
 |[],ys,i,els,hp,hr=>by
  simp only[gM]at hp;subst hp;simp only[iS,Option.some.injEq]at hr;subst hr;simp[CRel]
 | (j,v)::r,ys,i,els,hp,hr=>by
  simp only[gM]at hp;obtain⟨x,zs,rfl,hx,hq⟩:=hp;simp only[iS]at hr;split at hr
  ·rename_i hc;simp only[Bool.and_eq_true,Nat.beq_eq]at hc;split at hr
   ·rename_i vs hvs;simp only[Option.some.injEq]at hr;subst hr;obtain⟨h1,h2,h3⟩:=nH hq hvs;have hl:=hx.cells.length;simp only[Array.length_toList]at hl;refine⟨?_,?_,?_⟩
    ·simp[h1,hc.1.1,List.range'_succ]
    ·simp only[List.all_cons,h2,Bool.and_true,beq_iff_eq];rw[hl,hc.1.2]
    ·simp only[List.flatMap_cons];exact⟨x,_,rfl,⟨by rw[hl,hc.1.2],ol hx.cells hc.2⟩,hx,h3⟩
   ·cases hr
  ·cases hr
theorem Cg{vs:List (Nat×V)}{ys:List (Nat×Value)}{m:Nat}{z:List Value}{els:List V}(hr:HRel S w ρ h)(fr:Fr a n (fA a))(hf:h nid=.free)(q:dx (fA a) ps=some ys)(J:gM S w ρ vs ys)(ht:P.underlying t=some (.slice e))(hz:bS P e=some sz)(hzero:jb P e=some z)
  (hp:iS sz 0 vs=some els) (O:els.length=m) (U:Nat.ble (m*sz) 16777216=true) (hm:Nat.ble m 16777216=true):Does P S w ρ h a ty (.buildSlice t m ps.toArray) (some (.sl nid)) (bM h nid (.row e sz els)) (λ_=>False):=by
 obtain⟨h1,h2,h3⟩:=nH J hp;have E:ps.map (·.1)=List.range m:=by
  have :ps.map (·.1)=ys.map (·.1):=by rw[←fr.parts q];simp
  rw[this,h1,O,List.range_eq_range']
 obtain⟨w',b,g1,g2,g3,g4,g5⟩:=tQ (P:=P) (t:=t) (m:=m) fr q ht hz hzero E h2 U rfl w ty;have G:=h3.length;have hmm:m≤16777216:=Nat.le_of_ble_eq_true hm;have own:=sk (base:=0) g2 (Nat.zero_le _) (m:=m) (size:=sz) (by rw[G,O]) (by simp only[Nat.ble_eq,maxLen];omega);refine⟨_,w',dc ρ nid (.slice (some ⟨b,0,none⟩) m m),g1,eff_new hr hf g3 ⟨_,_,aJ _ _ _,by rw[O];exact own,h3.up (sf hr hf g3)⟩ (λb' Z=>?_),_,rfl,?_⟩
 ·obtain⟨v,e1,e2⟩:=Z;rw[aJ]at e1;cases e1;simp[Value.ownBlock]at e2;omega
 ·simp only[VRel];exact⟨aJ _ _ _,rfl⟩
theorem ug{z:List Value}(hz:0<z.length):∀m,(madeCells z.toArray (m*z.length)).toList=(List.replicate m z).flatten:=by
 intro m;apply List.ext_getElem?;intro j;have hl:((List.replicate m z).flatten).length=m*z.length:=by simp
 by_cases hj:j<m*z.length
 ·have hlt:j%z.length<z.length:=Nat.mod_lt _ hz;have h1:(madeCells z.toArray (m*z.length)).toList[j]?=some z[j%z.length]:=by
   simp[madeCells,hj,hlt]
  rw[h1];have key:∀(m j:Nat),j<m*z.length→((List.replicate m z).flatten)[j]?=some (z[j%z.length]'(Nat.mod_lt _ hz)):=by
   intro m
   induction m with
   |zero=>intro j hj;simp at hj
   | succ m ih=>
    intro j hj;simp only[List.replicate_succ,List.flatten_cons];by_cases hc:j<z.length
    ·rw[List.getElem?_append_left hc];simp[Nat.mod_eq_of_lt hc,hc]
    ·rw[List.getElem?_append_right (by omega),ih (j-z.length) (by rw[Nat.add_mul]at hj;omega)]
     congr 1
     have :(j-z.length)%z.length=j%z.length:=by
      conv=>rhs;rw[show j=(j-z.length)+z.length by omega]
      simp
     simp[this]
  exact(key m j hj).symm
 ·rw[List.getElem?_eq_none (by simp[madeCells];omega),List.getElem?_eq_none (by rw[hl];omega)]
theorem vt{sz:Nat}{zv:V}{z:Value}(q:z.cells.size=sz)(h1:z.cells.toList.all (·.oneCell')=true)(hv:VRel S w ρ zv z):∀m,CRel S w ρ sz (List.replicate m zv) ((List.replicate m z.cells.toList).flatten)
 |0=>by simp[CRel]
 |m+1=>by
  simp only[List.replicate_succ,List.flatten_cons];exact⟨z,_,rfl,⟨q,h1⟩,hv,vt q h1 hv m⟩
theorem Ap{sz by_:Nat}{z:Value}{zv:V}(hr:HRel S w ρ h)(fr:Fr a n (fA a))(hf:h nid=.free)(hx:Opd S w ρ a x (.int .i64 (m:Int)))(hy:Opd S w ρ a y (.int .i64 (m:Int)))(ht:P.underlying t=some (.slice e))
  (hi:(P.info? e).map (λi=>(i.zero,i.size,i.bytes))=some (some z,sz,by_)) (hzs:z.cells.size=sz) (hsz:0<sz) (h1:z.cells.toList.all (·.oneCell')=true) (G:∀S w ρ,VRel S w ρ zv z) (hb:by_*m≤281474976710656) (Z:m≤maxLen):
  Does P S w ρ h a ty (.makeSlice t x y) (some (.sl nid)) (bM h nid (.row e sz (List.replicate m zv))) (λ_=>False):=by
 have J:m≤9223372036854775807:=by simp only[maxLen]at Z;omega
 have O:madeCells z.cells (m*sz)=(List.replicate m z.cells.toList).flatten.toArray:=by
  rw[←ug (by simp;omega)];simp[hzs]
 obtain⟨w',b,g1,g2,g3,g4,g5⟩:=xb (P:=P) fr (aT hx) (aT hy) ht hi (by simpa using hb) (by simpa using J) O w ty;have E:=vt (S:=S) (w:=w) (ρ:=ρ) hzs h1 (G _ _ _) m;have q:=E.length;simp only[List.length_replicate]at q;have own:=sk (base:=0) g2 (Nat.zero_le _) (m:=m) (size:=sz) q (by simpa using Z);refine⟨_,w',dc ρ nid (.slice (some ⟨b,0,none⟩) m m),g1,eff_new hr hf g3 ⟨_,_,aJ _ _ _,by simpa using own,E.up (sf hr hf g3)⟩ (λb' U=>?_),_,rfl,?_⟩
 ·obtain⟨v,e1,e2⟩:=U;rw[aJ]at e1;cases e1;simp[Value.ownBlock]at e2;omega
 ·simp only[VRel];exact⟨aJ _ _ _,rfl⟩
theorem nv{c d:Nat}{B:Option Addr}(ht:P.underlying t=some (.slice e))(E:bS P e=some sz)(G:k≤c):(Builtin.append_ #[t,t] ty #[.slice A k c,.slice B 0 d]).run P w=.ok (.slice A k c) w:=by
 obtain⟨inf,hi,J⟩:=Option.map_eq_some_iff.1 (show(P.info? e).map (·.size)=some sz from E);have q:(sizeOf e).run P w=.ok sz w:=by simp[sizeOf,typeInfo,hi,J]
 cases A<;>cases B<;>simp[Builtin.append_,run_underlying ht,q,Builtin.lenOf,Builtin.firstCells,G,loadCells,loadCellsFrom,storeCells]
def nQ(S:Nat→Prop)(w:World)(ρ:Nat→Option Value)(sz:Nat)(els:List V)(y:Value):Prop:=
 ∃A c xs,y=.slice A els.length c∧CRel S w ρ sz els xs∧(0<els.length→∃b off,A=some ⟨b,off,none⟩∧∀j,j<els.length*sz→w.cell? ⟨b,off+j,none⟩=xs[j]?)
theorem Dl{y:Value}(hy:VRel S w ρ (.row sz els) y):nQ S w ρ sz els y:=by
 simp only[VRel]at hy;obtain⟨A,c,xs,rfl,O,U,q,E⟩:=hy;exact⟨A,c,xs,rfl,q.up up0,λG=>by obtain⟨b,off,e,_,_,J⟩:=E.2 G;exact⟨b,off,e,J⟩⟩
theorem Bz{y:Value}(hy:VRel S w ρ .nils y):nQ S w ρ sz [] y:=by
 simp only[VRel]at hy;subst hy;exact⟨none,0,[],rfl,by simp[CRel],λq=>by simp at q⟩
theorem DP{id:Nat}{y:Value}(hr:HRel S w ρ h)(E:h id=.row e sz els)(hy:VRel S w ρ (.sl id) y):nQ S w ρ sz els y:=by
 simp only[VRel]at hy;obtain⟨v,xs,h1,h2,G⟩:=gw hr E;rw[hy.1]at h1;cases h1;obtain⟨A,c,rfl,_⟩:=ee h2;refine⟨A,c,xs,rfl,G,λJ=>?_⟩;obtain⟨g,cap,hv,_⟩:=h2.form J;injection hv with q _ O
 subst q;exact⟨g,0,rfl,λj U=>by rw[Nat.zero_add];exact oP h2 U⟩
theorem rY{by_:Nat}{z u v:Value}{news:List V}(fr:Fr a n (fA a))(hx:ao (fA a) x=some u)(hy:ao (fA a) y=some v)(hu:w.ownsRow 0 e sz u els.length xs)(U:CRel S w ρ sz els xs)(hv:nQ S w ρ sz news v)(ht:P.underlying t=some (.slice e))
  (hi:(P.info? e).map (λi=>(i.zero,i.size,i.bytes))=some (some z,sz,by_)) (hzs:z.cells.size=sz) (hsz:0<sz) (h63:els.length+news.length≤maxLen) (hby:(els.length+news.length)*by_≤140737488355328):
  ∃O w' ys,Runs P a ty (.call {callee:=.builtin .append,args:=#[x,y],argTypes:=#[t,t]}) w (.value O) w'∧w'.ownsRow 0 e sz O (els.length+news.length) ys∧CRel S w ρ sz (els++news) ys∧Chg u.ownBlock.toList w w'∧(O.ownBlock=u.ownBlock∨O.ownBlock=some w.heap.size):=by
 obtain⟨A,c,ns,rfl,E,hcell⟩:=hv;have hsize:bS P e=some sz:=by
  obtain⟨i0,J,G⟩:=Option.map_eq_some_iff.1 hi;simp only[Prod.mk.injEq]at G;simp[bS,J,G.2.1]
 by_cases hn:news=[]
 ·subst hn;simp only[CRel]at E;subst E;obtain⟨B,d,rfl,hd,_⟩:=ee hu;refine⟨.slice B els.length d,w,xs,λ_ _ _ _=>?_,by simpa using hu,by simpa using U,Chg.refl _ _,.inl rfl⟩;simp only[execOp,resolve,invoke,builtin,List.map_toArray,List.map_cons,List.map_nil,fr.eval hx,fr.eval hy];have :=nv (P:=P) (w:=w) (ty:=ty) (A:=B) (B:=A) (d:=c) ht hsize hd;simp only[List.length_nil];simp[this]
 ·have Z:0<news.length:=List.length_pos_iff.2 hn;obtain⟨b,off,rfl,hc⟩:=hcell Z;obtain⟨i0,J,G⟩:=Option.map_eq_some_iff.1 hi;simp only[Prod.mk.injEq]at G;obtain⟨hz,hs,hbb⟩:=G;obtain⟨O,w',hrun,h2,h3,_,h5⟩:=run_append_own_at (P:=P) w 0 t ty e i0 z sz by_ ht J hz hs hbb hzs hsz u els.length xs hu ⟨b,off,none⟩ news.length c ns E.length
   (λj q hq=>by
    have hj:j<ns.length:=(List.getElem?_eq_some_iff.1 hq).1;rw[iP,hc j (by rw[←E.length];exact hj)];exact hq) E.ones h63 hby (Nat.zero_le _)
  refine⟨O,w',xs++ns,λ_ _ _ _=>?_,h2,U.append E,Chg.grown h3,h5⟩;simp only[execOp,resolve,invoke,builtin,List.map_toArray,List.map_cons,List.map_nil,fr.eval hx,fr.eval hy];simp[hrun]
theorem sU{e:Nat}{v:Value}(hv:w.ownsRow base e sz v k xs):v.oneCell'=true:=by
 obtain⟨A,c,rfl,_⟩:=ee hv;rfl
section
variable{t e:TypeId}{x y:Operand}{sz by_ nid:Nat}{z v:Value}{els news:List V}(hr:HRel S w ρ h)(fr:Fr a n (fA a))(hf:h nid=.free)(hy:ao (fA a) y=some v)(hv:nQ S w ρ sz news v)(ht:P.underlying t=some (.slice e))
    (hi:(P.info? e).map (λi=>(i.zero,i.size,i.bytes))=some (some z,sz,by_)) (hzs:z.cells.size=sz) (hsz:0<sz)
include hr fr hf hy hv ht hi hzs hsz
theorem vp{id:Nat}(hx:Opd S w ρ a x (.sl id))(J:h id=.row e sz els)(U:els.length+news.length≤maxLen)(Z:(els.length+news.length)*by_≤140737488355328):
  Does P S w ρ h a ty (.call {callee:=.builtin .append,args:=#[x,y],argTypes:=#[t,t]}) (some (.sl nid)) (bM (bM h id .gone) nid (.row e sz (els++news))) (·=id):=by
 obtain⟨u,k1,O⟩:=hx;simp only[VRel]at O;obtain⟨u',xs,h1,h2,h3⟩:=gw hr J;rw[O.1]at h1;cases h1;obtain⟨v',w',ys,g1,g2,g3,g4,G⟩:=rY (P:=P) (ty:=ty) fr k1 hy h2 h3 hv ht hi hzs hsz U Z;have hX:∀b,b∈u.ownBlock.toList→own ρ id (h id) b:=λb E=>by simp at E;rw[J];exact⟨u,O.1,E⟩
 have hn:ρ nid=none:=by have :=hr.ob nid;rw[hf]at this;exact this
 have up:Up S S w w' ρ (dc ρ nid v'):=by
  refine⟨λ_ h=>h,λb E hlt=>g4.block b hlt (λhc=>hr.sep id b (hX b hc) E),λi q hq=>?_⟩;have :i≠nid:=λe=>by subst e;rw[hn]at hq;cases hq
  rw[lI _ _ this];exact hq
 refine⟨_,w',dc ρ nid v',g1,rH hr hf (by rw[J];simp) g4 hX ⟨v',ys,aJ _ _ _,by simpa using g2,g3.up up⟩ (λb E=>?_),_,rfl,?_⟩
 ·obtain⟨q,e1,e2⟩:=E;rw[aJ]at e1;cases e1;rcases G with G|G
  ·exact .inl (by rw[J];exact⟨u,O.1,by rw[←G];exact e2⟩)
  ·rw[G]at e2;simp at e2;exact .inr (by omega)
 ·simp only[VRel];exact⟨aJ _ _ _,sU g2⟩
theorem Ac(hx:Opd S w ρ a x .nils)(J:news.length≤maxLen)(O:news.length*by_≤140737488355328):
  Does P S w ρ h a ty (.call {callee:=.builtin .append,args:=#[x,y],argTypes:=#[t,t]}) (some (.sl nid)) (bM h nid (.row e sz news)) (λ_=>False):=by
 obtain⟨u,k1,k2⟩:=hx;simp only[VRel]at k2;subst k2;obtain⟨U,w',ys,g1,Z,g3,g4,E⟩:=rY (P:=P) (ty:=ty) (els:=[]) (xs:=[]) fr k1 hy (World.ownsRow_nil w 0 e sz) (by simp[CRel]) hv ht hi hzs hsz (by simpa using J) (by simpa using O);have up:=sf (x:=U) hr hf g4;simp only[List.length_nil,Nat.zero_add,List.nil_append]at Z g3;refine⟨_,w',dc ρ nid U,g1,eff_new hr hf g4 ⟨U,ys,aJ _ _ _,Z,g3.up up⟩ (λb hb=>?_),_,rfl,?_⟩
 ·obtain⟨q,e1,G⟩:=hb;rw[aJ]at e1;cases e1;rcases E with E|E
  ·rw[E]at G;cases G
  ·rw[E]at G;simp at G;omega
 ·simp only[VRel];exact⟨aJ _ _ _,sU Z⟩
end
theorem xU{id:Nat}(hr:HRel S w ρ h)(fr:Fr a n (fA a))(hf:h nid=.free)(hx:Opd S w ρ a x (.sl id))(hy:Opd S w ρ a y (.int .i64 (k:Int)))(Z:h id=.row e sz els)(ht:P.underlying t=some (.slice e))(hz:bS P e=some sz)(hk:k≤els.length):
  Does P S w ρ h a ty (.slice t x none (some y) none) (some (.sl nid)) (bM (bM h id .gone) nid (.row e sz (els.take k))) (·=id):=by
 obtain⟨u,k1,k2⟩:=hx;simp only[VRel]at k2;obtain⟨u',xs,h1,h2,h3⟩:=gw hr Z;rw[k2.1]at h1;cases h1;obtain⟨A,c,rfl,hc,hcm⟩:=ee h2;have E:=zE (P:=P) (w:=w) (ty:=ty) (lo:=none) (hi:=some y) (i:=0) (j:=k) fr ht hz k1 (.inl ⟨rfl,rfl⟩) (.inr ⟨y,rfl,aT hy⟩) (Nat.zero_le _) hk hc;have eA:(if c=0 then A else A.map (·.add (0*sz)))=A:=by
  split
  ·rfl
  ·cases A with
   |none=>rfl
   |some ad=>simp[Addr.add]
 rw[eA]at E;simp only[Nat.sub_zero]at E;have hn:ρ nid=none:=by have :=hr.ob nid;rw[hf]at this;exact this
 have up:Up S S w w ρ (dc ρ nid (.slice A k c)):=by
  refine⟨λ_ h=>h,λb hb hlt=>rfl,λi q hq=>?_⟩;have :i≠nid:=λe=>by subst e;rw[hn]at hq;cases hq
  rw[lI _ _ this];exact hq
 have O:(els.take k).length=k:=by simp;omega
 have own':w.ownsRow 0 e sz (.slice A k c) k (xs.take (k*sz)):=by
  have G:k*sz≤els.length*sz:=Nat.mul_le_mul_right _ hk;refine⟨by rw[List.length_take,h2.1,Nat.min_eq_left G],?_⟩;rcases h2.2 with⟨h0,h0'⟩|⟨g,cap,cur,hv,q1,q2,q3,q4,q5,q6⟩
  ·injection h0 with J U e3
   subst J e3;exact .inl ⟨by rw[show k=0 by omega],by omega⟩
  ·injection hv with J U e3
   subst J e3;refine .inr ⟨g,c,cur,rfl,q1,q2,by omega,q4,q5,?_⟩;rw[←q6,List.take_take,Nat.min_eq_left G]
 refine⟨_,w,dc ρ nid (.slice A k c),E,rH (X:=[]) hr hf (by rw[Z];simp) (Chg.refl _ _) (by simp) ⟨_,_,aJ _ _ _,by rw[O];exact own',(h3.take k).up up⟩ (λb hb=>?_),_,rfl,?_⟩
 ·obtain⟨q,J,U⟩:=hb;rw[aJ]at J;cases J;exact .inl (by rw[Z];exact⟨_,k2.1,by cases A<;>simp[Value.ownBlock]at U⊢;exact U⟩)
 ·simp only[VRel];exact⟨aJ _ _ _,rfl⟩
theorem eO{id:Nat}(hr:HRel S w ρ h):HRel (λb=>S b∨own ρ id (h id) b) w ρ (bM h id .gone)∧Up S (λb=>S b∨own ρ id (h id) b) w w ρ ρ:=by
 have up:Up S (λb=>S b∨own ρ id (h id) b) w w ρ ρ:=⟨λ_ h=>.inl h,λ_ _ _=>rfl,λ_ _ h=>h⟩;have back:∀i b,own ρ i (bM h id .gone i) b→i≠id∧own ρ i (h i) b:=λi b q=>by
  by_cases hi:i=id
  ·subst hi;rw[bi]at q;exact q.elim
  ·rw[bN _ _ hi]at q;exact⟨hi,q⟩
 refine⟨⟨λi=>?_,λi b q=>?_,λi j b E G=>hr.dis i j b (back i b E).2 (back j b G).2,hr.slt.up up λb q=>?_⟩,up⟩
 ·by_cases hi:i=id
  ·subst hi;rw[bi];trivial
  ·rw[bN _ _ hi];refine(hr.ob i).up up (λhf=>?_) (λ_ _=>rfl);have :=hr.ob i;rw[hf]at this;exact this
 ·obtain⟨h1,h2⟩:=back i b q;rintro(J|J)
  ·exact hr.sep i b h2 J
  ·exact h1 (hr.dis i id b h2 J)
 ·rcases q with q|q
  ·exact hr.slt b q
  ·exact eo (hr.ob id) q
theorem se{id:Nat}{x:Value}(hr:HRel S w ρ h)(G:h id=.row e sz els)(O:pureL els=true)(hx:VRel S w ρ (.sl id) x):VRel (λb=>S b∨own ρ id (h id) b) w ρ (.row sz els) x:=by
 simp only[VRel]at hx;obtain⟨v,xs,h1,h2,J⟩:=gw hr G;rw[hx.1]at h1;cases h1;obtain⟨A,c,rfl,U,q⟩:=ee h2;simp only[VRel];refine⟨A,c,xs,rfl,U,q,(J.up (eO hr).2).pure O,J.length,λZ=>?_⟩;obtain⟨g,cap,hv,_,E⟩:=h2.form Z;injection hv with e1 e2 e3
 subst e1 e3;exact⟨g,0,rfl,.inr (by rw[G];exact⟨_,hx.1,rfl⟩),E,λj hj=>by rw[Nat.zero_add];exact oP h2 hj⟩
theorem yR{id:Nat}{x:Value}(hr:HRel S w ρ h)(E:h id=.var t cs)(G:pureL cs=true)(hx:VRel S w ρ (.ptr id o) x):VRel (λb=>S b∨own ρ id (h id) b) w ρ (.box cs o) x:=by
 simp only[VRel]at hx;obtain⟨b,xs,h1,h2,J⟩:=mG hr E;obtain⟨O,q,rfl⟩:=hx;rw[h1]at q;simp only[Option.some.injEq,Value.pointer.injEq,Addr.mk.injEq,and_true]at q;subst q;simp only[VRel];exact⟨b,0,xs,by simp,.inr (by rw[E];exact h1),h2.lt,(J.up (eO hr).2).pure G,λj U=>by rw[Nat.zero_add,h2.cell]⟩
end
abbrev Fm:=List (Option V)
def Fm.get:Fm→Nat→Option V
 |[],_=>none
 |x::_,0=>x
 |_::r,i+1=>Fm.get r i
def Fm.put{α:Type}:Fm→Nat→Option V→(Fm→α)→α
 |[],_,_,c=>c []
 |_::r,0,v,c=>c (v::r)
 |x::r,i+1,v,c=>Fm.put r i v λq=>c (x::q)
variable{α:Type}
def Fm.puto(F:Fm)(d:Option Tmp)(v:Option V)(c:Fm→α):α:=match d with
 |some d=>F.put d v c
 |none=>c F
def ey(n:Nat)(c:Nat→α):α:=match n with
 |0=>c 0
 |m+1=>c (Nat.succ m)
def yp(n:Int)(c:Int→α):α:=match n with
 |.ofNat m=>ey m λm=>c (.ofNat m)
 |.negSucc m=>ey m λm=>c (.negSucc m)
def listK{α β:Type}:List β→(List β→α)→α
 |[],c=>c []
 |x::r,c=>listK r λq=>c (x::q)
theorem cz(n:Nat)(c:Nat→α):ey n c=c n:=by cases n<;>rfl
theorem xa(n:Int)(c:Int→α):yp n c=c n:=by cases n<;>simp[yp,cz]
theorem bP{α β:Type}:∀(l:List β) (c:List β→α),listK l c=c l
 |[],c=>rfl
 |x::r,c=>by simp[listK,bP r]
theorem Fm.get_eq:∀(F:Fm) (i:Nat),F.get i=(F[i]?).bind id
 |[],i=>by simp[Fm.get]
 |x::r,0=>by simp[Fm.get]
 |x::r,i+1=>by simp[Fm.get,Fm.get_eq r i]
theorem Fm.put_eq{α:Type}:∀(F:Fm) (i:Nat) (v:Option V) (c:Fm→α),F.put i v c=c (F.set i v)
 |[],i,v,c=>by simp[Fm.put]
 |x::r,0,v,c=>by simp[Fm.put]
 |x::r,i+1,v,c=>by simp[Fm.put,Fm.put_eq r i]
def Fm.seto(F:Fm)(d:Option Tmp)(v:Option V):Fm:=match d with
 |some d=>F.set d v
 |none=>F
theorem Fm.puto_eq(F:Fm)(d:Option Tmp)(v:Option V)(c:Fm→α):F.puto d v c=c (F.seto d v):=by
 cases d with
 |none=>rfl
 |some d=>exact Fm.put_eq F d v c
inductive TK where
 |sc
 |bool
 |str
 |sl (e:TypeId)
 |struct (fs:List (Nat×Nat×Bool))
 |arr (len:Nat) (e:TypeId)
structure TD where
 size:Nat
 bytes:Nat
 zero:V
 kind:TK
structure Tab where
 frc:Bool
 ty:TypeId→Option TD
 fn:FuncId→Option Func
 nat:FuncId→List V→Option V
 keep:FuncId→Bool
def yI:Value→V→Bool
 |.int k n,.int k' m=>k==k'&&n==m
 |.bool b,.bool c=>b==c
 |.string s,.str l=>s.data.toList==l
 |.pointer none,.nilp=>true
 |.slice none 0 0,.nils=>true
 |.map none,.raw (.map none)=>true
 |_,_=>false
def yd:List Value→List V→Bool
 |[],[]=>true
 |x::r,v::q=>yI x v&&yd r q
 |_,_=>false
def zEq:Value→V→Bool
 |.agg cs,.agg vs=>yd cs.toList vs
 |x,v=>yI x v
def oa(P:Program)(t:TypeId):Nat→List (Nat×Nat×Bool)→Bool
 |_,[]=>true
 |i,(o,s,b)::r=>(match b with
  |true=>mK P t i==some o
  |false=>mA P t i==some (o,s))&&en P t i==some o&&oa P t (i+1) r
def jV(P:Program)(t:TypeId)(size:Nat):TK→Bool
 |.sc=>cS P t
 |.bool=>cS P t&&match P.underlying t with|some .bool=>true|_=>false
 |.str=>cS P t&&match P.underlying t with|some .string=>true|_=>false
 |.sl e=>cS P t&&match P.underlying t with|some (.slice q)=>e==q|_=>false
 |.struct fs=>jt P t==some size&&qv P t==some (fs.map λp=>(p.1,p.2.1))&&oa P t 0 fs
 |.arr len e=>jt P t==some size&&match P.underlying t with|some (.array len' q)=>len==len'&&e==q|_=>false
def tdB(P:Program)(t:TypeId)(d:TD):Bool:=
 match P.info? t with
 |some inf=>match inf.zero with
  |some z=>inf.size==d.size&&inf.bytes==d.bytes&&zEq z d.zero&&z.cells.size==d.size&&jV P t d.size d.kind&&z.cells.toList.all (·.oneCell')
  |none=>false
 |none=>false
structure TdOk (P:Program) (t:TypeId) (d:TD):Prop where
 size:bS P t=some d.size
 info:∃z:Value,(P.info? t).map (λi=>(i.zero,i.size,i.bytes))=some (some z,d.size,d.bytes)∧(∀S w ρ,VRel S w ρ d.zero z)∧z.cells.size=d.size∧z.cells.toList.all (·.oneCell')=true
 kind:jV P t d.size d.kind=true
theorem xQ{S:Nat→Prop}{w:World}{x:Value}(h:yI x v=true):VRel S w ρ v x:=by
 unfold yI at h;split at h
 ·simp only[Bool.and_eq_true,beq_iff_eq]at h;simp only[VRel];rw[h.1,h.2]
 ·simp only[beq_iff_eq]at h;simp only[VRel];rw[h]
 ·simp only[beq_iff_eq]at h;simp only[VRel];rw[←h]
 ·simp only[VRel]
 ·simp only[VRel]
 ·simp only[VRel];exact⟨trivial,rfl⟩
 ·cases h
theorem xf{S:Nat→Prop}{w:World}{ρ:Nat→Option Value}:∀{xs:List Value} {vs:List V},yd xs vs=true→LRel S w ρ vs xs
 |[],[],h=>by simp[LRel]
 |x::r,v::q,h=>by
  simp only[yd,Bool.and_eq_true]at h;exact⟨x,r,rfl,xQ h.1,xf h.2⟩
 |[],_::_,h=>by cases h
 |_::_,[],h=>by cases h
theorem EG{S:Nat→Prop}{w:World}{x:Value}(h:zEq x v=true):VRel S w ρ v x:=by
 unfold zEq at h;split at h
 ·simp only[VRel];exact⟨_,rfl,xf h⟩
 ·exact xQ h
variable{P:Program}{d:TD}
theorem Ef(h:tdB P t d=true):TdOk P t d:=by
 unfold tdB at h;split at h
 ·rename_i inf hi;split at h
  ·rename_i z q;simp only[Bool.and_eq_true,beq_iff_eq]at h;obtain⟨⟨⟨⟨⟨h1,h2⟩,E⟩,G⟩,J⟩,O⟩:=h;exact⟨by simp[bS,hi,h1],⟨z,by simp[hi,q,h1,h2],λS w ρ=>EG E,G,O⟩,J⟩
  ·cases h
 ·cases h
theorem TdOk.zeroT(h:TdOk P t d):∃z,jb P t=some z∧∀S w ρ,LRel S w ρ d.zero.cells z:=by
 obtain⟨z,h1,h2,_⟩:=h.info;obtain⟨G,E,q⟩:=Option.map_eq_some_iff.1 h1;simp only[Prod.mk.injEq]at q;exact⟨z.cells.toList,by unfold Go.Proofs.YtojjjmkmkbnieaaGreat.jb;simp[E,q.1],λS w ρ=>(h2 S w ρ).cells⟩
def TD.agg(d:TD):Bool:=match d.kind with
 |.struct _=>true
 |.arr _ _=>true
 |_=>false
theorem TdOk.sc(h:TdOk P t d)(E:d.agg=false):cS P t=true:=by
 have q:=h.kind;unfold TD.agg at E;cases hd:d.kind with
 |sc=>rw[hd]at q;exact q
 |bool=>rw[hd]at q;simp only[jV,Bool.and_eq_true]at q;exact q.1
 |str=>rw[hd]at q;simp only[jV,Bool.and_eq_true]at q;exact q.1
 |sl e=>rw[hd]at q;simp only[jV,Bool.and_eq_true]at q;exact q.1
 |struct fs=>rw[hd]at E;cases E
 |arr _ _=>rw[hd]at E;cases E
theorem TdOk.ag(h:TdOk P t d)(E:d.agg=true):jt P t=some d.size:=by
 have q:=h.kind;unfold TD.agg at E;cases hd:d.kind with
 |struct fs=>rw[hd]at q;simp only[jV,Bool.and_eq_true,beq_iff_eq]at q;exact q.1.1
 |arr _ _=>rw[hd]at q;simp only[jV,Bool.and_eq_true,beq_iff_eq]at q;exact q.1
 |_=>rw[hd]at E;cases E
theorem TdOk.bool(h:TdOk P t d)(hd:d.kind=.bool):P.underlying t=some .bool:=by
 have q:=h.kind;rw[hd]at q;simp only[jV,Bool.and_eq_true]at q;have :=q.2;split at this
 ·assumption
 ·cases this
theorem TdOk.str(h:TdOk P t d)(hd:d.kind=.str):P.underlying t=some .string:=by
 have q:=h.kind;rw[hd]at q;simp only[jV,Bool.and_eq_true]at q;have :=q.2;split at this
 ·assumption
 ·cases this
theorem TdOk.sl(h:TdOk P t d)(hd:d.kind=.sl e):P.underlying t=some (.slice e):=by
 have q:=h.kind;rw[hd]at q;simp only[jV,Bool.and_eq_true]at q;have :=q.2;split at this
 ·rename_i G E;simp only[beq_iff_eq]at this;rw[this];exact E
 ·cases this
theorem TdOk.arr(h:TdOk P t d)(hd:d.kind=.arr n e):P.underlying t=some (.array n e):=by
 have q:=h.kind;rw[hd]at q;simp only[jV,Bool.and_eq_true]at q;have :=q.2;split at this
 ·rename_i G J E;simp only[Bool.and_eq_true,beq_iff_eq]at this;rw[this.1,this.2];exact E
 ·cases this
theorem su{P:Program}{t:TypeId}:∀{fs:List (Nat×Nat×Bool)} {k:Nat},oa P t k fs=true→∀i o s b,fs[i]?=some (o,s,b)→en P t (k+i)=some o∧(b=true→mK P t (k+i)=some o)∧(b=false→mA P t (k+i)=some (o,s))
 |[],k,h,i,o,s,b,hi=>by simp at hi
 |(o',s',E)::r,k,h,0,o,s,b,hi=>by
  simp only[List.getElem?_cons_zero,Option.some.injEq,Prod.mk.injEq]at hi;obtain⟨rfl,rfl,rfl⟩:=hi;simp only[oa,Bool.and_eq_true,beq_iff_eq]at h;refine⟨h.1.2,λq=>?_,λq=>?_⟩
  ·subst q;have :=h.1.1;simpa using this
  ·subst q;have :=h.1.1;simpa using this
 |(o',s',E)::r,k,h,i+1,o,s,b,hi=>by
  simp only[oa,Bool.and_eq_true]at h;have :=su h.2 i o s b (by simpa using hi);rw[show k+1+i=k+(i+1) by omega]at this;exact this
theorem TdOk.fields{fs:List (Nat×Nat×Bool)}(h:TdOk P t d)(hd:d.kind=.struct fs):qv P t=some (fs.map λp=>(p.1,p.2.1))∧∀i o s b,fs[i]?=some (o,s,b)→en P t i=some o∧(b=true→mK P t i=some o)∧(b=false→mA P t i=some (o,s)):=by
 have q:=h.kind;rw[hd]at q;simp only[jV,Bool.and_eq_true,beq_iff_eq]at q;refine⟨q.1.2,λi o s b hi=>?_⟩;have :=su q.2 i o s b hi
 rwa [Nat.zero_add]at this
structure TabOk (P:Program) (T:Tab):Prop where
 ty:∀t d,T.ty t=some d→TdOk P t d
 fn:∀i f,T.fn i=some f→P.funcs[i]?=some f∧bE P i=true
 nat:∀i vs v,T.nat i vs=some v→bE P i=true∧∀S w ρ xs,LRel S w ρ vs xs→∃x,VRel S w ρ v x∧Calls P i xs.toArray w λe w'=>e=.returned x∧w=w'
structure FRel (S:Nat→Prop) (w:World) (ρ:Nat→Option Value) (a:Act) (n:Nat) (F:Fm):Prop where
 size:a.tmps.size=n
 defers:a.defers=[]
 gl:∀p∈ut,VRel S w ρ0 (.box p.2 0) (.pointer (some ⟨p.1,0,none⟩))
 len:F.length≤n
 get:∀i v,F.get i=some v→∃x,a.tmps[i]?=some x∧VRel S w ρ v x
section
variable{S S':Nat→Prop}{w w':World}{ρ ρ':Nat→Option Value}{a:Act}{n:Nat}{F:Fm}
theorem FRel.fr(h:FRel S w ρ a n F):Fr a n (fA a):=⟨h.size,h.defers,λ_ _ h=>h⟩
theorem FRel.up(u:Up S S' w w' ρ ρ')(h:FRel S w ρ a n F):FRel S' w' ρ' a n F:=
 ⟨h.size,h.defers,λp q=>(h.gl p q).up u.z,h.len,λi v hv=>by obtain⟨x,h1,h2⟩:=h.get i v hv;exact⟨x,h1,h2.up u⟩⟩
theorem FRel.set(h:FRel S w ρ a n F)(d:Option Tmp){v:Option V}{x:Value}(hx:∀u,v=some u→VRel S w ρ u x):FRel S w ρ (a.put d x) n (F.seto d v):=by
 cases d with
 |none=>exact h
 | some d=>
  refine⟨by simp[Act.put,h.size],h.defers,h.gl,by simp[Fm.seto];exact h.len,λi u hu=>?_⟩;simp only[Fm.seto,Fm.get_eq,List.getElem?_set]at hu;simp only[Act.put,Array.getElem?_setIfInBounds,h.size];by_cases hid:d=i
  ·subst hid;simp only[if_true]at hu⊢;split at hu
   ·rename_i hlt;simp only[Option.bind_some,id_eq]at hu;exact⟨x,by simp[Nat.lt_of_lt_of_le hlt h.len],hx u hu⟩
   ·cases hu
  ·simp only[if_neg hid]at hu⊢;exact h.get i u (by rw[Fm.get_eq];exact hu)
end
def yo:Value→Option V
 |.int k n=>some (.int k n)
 |.bool b=>some (.bool b)
 |.string s=>some (.str s.data.toList)
 |.pointer none=>some .nilp
 |.slice none 0 0=>some .nils
 |_=>none
def vu:List Value→Option (List V)
 |[]=>some []
 |v::r=>match yo v with
  |some x=>match vu r with
   |some xs=>some (x::xs)
   |none=>none
  |none=>none
def ofV:Value→Option V
 |.agg cs=>match vu cs.toList with
  |some l=>some (.agg l)
  |none=>none
 |v=>yo v
def sy:List (Nat×List V)→Nat→Option (List V)
 |[],_=>none
 |(i,cs)::r,j=>match Nat.beq i j with
  |true=>some cs
  |false=>sy r j
theorem sd:∀{l:List (Nat×List V)} {j:Nat} {cs:List V},sy l j=some cs→(j,cs)∈l
 |[],j,cs,h=>by cases h
 | (i,c)::r,j,cs,h=>by
  simp only[sy]at h;split at h
  ·rename_i hb;have :=Nat.eq_of_beq_eq_true hb;injection h with h;subst this h;exact List.mem_cons_self
  ·exact List.mem_cons_of_mem _ (sd h)
def aF(F:Fm):Operand→Option V
 |.tmp t=>F.get t
 |.const v=>ofV v
 |.global g=>match sy ut g with
  |some cs=>some (.box cs 0)
  |none=>none
 |.func g=>some (.clo g [])
def fe(F:Fm):List Operand→Option (List V)
 |[]=>some []
 |x::r=>match aF F x with
  |some v=>match fe F r with
   |some vs=>some (v::vs)
   |none=>none
  |none=>none
def jE(F:Fm):List (Nat×Operand)→Option (List (Nat×V))
 |[]=>some []
 |(i,x)::r=>match aF F x with
  |some v=>match jE F r with
   |some vs=>some ((i,v)::vs)
   |none=>none
  |none=>none
section
variable{S S':Nat→Prop}{w w':World}{ρ ρ':Nat→Option Value}{a:Act}{n:Nat}{F:Fm}
theorem xq{x:Value}(h:yo x=some v):VRel S w ρ v x:=by
 unfold yo at h;split at h<;>first|(simp only[Option.some.injEq]at h;subst h;simp only[VRel];done)|cases h
theorem xT:∀{xs:List Value} {vs:List V},vu xs=some vs→LRel S w ρ vs xs
 |[],vs,h=>by simp only[vu,Option.some.injEq]at h;subst h;simp[LRel]
 | x::r,vs,h=>by
  simp only[vu]at h;split at h
  ·rename_i v hv;split at h
   ·rename_i us hu;simp only[Option.some.injEq]at h;subst h;exact⟨x,r,rfl,xq hv,xT hu⟩
   ·cases h
  ·cases h
theorem FE{x:Value}(h:ofV x=some v):VRel S w ρ v x:=by
 unfold ofV at h;split at h
 ·split at h
  ·rename_i l q;simp only[Option.some.injEq]at h;subst h;simp only[VRel];exact⟨_,rfl,xT q⟩
  ·cases h
 ·exact xq h
theorem al(q:FRel S w ρ a n F)(h:aF F x=some v):Opd S w ρ a x v:=by
 unfold aF at h;split at h
 ·rename_i t;obtain⟨y,h1,h2⟩:=q.get t v h;exact⟨y,h1,h2⟩
 ·rename_i c;exact⟨c,rfl,FE h⟩
 ·rename_i g;split at h
  ·rename_i cs E;injection h with h;subst h
   exact⟨_,rfl,(q.gl _ (sd E)).pure (by rfl)⟩
  ·cases h
 ·rename_i g;injection h with h;subst h
  exact⟨_,rfl,by simp only[VRel,LRel];exact⟨[],rfl,rfl⟩⟩
theorem oF(hF:FRel S w ρ a n F):∀{l:List Operand} {vs:List V},fe F l=some vs→∃xs,lN (fA a) l=some xs∧LRel S w ρ vs xs
 |[],vs,h=>by simp only[fe,Option.some.injEq]at h;subst h;exact⟨[],rfl,by simp[LRel]⟩
 | x::r,vs,h=>by
  simp only[fe]at h;split at h
  ·rename_i v hv;split at h
   ·rename_i us hu;simp only[Option.some.injEq]at h;subst h;obtain⟨y,h1,h2⟩:=al hF hv;obtain⟨ys,h3,h4⟩:=oF hF hu;exact⟨y::ys,by simp only[lN,h1,h3],⟨y,ys,rfl,h2,h4⟩⟩
   ·cases h
  ·cases h
theorem ma(hF:FRel S w ρ a n F):∀{l:List (Nat×Operand)} {vs:List (Nat×V)},jE F l=some vs→∃ys,dx (fA a) l=some ys∧gM S w ρ vs ys
 |[],vs,h=>by simp only[jE,Option.some.injEq]at h;subst h;exact⟨[],rfl,by simp[gM]⟩
 | (i,x)::r,vs,h=>by
  simp only[jE]at h;split at h
  ·rename_i v hv;split at h
   ·rename_i us hu;simp only[Option.some.injEq]at h;subst h;obtain⟨y,h1,h2⟩:=al hF hv;obtain⟨ys,h3,h4⟩:=ma hF hu;exact⟨(i,y)::ys,by simp only[dx,h1,h3],⟨y,ys,rfl,h2,h4⟩⟩
   ·cases h
  ·cases h
end
def iEq:Int→Int→Bool
 |.ofNat a,.ofNat b=>Nat.beq a b
 |.negSucc a,.negSucc b=>Nat.beq a b
 |_,_=>false
def iLt:Int→Int→Bool
 |.ofNat a,.ofNat b=>Nat.blt a b
 |.negSucc a,.negSucc b=>Nat.blt b a
 |.negSucc _,.ofNat _=>true
 |.ofNat _,.negSucc _=>false
def inR:Int→Bool
 |.ofNat a=>Nat.ble a 9223372036854775807
 |.negSucc a=>Nat.ble a 9223372036854775807
def lEq:List UInt8→List UInt8→Bool
 |[],[]=>true
 |a::r,b::q=>match Nat.beq a.toNat b.toNat with
  |true=>lEq r q
  |false=>false
 |_,_=>false
def kEq:IntKind→IntKind→Bool
 |.i64,.i64=>true
 |.u8,.u8=>true
 |_,_=>false
theorem pC(m l:Int):iEq m l=(m==l):=by
 rw[Bool.eq_iff_iff];cases m<;>cases l<;>simp[iEq]<;>omega
theorem om(m l:Int):iLt m l=decide (m<l):=by
 rw[Bool.eq_iff_iff];cases m<;>cases l<;>simp[iLt]<;>omega
theorem Fl{n:Int}(h:inR n=true):-9223372036854775808≤n∧n≤9223372036854775807:=by
 cases n with
 |ofNat a=>simp only[inR,Nat.ble_eq]at h;simp only[Int.ofNat_eq_natCast];omega
 |negSucc a=>simp only[inR,Nat.ble_eq]at h;omega
theorem oy:∀(m l:List UInt8),lEq m l=(m==l)
 |[],[]=>rfl
 |[],_::_=>rfl
 |_::_,[]=>rfl
 | a::r,b::q=>by
  simp only[lEq];split
  ·rename_i hb;have :a=b:=UInt8.toNat_inj.1 (Nat.eq_of_beq_eq_true hb);subst this;simp[oy r q]
  ·rename_i hb;have :a≠b:=λe=>by subst e;simp at hb
   simp[this]
theorem Eu{k k':IntKind}(h:kEq k k'=true):k=k':=by
 unfold kEq at h;split at h<;>first|rfl|cases h
def mkB(b:Bool):Option V:=match b with
 |true=>some (.bool true)
 |false=>some (.bool false)
theorem Er(b:Bool):mkB b=some (.bool b):=by cases b<;>rfl
def lz(f:Bool)(fast slow:Bool):Option V:=match f with
 |true=>mkB fast
 |false=>some (.bool slow)
theorem gH{f fast slow:Bool}(q:fast=slow)(h:lz f fast slow=some v):v=.bool slow:=by
 subst q;unfold lz at h;split at h
 ·rw[Er]at h;simpa using h.symm
 ·simpa using h.symm
def yX(f:Bool)(k:IntKind)(n:Int):Option V:=match f with
 |true=>match k with
  |.i64=>yp n λn=>match inR n with
   |true=>some (.int .i64 n)
   |false=>none
  |_=>none
 |false=>some (.int k (k.wrap n))
theorem wZ{f:Bool}{k:IntKind}{n:Int}(h:yX f k n=some v):v=.int k (k.wrap n):=by
 unfold yX at h;split at h
 ·split at h
  ·rw[xa]at h;split at h
   ·rename_i hr;have e:IntKind.i64.wrap n=n:=IntWalk.i64_in _ (by have :=Fl hr;omega);rw[e];simpa using h.symm
   ·cases h
  ·cases h
 ·simpa using h.symm
def BX (T:Tab) (op:BinOp) (t:TypeId):V→V→Option V
 |.int k m,.int k' l=>match kEq k k' with
  |false=>none
  |true=>match op with
   |.eql=>lz T.frc (iEq m l) (m==l)
   |.neq=>lz T.frc (!iEq m l) (m !=l)
   |.lss=>lz T.frc (iLt m l) (decide (m<l))
   |.gtr=>lz T.frc (iLt l m) (decide (l<m))
   |.leq=>lz T.frc (!iLt l m) (decide (m≤l))
   |.geq=>lz T.frc (!iLt m l) (decide (l≤m))
   |.add=>yX T.frc k (m+l)
   |.sub=>yX T.frc k (m-l)
   |_=>none
 |.str m,.str l=>match op with
  |.eql=>lz T.frc (lEq m l) (m==l)
  |.neq=>lz T.frc (!lEq m l) (m !=l)
  |.add=>match T.frc with
   |true=>match Nat.ble (m.length+l.length) 9223372036854775807 with
    |true=>listK (m++l) λr=>some (.str r)
    |false=>none
   |false=>none
  |_=>none
 |.bool m,.bool l=>match T.ty t with
  |some ⟨_,_,_,.bool⟩=>match op with
   |.eql=>lz T.frc (m==l) (m==l)
   |.neq=>lz T.frc (m !=l) (m !=l)
   |_=>none
  |_=>none
 |_,_=>none
def atV:List V→Nat→Option V
 |[],_=>none
 |x::_,0=>some x
 |_::r,i+1=>atV r i
theorem kC:∀(l:List V) (i:Nat),atV l i=l[i]?
 |[],i=>by simp[atV]
 |x::r,0=>by simp[atV]
 |x::r,i+1=>by simp[atV,kC r i]
def atB:List UInt8→Nat→Option UInt8
 |[],_=>none
 |x::_,0=>some x
 |_::r,i+1=>atB r i
theorem zK:∀(l:List UInt8) (i:Nat),atB l i=l[i]?
 |[],i=>by simp[atB]
 |x::r,0=>by simp[atB]
 |x::r,i+1=>by simp[atB,zK r i]
def atF:List (Nat×Nat×Bool)→Nat→Option (Nat×Nat×Bool)
 |[],_=>none
 |x::_,0=>some x
 |_::r,i+1=>atF r i
theorem wl:∀(l:List (Nat×Nat×Bool)) (i:Nat),atF l i=l[i]?
 |[],i=>by simp[atF]
 |x::r,0=>by simp[atF]
 |x::r,i+1=>by simp[atF,wl r i]
def zi(T:Tab)(t:TypeId)(i:Nat):Option (Nat×Nat×Bool):=match T.ty t with
 |some ⟨_,_,_,.struct fs⟩=>atF fs i
 |_=>none
def qq:List V→Nat→List V
 |l,0=>l
 |[],_+1=>[]
 |_::r,i+1=>qq r i
theorem oN:∀(l:List V) (i:Nat),qq l i=l.drop i
 |[],0=>rfl
 |_::_,0=>rfl
 |[],i+1=>by simp[qq]
 |_::r,i+1=>by simp[qq,oN r i]
def oC{α:Type}:List V→Nat→(List V→Option α)→Option α
 |_,0,c=>c []
 |[],_+1,_=>none
 |x::r,i+1,c=>oC r i λq=>c (x::q)
theorem oL{α:Type}:∀{l:List V} {i:Nat} {c:List V→Option α} {v:α},oC l i c=some v→i≤l.length∧c (l.take i)=some v
 |l,0,c,v,h=>by simpa[oC]using h
 |[],i+1,c,v,h=>by simp[oC]at h
 |x::r,i+1,c,v,h=>by
  simp only[oC]at h;have :=oL h;simpa using this
def lQ(d:TD)(cs:List V)(o:Nat):Option V:=match d.agg with
 |true=>match Nat.blt 0 d.size with
  |true=>oC (qq cs o) d.size λl=>some (.agg l)
  |false=>none
 |false=>atV cs o
def BZ(f:Bool)(m l:Int):Option V:=match f with
 |true=>match iLt m l with
  |true=>some (.int .i64 l)
  |false=>some (.int .i64 m)
 |false=>some (.int .i64 (max m l))
theorem DU{f:Bool}{m l:Int}(h:BZ f m l=some v):v=.int .i64 (max m l):=by
 unfold BZ at h;split at h
 ·split at h
  ·rename_i q;rw[om]at q;simp only[decide_eq_true_eq]at q;injection h with h;rw[←h,Int.max_eq_right (by omega)]
  ·rename_i q;rw[om]at q;simp only[decide_eq_false_iff_not]at q;injection h with h;rw[←h,Int.max_eq_left (by omega)]
 ·injection h with h;exact h.symm
def kr (T:Tab) (h:Nat→Ob) (F:Fm) (op:Op):Option V:=
 match op with
 |.move x=>aF F x
 |.assign x=>aF F x
 |.pick c x y=>match aF F c with
  |some (.bool true)=>aF F x
  |some (.bool false)=>aF F y
  |_=>none
 |.nilCheck x=>match aF F x with
  |some (.ptr id o)=>some (.ptr id o)
  |some (.el id sz i o)=>some (.el id sz i o)
  |some (.box cs o)=>some (.box cs o)
  |_=>none
 |.extract x i=>match aF F x with
  |some (.tup vs)=>atV vs i
  |_=>none
 |.unOp .not _ x=>match aF F x with
  |some (.bool b)=>lz T.frc (!b) (!b)
  |_=>none
 |.fieldAddr t x i=>match zi T t i with
  |some (k,_,_)=>match aF F x with
   |some (.ptr id o)=>ey (o+k) λr=>some (.ptr id r)
   |some (.el id sz j o)=>ey (o+k) λr=>some (.el id sz j r)
   |some (.box cs o)=>ey (o+k) λr=>some (.box cs r)
   |_=>none
  |none=>none
 |.field t x i=>match aF F x with
  |some (.agg cs)=>match zi T t i with
   |some (k,_,true)=>atV cs k
   |some (k,m,false)=>oC (qq cs k) m λl=>some (.agg l)
   |none=>none
  |_=>none
 |.binOp op t x y _=>match aF F x with
  |some a=>match aF F y with
   |some b=>BX T op t a b
   |none=>none
  |none=>none
 |.call ⟨.builtin .len,⟨[x]⟩,⟨[t]⟩⟩=>match T.ty t with
  |some ⟨_,_,_,.sl _⟩=>match aF F x with
   |some .nils=>some (.int .i64 0)
   |some (.row _ els)=>match T.frc with
    |true=>ey els.length λn=>some (.int .i64 (.ofNat n))
    |false=>some (.int .i64 els.length)
   |some (.sl id)=>match h id with
    |.row _ _ els=>match T.frc with
     |true=>ey els.length λn=>some (.int .i64 (.ofNat n))
     |false=>some (.int .i64 els.length)
    |_=>none
   |_=>none
  |some ⟨_,_,_,.str⟩=>match aF F x with
   |some (.str l)=>match T.frc with
    |true=>ey l.length λn=>some (.int .i64 (.ofNat n))
    |false=>some (.int .i64 l.length)
   |_=>none
  |_=>none
 |.call ⟨.builtin .max,⟨[x,y]⟩,⟨[t,u]⟩⟩=>match aF F x with
  |some (.int .i64 m)=>match aF F y with
   |some (.int .i64 l)=>BZ T.frc m l
   |_=>none
  |_=>none
 |.index t x y=>match T.ty t with
  |some ⟨_,_,_,.str⟩=>match aF F x with
   |some (.str l)=>match aF F y with
    |some (.int .i64 (.ofNat i))=>match atB l i with
     |some c=>ey c.toNat λc=>some (.int .u8 (.ofNat c))
     |none=>none
    |_=>none
   |_=>none
  |_=>none
 |.indexAddr t x y=>match T.ty t with
  |some ⟨_,_,_,.sl e⟩=>match T.ty e with
   |some d=>match aF F x with
    |some (.row sz els)=>match aF F y with
     |some (.int .i64 (.ofNat i))=>match Nat.beq sz d.size with
      |true=>match atV els i with
       |some v=>listK v.cells λcs=>some (.box cs 0)
       |none=>none
      |false=>none
     |_=>none
    |some (.sl id)=>match h id with
     |.row _ sz els=>match aF F y with
      |some (.int .i64 (.ofNat i))=>match Nat.beq sz d.size&&Nat.blt i els.length with
       |true=>some (.el id sz i 0)
       |false=>none
      |_=>none
     |_=>none
    |_=>none
   |none=>none
  |_=>none
 |.build t ⟨ps⟩=>match T.ty t with
  |some ⟨_,_,z,.struct fs⟩=>match jE F ps with
   |some vs=>match nm (λi=>match atF fs i with|some (o,s,_)=>some (o,s)|none=>none) z.cells vs with
    |some cs=>listK cs λcs=>some (.agg cs)
    |none=>none
   |none=>none
  |some ⟨_,_,z,.arr _ e⟩=>match T.ty e with
   |some d=>match jE F ps with
    |some vs=>match nm (λi=>some (i*d.size,d.size)) z.cells vs with
     |some cs=>listK cs λcs=>some (.agg cs)
     |none=>none
    |none=>none
   |none=>none
  |_=>none
 |.slice t x lo hi none=>match T.ty t with
  |some ⟨_,_,_,.str⟩=>match aF F x with
   |some (.str l)=>match(match lo with|none=>some (V.int .i64 (.ofNat 0))|some y=>aF F y)with
    |some (.int .i64 (.ofNat i))=>match(match hi with|none=>some (V.int .i64 (.ofNat l.length))|some y=>aF F y)with
     |some (.int .i64 (.ofNat j))=>match Nat.ble i j&&Nat.ble j l.length with
      |true=>listK ((l.drop i).take (j-i)) λr=>some (.str r)
      |false=>none
     |_=>none
    |_=>none
   |_=>none
  |some ⟨_,_,_,.sl e⟩=>match T.ty e with
   |some d=>match aF F x with
    |some (.row sz els)=>match(match lo with|none=>some (V.int .i64 (.ofNat 0))|some y=>aF F y)with
     |some (.int .i64 (.ofNat i))=>match(match hi with|none=>some (V.int .i64 (.ofNat els.length))|some y=>aF F y)with
      |some (.int .i64 (.ofNat j))=>match Nat.ble i j&&Nat.ble j els.length&&Nat.beq sz d.size with
       |true=>listK ((els.drop i).take (j-i)) λr=>some (.row sz r)
       |false=>none
      |_=>none
     |_=>none
    |_=>none
   |none=>none
  |_=>none
 |.load t x=>match aF F x with
  |some (.box cs o)=>match T.ty t with
   |some d=>lQ d cs o
   |none=>none
  |_=>none
 |_=>none
section
variable{P:Program}{T:Tab}{S:Nat→Prop}{w:World}{ρ:Nat→Option Value}{h:Nat→Ob}{a:Act}{n:Nat}{F:Fm}{ty:TypeId}
theorem En{k:IntKind}{m l:Int}(fr:Fr a n (fA a))(hx:Opd S w ρ a x (.int k m))(hy:Opd S w ρ a y (.int k l)):Yld P S w ρ a ty (.binOp .add t x y u) (.int k (k.wrap (m+l))):=
 ⟨.int k (k.wrap (m+l)),by simp only[VRel],λw' _ _ _ _ _=>by simp only[execOp,fr.eval (aT hx),fr.eval (aT hy)];simp[go_sem,eqGuard]⟩
theorem ES{k:IntKind}{m l:Int}(fr:Fr a n (fA a))(hx:Opd S w ρ a x (.int k m))(hy:Opd S w ρ a y (.int k l)):Yld P S w ρ a ty (.binOp .sub t x y u) (.int k (k.wrap (m-l))):=
 ⟨.int k (k.wrap (m-l)),by simp only[VRel],λw' _ _ _ _ _=>by simp only[execOp,fr.eval (aT hx),fr.eval (aT hy)];simp[go_sem,eqGuard]⟩
theorem zS(m l:List UInt8):(ByteArray.mk m.toArray++ByteArray.mk l.toArray)=⟨(m++l).toArray⟩:=by
 apply ByteArray.ext;simp[ByteArray.data_append]
theorem EF{m:List UInt8}(fr:Fr a n (fA a))(hx:Opd S w ρ a x (.str m))(hy:Opd S w ρ a y (.str l))(q:m.length+l.length≤9223372036854775807):Yld P S w ρ a ty (.binOp .add t x y u) (.str (m++l)):=
 ⟨.string ⟨(m++l).toArray⟩,by simp only[VRel],λw' _ _ _ _ _=>by simp only[execOp,fr.eval (eQ hx),fr.eval (eQ hy)];simp[go_sem,eqGuard,zS,show¬9223372036854775807<m.length+l.length by omega]⟩
theorem Dh(q:TabOk P T){op:BinOp}{c d:V}(fr:Fr a n (fA a))(hx:Opd S w ρ a x c)(hy:Opd S w ρ a y d)(hv:BX T op t c d=some v):Yld P S w ρ a ty (.binOp op t x y u) v:=by
 unfold BX at hv;split at hv
 ·split at hv
  ·cases hv
  ·rename_i E;have :=Eu E;subst this;split at hv
   ·rw[gH (pC _ _) hv];exact Gr fr hx hy
   ·rw[gH (by rw[pC];rfl) hv];exact Gx fr hx hy
   ·rw[gH (om _ _) hv];exact Gg fr hx hy
   ·rw[gH (om _ _) hv];exact FS fr hx hy
   ·rw[gH (by rw[om,Bool.eq_iff_iff];simp) hv];exact Gs fr hx hy
   ·rw[gH (by rw[om,Bool.eq_iff_iff];simp) hv];exact Gd fr hx hy
   ·rw[wZ hv];exact En fr hx hy
   ·rw[wZ hv];exact ES fr hx hy
   ·cases hv
 ·split at hv
  ·rw[gH (oy _ _) hv];exact Gh fr hx hy
  ·rw[gH (by rw[oy];rfl) hv];exact FR fr hx hy
  ·split at hv
   ·split at hv
    ·rename_i G;rw[bP]at hv;simp only[Option.some.injEq]at hv;subst hv;exact EF fr hx hy (by simpa using G)
    ·cases hv
   ·cases hv
  ·cases hv
 ·split at hv
  ·rename_i hd;have ht:=(q.ty _ _ hd).bool rfl;split at hv
   ·rw[gH rfl hv];exact Gp fr ht hx hy
   ·rw[gH rfl hv];exact FT fr ht hx hy
   ·cases hv
  ·cases hv
 ·cases hv
theorem sT(q:TabOk P T){s:Nat}{b:Bool}(hf:zi T t i=some (o,s,b)):en P t i=some o∧(b=true→mK P t i=some o)∧(b=false→mA P t i=some (o,s)):=by
 unfold zi at hf;split at hf
 ·rename_i hd;rw[wl]at hf;exact((q.ty _ _ hd).fields rfl).2 i o s b hf
 ·cases hf
theorem oZ (hT:TabOk P T) (hr:HRel S w ρ h) (hF:FRel S w ρ a n F) {op:Op} {v:V} (hv:kr T h F op=some v):Yld P S w ρ a ty op v:=by
 have fr:=hF.fr;unfold kr at hv;split at hv
 ·exact FJ fr (al hF hv)
 ·exact BW fr (al hF hv)
 ·split at hv
  ·exact Dp fr (al hF ‹_›) (al hF hv)
  ·exact DG fr (al hF ‹_›) (al hF hv)
  ·cases hv
 ·split at hv
  ·injection hv with hv;subst hv;exact FI fr (al hF ‹_›)
  ·injection hv with hv;subst hv;exact Ev fr (al hF ‹_›)
  ·injection hv with hv;subst hv;exact Fp fr (al hF ‹_›)
  ·cases hv
 ·split at hv
  ·rw[kC]at hv;exact FW fr (al hF ‹_›) hv
  ·cases hv
 ·split at hv
  ·rw[gH rfl hv];exact Gl fr (al hF ‹_›)
  ·cases hv
 ·split at hv
  ·rename_i hfl;have hfo:=(sT hT hfl).1;split at hv
   ·rw[cz]at hv;injection hv with hv;subst hv;exact FV fr (al hF ‹_›) hfo
   ·rw[cz]at hv;injection hv with hv;subst hv;exact Gn fr (al hF ‹_›) hfo
   ·rw[cz]at hv;injection hv with hv;subst hv;exact Gq fr (al hF ‹_›) hfo
   ·cases hv
  ·cases hv
 ·split at hv
  ·split at hv
   ·rename_i hfl;rw[kC]at hv;exact GG fr (al hF ‹_›) ((sT hT hfl).2.1 rfl) hv
   ·rename_i hfl;obtain⟨_,hv⟩:=oL hv;rw[oN]at hv;injection hv with hv;subst hv
    exact FL fr (al hF ‹_›) ((sT hT hfl).2.2 rfl)
   ·cases hv
  ·cases hv
 ·split at hv
  ·split at hv
   ·exact Dh hT fr (al hF ‹_›) (al hF ‹_›) hv
   ·cases hv
  ·cases hv
 ·split at hv
  ·rename_i hd;have ht:=(hT.ty _ _ hd).sl rfl;split at hv
   ·injection hv with hv;subst hv;exact FF fr ht (al hF ‹_›)
   ·split at hv
    ·rw[cz]at hv;injection hv with hv;subst hv;exact AA fr ht (al hF ‹_›)
    ·injection hv with hv;subst hv;exact AA fr ht (al hF ‹_›)
   ·split at hv
    ·split at hv
     ·rw[cz]at hv;injection hv with hv;subst hv;exact Bb hr ‹_› fr ht (al hF ‹_›)
     ·injection hv with hv;subst hv;exact Bb hr ‹_› fr ht (al hF ‹_›)
    ·cases hv
   ·cases hv
  ·rename_i hd;have ht:=(hT.ty _ _ hd).str rfl;split at hv
   ·split at hv
    ·rw[cz]at hv;injection hv with hv;subst hv;exact Ao fr ht (al hF ‹_›)
    ·injection hv with hv;subst hv;exact Ao fr ht (al hF ‹_›)
   ·cases hv
  ·cases hv
 ·split at hv
  ·split at hv
   ·rw[DU hv];exact Fh fr (al hF ‹_›) (al hF ‹_›)
   ·cases hv
  ·cases hv
 ·split at hv
  ·rename_i hd;have ht:=(hT.ty _ _ hd).str rfl;split at hv
   ·split at hv
    ·split at hv
     ·rename_i hb;rw[zK]at hb;rw[cz]at hv;injection hv with hv;subst hv
      exact Et fr ht (al hF ‹_›) (al hF ‹_›) hb
     ·cases hv
    ·cases hv
   ·cases hv
  ·cases hv
 ·split at hv
  ·rename_i hd;have ht:=(hT.ty _ _ hd).sl rfl;split at hv
   ·rename_i d he;have hz:=(hT.ty _ _ he).size;split at hv
    ·split at hv
     ·split at hv
      ·rename_i hb;have :=Nat.eq_of_beq_eq_true hb;subst this;split at hv
       ·rename_i hi;rw[kC]at hi;rw[bP]at hv;injection hv with hv;subst hv
        exact p_idxR fr ht hz (al hF ‹_›) (al hF ‹_›) hi
       ·cases hv
      ·cases hv
     ·cases hv
    ·split at hv
     ·split at hv
      ·split at hv
       ·rename_i hb;simp only[Bool.and_eq_true,Nat.beq_eq,Nat.blt_eq]at hb;obtain⟨rfl,hlt⟩:=hb;injection hv with hv;subst hv
        exact p_idxO hr ‹_› fr ht hz (al hF ‹_›) (al hF ‹_›) hlt
       ·cases hv
      ·cases hv
     ·cases hv
    ·cases hv
   ·cases hv
  ·cases hv
 ·split at hv
  ·rename_i fs hd;have hf:=(hT.ty _ _ hd).fields rfl;obtain⟨z,hz1,hz2⟩:=(hT.ty _ _ hd).zeroT;split at hv
   ·rename_i vs hps;obtain⟨ys,g1,g2⟩:=ma hF hps;split at hv
    ·rename_i cs hfl;rw[bP]at hv;injection hv with hv;subst hv
     refine Dx fr g1 g2 hz1 (hz2 _ _ _) hf.1 (λi p hp=>?_) hfl;rw[wl]at hp;split at hp
     ·rename_i o s b hi;simp only[Option.some.injEq]at hp;subst hp;simp[hi]
     ·cases hp
    ·cases hv
   ·cases hv
  ·rename_i e hd;have ht:=(hT.ty _ _ hd).arr rfl;obtain⟨z,hz1,hz2⟩:=(hT.ty _ _ hd).zeroT;split at hv
   ·rename_i d he;have hz:=(hT.ty _ _ he).size;split at hv
    ·rename_i vs hps;obtain⟨ys,g1,g2⟩:=ma hF hps;split at hv
     ·rename_i cs hfl;rw[bP]at hv;injection hv with hv;subst hv
      exact BT fr g1 g2 hz1 (hz2 _ _ _) ht hz hfl
     ·cases hv
    ·cases hv
   ·cases hv
  ·cases hv
 ·rename_i t x lo hi;split at hv
  ·rename_i hd;have ht:=(hT.ty _ _ hd).str rfl;split at hv
   ·split at hv
    ·rename_i i hi1;split at hv
     ·rename_i j hj1;split at hv
      ·rename_i hb;simp only[Bool.and_eq_true,Nat.ble_eq]at hb;rw[bP]at hv;injection hv with hv;subst hv
       refine FO fr ht (al hF ‹_›) ?_ ?_ hb.1 hb.2
       ·cases lo with
        |none=>injection hi1 with hi1;injection hi1 with _ hi1;injection hi1 with hi1;exact .inl ⟨rfl,hi1.symm⟩
        |some y=>exact .inr ⟨y,rfl,al hF hi1⟩
       ·cases hi with
        |none=>injection hj1 with hj1;injection hj1 with _ hj1;injection hj1 with hj1;exact .inl ⟨rfl,hj1.symm⟩
        |some y=>exact .inr ⟨y,rfl,al hF hj1⟩
      ·cases hv
     ·cases hv
    ·cases hv
   ·cases hv
  ·rename_i hd;have ht:=(hT.ty _ _ hd).sl rfl;split at hv
   ·rename_i d he;have hz:=(hT.ty _ _ he).size;split at hv
    ·split at hv
     ·rename_i i hi1;split at hv
      ·rename_i j hj1;split at hv
       ·rename_i hb;simp only[Bool.and_eq_true,Nat.ble_eq,Nat.beq_eq]at hb;obtain⟨⟨hb1,hb2⟩,rfl⟩:=hb;rw[bP]at hv;injection hv with hv;subst hv
        refine CK fr ht hz (al hF ‹_›) ?_ ?_ hb1 hb2
        ·cases lo with
         |none=>injection hi1 with hi1;injection hi1 with _ hi1;injection hi1 with hi1;exact .inl ⟨rfl,hi1.symm⟩
         |some y=>exact .inr ⟨y,rfl,al hF hi1⟩
        ·cases hi with
         |none=>injection hj1 with hj1;injection hj1 with _ hj1;injection hj1 with hj1;exact .inl ⟨rfl,hj1.symm⟩
         |some y=>exact .inr ⟨y,rfl,al hF hj1⟩
       ·cases hv
      ·cases hv
     ·cases hv
    ·cases hv
   ·cases hv
  ·cases hv
 ·split at hv
  ·rename_i cs o hx;split at hv
   ·rename_i d hd;have td:=hT.ty _ _ hd;unfold lQ at hv;split at hv
    ·rename_i ha;split at hv
     ·rename_i h0;obtain⟨hl,hv⟩:=oL hv;rw[oN]at hv hl;injection hv with hv;subst hv
      have h0':0<d.size:=by simpa using h0
      exact Ca fr (td.ag ha) (al hF hx) (by simp at hl;omega)
     ·cases hv
    ·rename_i ha;rw[kC]at hv;exact Da fr (td.sc ha) (al hF hx) hv
   ·cases hv
  ·cases hv
 ·cases hv
end
inductive ED where
 |nop
 |new (o:Ob)
 |set (id:Nat) (o:Ob)
 |repl (id:Nat) (o:Ob)
def ED.app(h:Nat→Ob)(nid:Nat):ED→Nat→Ob
 |.nop=>h
 |.new o=>bM h nid o
 |.set id o=>bM h id o
 |.repl id o=>bM (bM h id .gone) nid o
def ED.tch:ED→Nat→Prop
 |.nop,_=>False
 |.new _,_=>False
 |.set id _,i=>i=id
 |.repl id _,i=>i=id
def uF(h:Nat→Ob)(sz:Nat):V→Option (List V)
 |.nils=>some []
 |.row sz' els=>match Nat.beq sz sz' with
  |true=>some els
  |false=>none
 |.sl g=>match h g with
  |.row _ sz' els=>match Nat.beq sz sz' with
   |true=>some els
   |false=>none
  |_=>none
 |_=>none
def jX (T :Tab) (h:Nat→Ob) (F:Fm) (nid:Nat) (op:Op):Option (Option V×ED):=
 match op with
 |.load t x=>match aF F x with
  |some (.ptr id o)=>match T.ty t with
   |some d=>match h id with
    |.var _ cs=>match lQ d cs o with
     |some v=>some (some v,.nop)
     |none=>none
    |_=>none
   |none=>none
  |some (.el id sz i o)=>match T.ty t with
   |some d=>match h id with
    |.row _ sz' els=>match Nat.beq sz sz' with
     |true=>match atV els i with
      |some v0=>match lQ d v0.cells o with
       |some v=>some (some v,.nop)
       |none=>none
      |none=>none
     |false=>none
    |_=>none
   |none=>none
  |_=>none
 |.alloc t=>match T.ty t with
  |some d=>listK d.zero.cells λcs=>some (some (.ptr nid 0),.new (.var t cs))
  |none=>none
 |.box t x=>match aF F x with
  |some v=>listK v.cells λcs=>some (some (.ptr nid 0),.new (.var t cs))
  |none=>none
 |.store t x y=>match T.ty t with
  |some d =>match aF F y with
   |some v =>match Nat.beq v.cells.length d.size&&v.cells.all V.one with
    |true =>match aF F x with
     |some (.ptr id o)=>match h id with
      |.var tb cs=>match Nat.ble (o+d.size) cs.length with
       |true=>listK (ny cs o v.cells) λcs=>some (none,.set id (.var tb cs))
       |false=>none
      |_=>none
     |some (.el id sz i o)=>match h id with
      |.row e sz' els=>match Nat.beq sz sz' with
       |true=>match atV els i with
        |some v0=>match Nat.ble (o+d.size) v0.cells.length with
         |true=>match v0 with
          |.agg cs=>listK (els.set i (V.over (.agg cs) o v.cells)) λels=>some (none,.set id (.row e sz els))
          |v0=>match v.one with
           |true=>listK (els.set i (v0.over o v.cells)) λels=>some (none,.set id (.row e sz els))
           |false=>none
         |false=>none
        |none=>none
       |false=>none
      |_=>none
     |_=>none
    |false=>none
   |none=>none
  |none=>none
 |.buildSlice t m ⟨ps⟩=>match T.ty t with
  |some ⟨_,_,_,.sl e⟩=>match T.ty e with
   |some d=>match jE F ps with
    |some vs=>match iS d.size 0 vs with
     |some els=>match Nat.beq els.length m&&Nat.ble (m*d.size) 16777216&&Nat.ble m 16777216 with
      |true=>ey d.size λsz=>some (some (.sl nid),.new (.row e sz els))
      |false=>none
     |none=>none
    |none=>none
   |none=>none
  |_=>none
 |.makeSlice t x y=>match T.ty t with
  |some ⟨_,_,_,.sl e⟩=>match T.ty e with
   |some d=>match aF F x with
    |some (.int .i64 (.ofNat m))=>match aF F y with
     |some (.int .i64 (.ofNat m'))=>match Nat.beq m m'&&Nat.ble (d.bytes*m) 1000000&&Nat.ble m 1000000&&Nat.blt 0 d.size with
      |true=>listK (List.replicate m d.zero) λels=>ey d.size λsz=>some (some (.sl nid),.new (.row e sz els))
      |false=>none
     |_=>none
    |_=>none
   |none=>none
  |_=>none
 |.call ⟨.builtin .append,⟨[x,y]⟩,⟨[t,t']⟩⟩=>match T.frc&&Nat.beq t t' with
  |true =>match T.ty t with
   |some ⟨_,_,_,.sl e⟩=>match T.ty e with
    |some d=>match aF F y with
     |some v=>match uF h d.size v with
      |some news=>match aF F x with
       |some .nils=>match Nat.ble news.length 100000&&Nat.ble d.bytes 100000&&Nat.blt 0 d.size with
        |true=>ey d.size λsz=>some (some (.sl nid),.new (.row e sz news))
        |false=>none
       |some (.sl id)=>match h id with
        |.row e' sz els=>match Nat.beq e e'&&Nat.beq sz d.size&&Nat.ble (els.length+news.length) 100000&&Nat.ble d.bytes 100000&&Nat.blt 0 d.size with
         |true=>listK (els++news) λels=>some (some (.sl nid),.repl id (.row e sz els))
         |false=>none
        |_=>none
       |_=>none
      |none=>none
     |none=>none
    |none=>none
   |_=>none
  |false=>none
 |.slice t x none (some y) none=>match T.ty t with
  |some ⟨_,_,_,.sl e⟩=>match T.ty e with
   |some d=>match aF F x with
    |some (.sl id)=>match h id with
     |.row e' sz els=>match aF F y with
      |some (.int .i64 (.ofNat k))=>match Nat.beq e e'&&Nat.beq sz d.size&&Nat.ble k els.length with
       |true=>listK (els.take k) λels=>some (some (.sl nid),.repl id (.row e sz els))
       |false=>none
      |_=>none
     |_=>none
    |_=>none
   |none=>none
  |_=>none
 |_=>none
section
variable{P:Program}{T:Tab}{S:Nat→Prop}{w:World}{ρ:Nat→Option Value}{h:Nat→Ob}{a:Act}{n:Nat}{F:Fm}{ty:TypeId}
theorem lG(td:TdOk P t d)(hv:lQ d cs o=some v):(cS P t=true∧cs[o]?=some v)∨(jt P t=some d.size∧o+d.size≤cs.length∧v=.agg ((cs.drop o).take d.size)):=by
 unfold lQ at hv;split at hv
 ·rename_i q;split at hv
  ·rename_i G;obtain⟨E,hv⟩:=oL hv;rw[oN]at hv E;injection hv with hv;subst hv
   have J:0<d.size:=by simpa using G
   exact .inr ⟨td.ag q,by simp at E;omega,rfl⟩
  ·cases hv
 ·rename_i q;rw[kC]at hv;exact .inl ⟨td.sc q,hv⟩
theorem oT(h:v.one=true):v.cells=[v]:=by cases v<;>first|rfl|cases h
theorem xn(hr:HRel S w ρ h)(G:FRel S w ρ a n F){news:List V}(hy:aF F y=some v)(q:uF h sz v=some news):∃u,ao (fA a) y=some u∧nQ S w ρ sz news u:=by
 obtain⟨u,h1,h2⟩:=al G hy;refine⟨u,h1,?_⟩;unfold uF at q;split at q
 ·injection q with q;subst q;exact Bz h2
 ·split at q
  ·rename_i E;have :=Nat.eq_of_beq_eq_true E;subst this;injection q with q;subst q;exact Dl h2
  ·cases q
 ·split at q
  ·split at q
   ·rename_i J _ E;have :=Nat.eq_of_beq_eq_true E;subst this;injection q with q;subst q;exact DP hr J h2
   ·cases q
  ·cases q
 ·cases q
theorem qx (hT:TabOk P T) (hr:HRel S w ρ h) (hF:FRel S w ρ a n F) {nid:Nat} (hn:h nid=.free) {op:Op} {v:Option V} {ed:ED} (hv:jX T h F nid op=some (v,ed)):Does P S w ρ h a ty op v (ed.app h nid) ed.tch:=by
 have fr:=hF.fr;unfold jX at hv;split at hv
 ·split at hv
  ·split at hv
   ·rename_i d hd;split at hv
    ·rename_i ho;split at hv
     ·rename_i u hu;simp only[Option.some.injEq,Prod.mk.injEq]at hv;obtain⟨rfl,rfl⟩:=hv;rcases lG (hT.ty _ _ hd) hu with⟨h1,h2⟩|⟨h1,h2,rfl⟩
      ·exact EA hr fr (al hF ‹_›) ho h1 h2
      ·exact Dj hr fr (al hF ‹_›) ho h1 h2
     ·cases hv
    ·cases hv
   ·cases hv
  ·split at hv
   ·rename_i d hd;split at hv
    ·rename_i ho;split at hv
     ·rename_i hb;have :=Nat.eq_of_beq_eq_true hb;subst this;split at hv
      ·rename_i v0 hi;rw[kC]at hi;split at hv
       ·rename_i u hu;simp only[Option.some.injEq,Prod.mk.injEq]at hv;obtain⟨rfl,rfl⟩:=hv;rcases lG (hT.ty _ _ hd) hu with⟨h1,h2⟩|⟨h1,h2,rfl⟩
        ·exact wV hr fr (al hF ‹_›) ho h1 hi h2
        ·exact uJ hr fr (al hF ‹_›) ho h1 hi h2
       ·cases hv
      ·cases hv
     ·cases hv
    ·cases hv
   ·cases hv
  ·cases hv
 ·split at hv
  ·rename_i d hd;rw[bP]at hv;simp only[Option.some.injEq,Prod.mk.injEq]at hv;obtain⟨rfl,rfl⟩:=hv;obtain⟨z,h1,h2⟩:=(hT.ty _ _ hd).zeroT;exact DY hr hn h1 h2
  ·cases hv
 ·split at hv
  ·rw[bP]at hv;simp only[Option.some.injEq,Prod.mk.injEq]at hv;obtain⟨rfl,rfl⟩:=hv;exact Ga hr fr hn (al hF ‹_›)
  ·cases hv
 ·split at hv
  ·rename_i d hd;have hz:=(hT.ty _ _ hd).size;split at hv
   ·rename_i u hu;split at hv
    ·rename_i hb;simp only[Bool.and_eq_true,Nat.beq_eq]at hb;split at hv
     ·split at hv
      ·split at hv
       ·rename_i ho _ hle;rw[bP]at hv;simp only[Option.some.injEq,Prod.mk.injEq]at hv;obtain⟨rfl,rfl⟩:=hv;exact Dz hr fr (al hF ‹_›) (al hF hu) ho hz hb.1 hb.2 (Nat.le_of_ble_eq_true hle)
       ·cases hv
      ·cases hv
     ·split at hv
      ·rename_i ho;split at hv
       ·rename_i hq;have :=Nat.eq_of_beq_eq_true hq;subst this;split at hv
        ·rename_i v0 hi;rw[kC]at hi;split at hv
         ·rename_i hle;split at hv
          ·rename_i cs;rw[bP]at hv;simp only[Option.some.injEq,Prod.mk.injEq]at hv;obtain⟨rfl,rfl⟩:=hv;exact rI hr fr (al hF ‹_›) (al hF hu) ho hz hi hb.1 hb.2 (Nat.le_of_ble_eq_true hle) (.inl ⟨cs,rfl⟩)
          ·rename_i hna;split at hv
           ·rename_i h1;rw[bP]at hv;simp only[Option.some.injEq,Prod.mk.injEq]at hv;obtain⟨rfl,rfl⟩:=hv;refine rI hr fr (al hF ‹_›) (al hF hu) ho hz hi hb.1 hb.2 (Nat.le_of_ble_eq_true hle) (.inr ⟨?_,oT h1⟩);cases v0 with
            |agg cs=>exact absurd rfl (hna cs)
            |_=>rfl
           ·cases hv
         ·cases hv
        ·cases hv
       ·cases hv
      ·cases hv
     ·cases hv
    ·cases hv
   ·cases hv
  ·cases hv
 ·split at hv
  ·rename_i e ht;split at hv
   ·rename_i d hd;split at hv
    ·rename_i vs hps;split at hv
     ·rename_i els hrp;split at hv
      ·rename_i hb;simp only[Bool.and_eq_true,Nat.beq_eq]at hb;rw[cz]at hv;simp only[Option.some.injEq,Prod.mk.injEq]at hv;obtain⟨rfl,rfl⟩:=hv;obtain⟨ys,g1,g2⟩:=ma hF hps;obtain⟨z,h1,h2⟩:=(hT.ty _ _ hd).zeroT;exact Cg hr fr hn g1 g2 ((hT.ty _ _ ht).sl rfl) (hT.ty _ _ hd).size h1 hrp hb.1.1 hb.1.2 hb.2
      ·cases hv
     ·cases hv
    ·cases hv
   ·cases hv
  ·cases hv
 ·split at hv
  ·rename_i e ht;split at hv
   ·rename_i d hd;split at hv
    ·split at hv
     ·split at hv
      ·rename_i hb;simp only[Bool.and_eq_true,Nat.beq_eq,Nat.ble_eq,Nat.blt_eq]at hb;obtain⟨⟨⟨rfl,hb1⟩,hb2⟩,hb3⟩:=hb;rw[bP,cz]at hv;simp only[Option.some.injEq,Prod.mk.injEq]at hv;obtain⟨rfl,rfl⟩:=hv;obtain⟨z,h1,h2,h3,h4⟩:=(hT.ty _ _ hd).info;exact Ap hr fr hn (al hF ‹_›) (al hF ‹_›) ((hT.ty _ _ ht).sl rfl) h1 h3 hb3 h4 h2 (by omega) (by simp only[maxLen];omega)
      ·cases hv
     ·cases hv
    ·cases hv
   ·cases hv
  ·cases hv
 ·split at hv
  ·rename_i hb0;simp only[Bool.and_eq_true,Nat.beq_eq]at hb0;obtain⟨_,rfl⟩:=hb0;split at hv
   ·rename_i e ht;split at hv
    ·rename_i d hd;obtain⟨z,h1,h2,h3,h4⟩:=(hT.ty _ _ hd).info;split at hv
     ·rename_i u hu;split at hv
      ·rename_i news hs;obtain⟨y',g1,g2⟩:=xn hr hF hu hs;split at hv
       ·split at hv
        ·rename_i hb;simp only[Bool.and_eq_true,Nat.ble_eq,Nat.blt_eq]at hb;obtain⟨⟨hb1,hb2⟩,hb3⟩:=hb;rw[cz]at hv;simp only[Option.some.injEq,Prod.mk.injEq]at hv;obtain⟨rfl,rfl⟩:=hv;refine Ac hr fr hn g1 g2 ((hT.ty _ _ ht).sl rfl) h1 h3 hb3 (al hF ‹_›) (by simp only[maxLen];omega) ?_;exact Nat.le_trans (Nat.mul_le_mul hb1 hb2) (by decide)
        ·cases hv
       ·split at hv
        ·rename_i ho;split at hv
         ·rename_i hb;simp only[Bool.and_eq_true,Nat.ble_eq,Nat.blt_eq,Nat.beq_eq]at hb;obtain⟨⟨⟨⟨rfl,rfl⟩,hb1⟩,hb2⟩,hb3⟩:=hb;rw[bP]at hv;simp only[Option.some.injEq,Prod.mk.injEq]at hv;obtain⟨rfl,rfl⟩:=hv;refine vp hr fr hn g1 g2 ((hT.ty _ _ ht).sl rfl) h1 h3 hb3 (al hF ‹_›) ho (by simp only[maxLen];omega) ?_;exact Nat.le_trans (Nat.mul_le_mul hb1 hb2) (by decide)
         ·cases hv
        ·cases hv
       ·cases hv
      ·cases hv
     ·cases hv
    ·cases hv
   ·cases hv
  ·cases hv
 ·split at hv
  ·rename_i e ht;split at hv
   ·rename_i d hd;split at hv
    ·split at hv
     ·rename_i ho;split at hv
      ·split at hv
       ·rename_i hb;simp only[Bool.and_eq_true,Nat.ble_eq,Nat.beq_eq]at hb;obtain⟨⟨rfl,rfl⟩,hb1⟩:=hb;rw[bP]at hv;simp only[Option.some.injEq,Prod.mk.injEq]at hv;obtain⟨rfl,rfl⟩:=hv;exact xU hr fr hn (al hF ‹_›) (al hF ‹_›) ho ((hT.ty _ _ ht).sl rfl) (hT.ty _ _ hd).size hb1
       ·cases hv
      ·cases hv
     ·cases hv
    ·cases hv
   ·cases hv
  ·cases hv
 ·cases hv
def ED.ok(h:Nat→Ob):ED→Prop
 |.nop=>True
 |.new o=>True
 |.set id o=>h id≠.gone∧h id≠.free
 |.repl id o=>h id≠.gone∧h id≠.free
theorem nA{op:Op}{v:Option V}{ed:ED}(hv:jX T h F nid op=some (v,ed)):ed.ok h:=by
 unfold jX at hv
 repeat' (split at hv)
 all_goals first
  |(cases hv;done)
  |(simp only[bP,cz,Option.some.injEq,Prod.mk.injEq]at hv;obtain⟨_,rfl⟩:=hv;first|exact trivial|(constructor<;>simp_all))
end
section
variable{P:Program}{ops:Array Oper}{Q:Exit→Act→World→Prop}{B S:World→Prop}
def wpB(P:Program)(ops:Array Oper)(Q:Exit→Act→World→Prop)(B S:World→Prop)(m:Nat):Nat→Array Bool→Act→World→Prop
 |0,listed,a,w=>Region.ready .any ops listed=[]∧Q .normal a w
 |fuel+1,listed,a,w=>
  (Region.ready .any ops listed=[]→Q .normal a w)∧
  ∀i∈Region.ready .any ops listed,wpOp P ops Q i (λa' w'=>B w'∧(S w'∨(listed.setIfInBounds i true).getD m false=true)∧wpB P ops Q B S m fuel (listed.setIfInBounds i true) a' w') a w
theorem sP{m:Nat}:∀(fuel:Nat) (listed:Array Bool) (a:Act) (w:World),wpB P ops Q B S m fuel listed a w→wpAny P .any ops Q fuel listed a w
 |0,_,_,_,h=>h
 |fuel+1,_,_,_,h=>⟨h.1,λi hi=>wpOp_mono (λa' w' h'=>sP fuel _ a' w' h'.2.2) (h.2 i hi)⟩
theorem ry{B' S':World→Prop}{m:Nat}(q:∀w,B' w→B w)(E:∀w,B' w→S' w→S w):∀(fuel:Nat) (listed:Array Bool) (a:Act) (w:World),wpB P ops Q B' S' m fuel listed a w→wpB P ops Q B S m fuel listed a w
 |0,_,_,_,h=>h
 |fuel+1,_,_,_,h=>⟨h.1,λi hi=>wpOp_mono (λa' w' h'=>⟨q _ h'.1,h'.2.1.imp (E _ h'.1) id,ry q E fuel _ a' w' h'.2.2⟩) (h.2 i hi)⟩
theorem wpB_pure {m:Nat} {i:Nat} {oi:Oper} {v:Value} (him:i≠m) (hi:ops[i]?=some oi) (hsel:∀(j:Nat) (o:Oper) cs b,ops[j]?=some o→o.op≠.select cs b)
    (hQ:∀c a w,Q (.panic c) (a.put oi.dst v) w→Q (.panic c) a w):
    ∀ (fuel:Nat) (listed:Array Bool) (a:Act) (w:World),
      (∀j oj,ops[j]?=some oj→j≠i→listed.getD j true=false→(∀e∈oj.after,Region.binds .any e=true→e.on≠i)→oi.apart ops oj=true)→
      i∈Region.ready .any ops listed→YieldsIf P ops B oi v a→B w→(S w∨listed.getD m false=true)→
      wpB P ops Q B S m fuel (listed.setIfInBounds i true) (a.put oi.dst v) w→wpB P ops Q B S m (fuel+1) listed a w:=by
  intro fuel
  induction fuel with
  | zero=>
    intro listed a w _ hr hy hB hS H;refine⟨λh=>(by rw[h]at hr;cases hr),λj hj=>?_⟩;by_cases hji:j=i
    ·subst hji;exact hy.wpOp hi hB ⟨hB,hS.imp id fz,H⟩
    · have :=ready_mono hj hji;rw[H.1]at this;cases this
  | succ fuel ih=>
    intro listed a w hfree hr hy hB hS H;refine⟨λh=>(by rw[h]at hr;cases hr),λj hj=>?_⟩;by_cases hji:j=i
    ·subst hji;exact hy.wpOp hi hB ⟨hB,hS.imp id fz,H⟩
    · have h1:=H.2 j (ready_mono hj hji);obtain⟨hjun,oj,hoj,hall⟩:=mem_ready.1 hj;have hnot:=me (j:=j) hr hall;have h2:=wpOp_putIf hoj (hfree j oj hoj hji hjun hnot) (λcs b=>hsel i oi cs b hi) (λcs b=>hsel j oj cs b hoj) hQ hy h1;have hfree':∀k ok,ops[k]?=some ok→k≠i→(listed.setIfInBounds j true).getD k true=false→
          (∀e∈ok.after,Region.binds .any e=true→e.on≠i)→oi.apart ops ok=true:=λk ok hk hki hun hno=>by
        refine hfree k ok hk hki ?_ hno;by_cases hjk:j=k
        ·subst hjk;exact hjun
        ·rw[getD_set_ne true hjk]at hun;exact hun
      refine wpOp_mono (λa' w' h3=>?_) h2;have hS3:S w'∨(listed.setIfInBounds j true).getD m false=true:=h3.2.2.1.imp id λh=>by
        rw[Array.setIfInBounds_comm _ _ (λe=>hji e.symm),getD_set_ne false him]at h;exact h
      refine⟨h3.2.1,hS3,ih (listed.setIfInBounds j true) a' w' hfree' (ready_mono hr (Ne.symm hji)) h3.1 h3.2.1 hS3 ?_⟩;rw[Array.setIfInBounds_comm _ _ hji];exact h3.2.2.2
theorem Bk {m:Nat} {i:Nat} {oi:Oper} {v:Value} (him:i≠m) (hwt:ja .any ops m i=true) (hi:ops[i]?=some oi) (hsel:∀(j:Nat) (o:Oper) cs b,ops[j]?=some o→o.op≠.select cs b)
    (hQ:∀c a w,Q (.panic c) (a.put oi.dst v) w→Q (.panic c) a w):
    ∀ (fuel:Nat) (listed:Array Bool) (a:Act) (w:World),
      (∀j oj,ops[j]?=some oj→j≠i→listed.getD j true=false→(∀e∈oj.after,Region.binds .any e=true→e.on≠i)→oi.apart ops oj=true)→
      i∈Region.ready .any ops listed→YieldsIf P ops (λw=>B w∧S w) oi v a→B w→S w→listed.getD m false=false→
      wpB P ops Q B S m fuel (listed.setIfInBounds i true) (a.put oi.dst v) w→wpB P ops Q B S m (fuel+1) listed a w:=by
  intro fuel
  induction fuel with
  | zero=>
    intro listed a w _ hr hy hB hS _ H;refine⟨λh=>(by rw[h]at hr;cases hr),λj hj=>?_⟩;by_cases hji:j=i
    ·subst hji;exact hy.wpOp hi ⟨hB,hS⟩ ⟨hB,.inl hS,H⟩
    · have :=ready_mono hj hji;rw[H.1]at this;cases this
  | succ fuel ih=>
    intro listed a w hfree hr hy hB hS hlm H;refine⟨λh=>(by rw[h]at hr;cases hr),λj hj=>?_⟩;by_cases hji:j=i
    ·subst hji;exact hy.wpOp hi ⟨hB,hS⟩ ⟨hB,.inl hS,H⟩
    · have h1:=H.2 j (ready_mono hj hji);obtain⟨hjun,oj,hoj,hall⟩:=mem_ready.1 hj;have hnot:=me (j:=j) hr hall;have hjm:j≠m:=by
        rintro rfl;unfold ja at hwt;rw[hoj]at hwt;obtain⟨e,he,hb⟩:=Array.any_eq_true'.1 hwt;simp only[Bool.and_eq_true,beq_iff_eq]at hb;exact hnot e he hb.1 hb.2
      have h2:=wpOp_putIf hoj (hfree j oj hoj hji hjun hnot) (λcs b=>hsel i oi cs b hi) (λcs b=>hsel j oj cs b hoj) hQ hy h1;have hfree':∀k ok,ops[k]?=some ok→k≠i→(listed.setIfInBounds j true).getD k true=false→
          (∀e∈ok.after,Region.binds .any e=true→e.on≠i)→oi.apart ops ok=true:=λk ok hk hki hun hno=>by
        refine hfree k ok hk hki ?_ hno;by_cases hjk:j=k
        ·subst hjk;exact hjun
        ·rw[getD_set_ne true hjk]at hun;exact hun
      refine wpOp_mono (λa' w' h3=>?_) h2;have hlm':(listed.setIfInBounds j true).getD m false=false:=by rw[getD_set_ne false hjm];exact hlm
      have hS':S w':=by
        rcases h3.2.2.1 with h|h
        ·exact h
        · rw[Array.setIfInBounds_comm _ _ (λe=>hji e.symm),getD_set_ne false him,hlm']at h;cases h
      refine⟨h3.2.1,.inl hS',ih (listed.setIfInBounds j true) a' w' hfree' (ready_mono hr (Ne.symm hji)) h3.1 h3.2.1 hS' hlm' ?_⟩;rw[Array.setIfInBounds_comm _ _ hji];exact h3.2.2.2
end
inductive EI where
 |seq (c:Code)
 |blk (id:Nat)
 |loop (c:Code) (j:Nat)
 |scp
inductive EP where
 |code (c:Code)
 |ops (all:Array Oper) (rest:List Oper)
 |ex (e:Exit)
 |drw (all:Array Oper) (L:List Nat) (m left:Nat) (listed:Array Bool)
def cR(P:Program)(Q:Exit→Act→World→Prop):List EI→Exit→Act→World→Prop
 |[]=>Q
 |.seq c::s=>Exit.then (c.wp P (cR P Q s)) (cR P Q s)
 |.blk id::s=>Exit.inBlock id (cR P Q s)
 |.loop c j::s=>Exit.then (Code.rounds P c (cR P Q s) j) (cR P Q s)
 |.scp::s=>Exit.noGoto (cR P Q s)
def py:Value→Option Nat
 |.pointer (some a)=>some a.block
 |.slice (some a) _ _=>some a.block
 |_=>none
def Ls(ρ:Nat→Option Value)(L:List Nat)(w w':World):Prop:=∀id,id∈L→∀x b,ρ id=some x→py x=some b→w'.heap[b]?=w.heap[b]?
def EP.wp(P:Program)(Q:Exit→Act→World→Prop)(p:EP)(s:List EI)(S:Nat→Prop)(w:World)(ρ:Nat→Option Value)(a:Act):Prop:=
 match p with
 |.code c=>c.wp P (cR P Q s) a w
 |.ops all rest=>wpList P all (cR P Q s) rest a w
 |.ex e=>cR P Q s e a w
 |.drw all L m left listed=>Region.noSelect all=true→wpB P all (NoPanic (cR P Q s)) (Agree S w) (Ls ρ L w) m left listed a w
structure Hp where
 nx:Nat
 es:List (Nat×Ob)
def am:List (Nat×Ob)→Nat→Ob
 |[],_=>.gone
 |(i,o)::r,j=>match Nat.beq i j with
  |true=>o
  |false=>am r j
def Hp.get(H:Hp)(i:Nat):Ob:=match Nat.blt i H.nx with
 |true=>am H.es i
 |false=>.free
def yf{α:Type}(id:Nat)(o:Ob):List (Nat×Ob)→(List (Nat×Ob)→α)→α
 |[],c=>c []
 |(i,p)::r,c=>match Nat.beq i id with
  |true=>c ((i,o)::r)
  |false=>yf id o r λq=>c ((i,p)::q)
def sZ{α:Type}(id:Nat):List (Nat×Ob)→(List (Nat×Ob)→α)→α
 |[],c=>c []
 |(i,p)::r,c=>match Nat.beq i id with
  |true=>sZ id r c
  |false=>sZ id r λq=>c ((i,p)::q)
def Hp.ap(H:Hp)(e:ED)(c:Hp→α):α:=match e with
 |.nop=>c H
 |.new o=>ey H.nx λk=>ey (k+1) λn=>c ⟨n,(k,o)::H.es⟩
 |.set id o=>yf id o H.es λes=>ey H.nx λk=>c ⟨k,es⟩
 |.repl id o=>sZ id H.es λes=>ey H.nx λk=>ey (k+1) λn=>c ⟨n,(k,o)::es⟩
def ng(id:Nat)(o:Ob):List (Nat×Ob)→List (Nat×Ob)
 |[]=>[]
 |(i,p)::r=>match Nat.beq i id with
  |true=>(i,o)::r
  |false=>(i,p)::ng id o r
def lM(id:Nat):List (Nat×Ob)→List (Nat×Ob)
 |[]=>[]
 |(i,p)::r=>match Nat.beq i id with
  |true=>lM id r
  |false=>(i,p)::lM id r
theorem xv{α:Type}{id:Nat}{o:Ob}:∀(l:List (Nat×Ob)) (c:List (Nat×Ob)→α),yf id o l c=c (ng id o l)
 |[],c=>rfl
 |(i,p)::r,c=>by
  simp only[yf,ng];split
  ·rfl
  ·rw[xv r]
theorem qp{α:Type}{id:Nat}:∀(l:List (Nat×Ob)) (c:List (Nat×Ob)→α),sZ id l c=c (lM id l)
 |[],c=>rfl
 |(i,p)::r,c=>by
  simp only[sZ,lM];split
  ·rw[qp r]
  ·rw[qp r]
theorem nbF{a:Nat}(h:a≠b):Nat.beq a b=false:=by
 cases q:Nat.beq a b
 ·rfl
 ·exact absurd (Nat.eq_of_beq_eq_true q) h
theorem nbT(a:Nat):Nat.beq a a=true:=by simp
theorem nlT{a:Nat}(h:a<b):Nat.blt a b=true:=by simpa[Nat.blt_eq]using h
theorem qU{id i:Nat}{o:Ob}(hi:i≠id):∀{l:List (Nat×Ob)},am (ng id o l) i=am l i
 |[]=>rfl
 | (j,p)::r=>by
  simp only[ng];split
  ·rename_i hb;have e1:=Nat.eq_of_beq_eq_true hb;subst e1;simp only[am,nbF (Ne.symm hi)]
  ·simp only[am];rw[qU hi]
theorem pj{id:Nat}{o:Ob}:∀{l:List (Nat×Ob)},am l id≠.gone→am (ng id o l) id=o
 |[],h=>absurd rfl h
 | (j,p)::r,h=>by
  simp only[ng];split
  ·rename_i hb;simp only[am,hb]
  ·rename_i hb;simp only[am,hb]at h⊢;exact pj h
theorem lp{id i:Nat}:∀{l:List (Nat×Ob)},am (lM id l) i=if i=id then .gone else am l i
 |[]=>by simp[am,lM]
 | (j,p)::r=>by
  simp only[lM,am];split
  ·rename_i hb;have e1:=Nat.eq_of_beq_eq_true hb;subst e1;rw[lp];by_cases hi:i=j
   ·simp[hi]
   ·simp[hi,nbF (Ne.symm hi)]
  ·rename_i hb;have hne:=Nat.ne_of_beq_eq_false hb;simp only[am];split
   ·rename_i hb2;have e2:=Nat.eq_of_beq_eq_true hb2;subst e2;rw[if_neg hne]
   ·exact lp
def Hp.app(H:Hp):ED→Hp
 |.nop=>H
 |.new o=>⟨H.nx+1,(H.nx,o)::H.es⟩
 |.set id o=>⟨H.nx,ng id o H.es⟩
 |.repl id o=>⟨H.nx+1,(H.nx,o)::lM id H.es⟩
theorem Hp.ap_eq(H:Hp)(e:ED)(c:Hp→α):H.ap e c=c (H.app e):=by
 cases e<;>simp[Hp.ap,Hp.app,cz,xv,qp]
theorem Hp.get_free(H:Hp):H.get H.nx=.free:=by
 unfold Hp.get;have :Nat.blt H.nx H.nx=false:=by simp[Bool.eq_false_iff]
 rw[this]
theorem Hp.get_app{H:Hp}{e:ED}(he:e.ok H.get):(H.app e).get=e.app H.get H.nx:=by
 funext i
 cases e with
 |nop=>rfl
 | new o=>
  simp only[Hp.app,ED.app];by_cases hi:i=H.nx
  ·subst hi;rw[bi];simp only[Hp.get,am,nlT (Nat.lt_succ_self H.nx),nbT]
  ·rw[bN _ _ hi];have hb:Nat.beq H.nx i=false:=nbF (Ne.symm hi);have :Nat.blt i (H.nx+1)=Nat.blt i H.nx:=by rw[Bool.eq_iff_iff];simp[Nat.blt_eq];omega
   simp[Hp.get,am,hb,this]
 | set id o=>
  simp only[Hp.app,ED.app];have h1:am H.es id≠.gone:=by
   have :=he.1;unfold Hp.get at this;split at this
   ·exact this
   ·rename_i hc;exact absurd (by unfold Hp.get;rw[hc]) he.2
  by_cases hi:i=id
  ·subst hi;rw[bi];have h2:=he.2;unfold Hp.get at h2⊢;split at h2
   ·rename_i hc;simp only[hc];exact pj h1
   ·exact absurd rfl h2
  ·rw[bN _ _ hi];unfold Hp.get;simp only[];rw[qU hi]
 | repl id o=>
  simp only[Hp.app,ED.app];have hid:id<H.nx:=by
   have h2:=he.2;unfold Hp.get at h2;split at h2
   ·rename_i hc;simpa[Nat.blt_eq]using hc
   ·exact absurd rfl h2
  by_cases hi:i=H.nx
  ·subst hi;rw[bi];simp only[Hp.get,am,nlT (Nat.lt_succ_self H.nx),nbT]
  ·rw[bN _ _ hi];have hb:Nat.beq H.nx i=false:=nbF (Ne.symm hi);have hlt:Nat.blt i (H.nx+1)=Nat.blt i H.nx:=by rw[Bool.eq_iff_iff];simp[Nat.blt_eq];omega
   by_cases hii:i=id
   ·subst hii;rw[bi];have :Nat.blt i H.nx=true:=by simpa[Nat.blt_eq]using hid
    simp[Hp.get,am,hb,hlt,this,lp]
   ·rw[bN _ _ hii];simp[Hp.get,am,hb,hlt,lp,hii]
theorem wj(a b:List (Nat×Ob))(i:Nat):am (a++b) i=am a i∨(am a i=.gone∧am (a++b) i=am b i):=by
 induction a with
 |nil=>exact .inr ⟨rfl,rfl⟩
 |cons p r ih=>
  obtain⟨j,o⟩:=p;simp only[List.cons_append,am];split
  ·exact .inl rfl
  ·exact ih
end Go.Proofs.YtojjjmkmkbnieaaGreat
