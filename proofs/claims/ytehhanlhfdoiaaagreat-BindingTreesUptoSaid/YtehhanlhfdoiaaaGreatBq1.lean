/- Contracts of the functions that the law reaches, part 1. -/
import Derived.Test.YtehhanlhfdoiaaaGreatProg
import Derived.WalkKit
import Derived.WalkMore
import Derived.Lib.Hide
import Derived.Below
import Derived.Laws.OwnMore
import Derived.Deep.AppendLies
import Derived.Deep.Draws
import Derived.Maps.AppendAt
import Derived.OrdersHeld
import Derived.Deep.RegionHeld3
import Derived.Deep.LoopGhost
import Derived.Laws.MakeOwn
import Derived.LoopN
import Derived.Scope
import Derived.WalkLawsBesides
import Derived.WalkSpells
import Derived.Outline
import Derived.Deep.Light
import Derived.Lib.Bytealg
import Derived.Lib.Walk
import Derived.BigQuiet
import Derived.Deep.QuietTactic
import Derived.Laws.StructEq
import Derived.Maps.Keyed
import Derived.WideKeyRuns
import Derived.Laws.Pointers
import Derived.ChangeKeysEq
import Derived.Laws.BytesArg
import Derived.Laws.BitsLemmas
import Derived.Lib.Builder
import Derived.Lib.AppendStr
import Derived.Lib.UnsafeStr
import Derived.Laws.Externs
import Derived.RegionTactic
import Derived.Test.YtehhanlhfdoiaaaGreatRows
import Derived.ProofKit
import Derived.Deep.Slices
import Derived.Deep.Strs
import Derived.Lib.SmallJoins
import Derived.ChangeSlices
import Derived.OpenShut
import Derived.ShutString
import Derived.SizedLaws
import Derived.JoinedCond
import Derived.Deep.CondSized
set_option linter.unusedVariables false
set_option linter.unusedSimpArgs false
namespace Go.Proofs.YtehhanlhfdoiaaaGreat
open _root_.Go.Proofs.Tryz
open Go.RowKit
abbrev aaa:= @Bool.and_eq_true
abbrev aab:= @Option.some.injEq
abbrev aac:= @List.length_append
abbrev aad:= @List.length_cons
abbrev aae:= @List.length_nil
abbrev aaf:= @Nat.le_refl
abbrev aag:= @Nat.eq_of_beq_eq_true
abbrev aah:= @List.map_cons
abbrev aai:= @List.append_assoc
abbrev aaj:= @List.nil_append
abbrev aak:= @List.mem_cons
abbrev aal:= @List.mem_append
abbrev aam:= @List.drop_eq_getElem_cons
abbrev aan:= @List.length_map
abbrev aao:= @List.map_append
abbrev aap:= @Nat.le_trans
abbrev aaq:= @beq_iff_eq
abbrev aar:= @Nat.zero_le
abbrev aas:= @List.cons_append
abbrev aat:= @decide_eq_true_eq
abbrev aau:= @Nat.add_assoc
abbrev aav:= @List.map_nil
abbrev aaw:= @Nat.lt_of_lt_of_le
abbrev aax:= @List.length_take
abbrev aay:= @List.length_set
abbrev aaz:= @List.append_nil
abbrev aaA:= @List.getElem_of_mem
abbrev aaB:= @Bool.false_eq_true
abbrev aaC:= @List.length_drop
abbrev aaD:= @Nat.min_eq_left
theorem I{α:Sort _}{a:α}:a=a:=rfl
abbrev YB:=List UInt8
abbrev YN:=List Nat
abbrev YI:=List Int
structure Fr (a:Act) (n:Nat) (f:Nat->Option Value):Prop where
 size:a.tmps.size=n
 defers:a.defers=[]
 get:∀i v,f i=some v->a.tmps[i]?=some v
def up(f:Nat->Option Value)(d:Nat)(v:Value):Nat->Option Value:=λi=>match Nat.beq i d with|true=>some v|false=>f i
def tJ(f:Nat->Option Value)(ops:Array Oper)(j:Nat):Option Value:=((ops[j]?).bind (·.dst)).bind f
def pU(f:Nat->Option Value)(ops:Array Oper)(g:Option<|Nat×Bool):Bool:=
 match g with
 |none=>true
 |some (j,b)=>match tJ f ops j with
  |some (.bool c)=>c==b
  |_=>false
def xr(f:Nat->Option Value)(ops:Array Oper)(g:Option<|Nat×Bool):Bool:=
 match g with
 |none=>false
 |some (j,b)=>match tJ f ops j with
  |some (.bool c)=>c !=b
  |some (.tuple _)=>true
  |_=>false
def aE(f:Nat->Option Value):Operand->Option Value
 |.tmp t=>f t
 |.const v=>some v
 |.global g=>some<|.pointer<|some ⟨g,0,none⟩
 |.func g=>some<|.func (.func g) #[] #[]
variable{x:Operand}
variable{j:Nat}
section
variable{P:Program}{ops:Array Oper}{Q:Exit->Act->World->Prop}{a:Act}{w:World}{rest:List Oper}{n:Nat}{f:Nat->Option Value}
theorem Fr.eval(h:Fr a n f){v:Value}(hx:aE f x=some v):a.eval x=v:=by
 cases x with
 |tmp t=>
  have :=h.get t v hx;simp[Act.eval,Array.getD_eq_getD_getElem?,this]
 |const u=>simpa[aE,Act.eval]using hx
 |global g=>simpa[aE,Act.eval]using hx
 |func g=>simpa[aE,Act.eval]using hx
theorem Fr.put(h:Fr a n f){d:Nat}(G:Nat.blt d n=true)(v:Value):Fr (a.put (some d) v) n (up f d v):=by
 have E:d<n:=by simpa using G
 refine⟨by simp[Act.put,h.size],h.defers,λi u hi=>?_⟩;simp only[up]at hi;simp only[Act.put];split at hi
 ·rename_i hb;have :i=d:=aag hb;subst this;rw[Array.getElem?_setIfInBounds];simp[h.size,E];simpa using hi
 ·rename_i hb;have :¬i=d:=λe=>by subst e;simp at hb
  rw[Array.getElem?_setIfInBounds,if_neg λe=>this e.symm];exact h.get i u hi
theorem Fr.le(h:Fr a n f){g:Nat->Option Value}(E:∀i v,g i=some v->f i=some v):Fr a n g:=⟨h.size,h.defers,λi v hi=>h.get i v<|E i v hi⟩
theorem FO(h:Fr a n f){b:Bool}(E:tJ f ops j=some (.bool b)):yielded ops a.tmps j=some b:=by
 unfold tJ at E;unfold yielded;cases G:(ops[j]?).bind (·.dst)with
 |none=>rw[G]at E;cases E
 |some d=>
  rw[G]at E;have :=h.get d _ E;simp[this]
theorem IK(h:Fr a n f){vs:Array Value}(E:tJ f ops j=some (.tuple vs)):yielded ops a.tmps j=none:=by
 unfold tJ at E;unfold yielded;cases G:(ops[j]?).bind (·.dst)with
 |none=>rw[G]at E;cases E
 |some d=>
  rw[G]at E;have :=h.get d _ E;simp[this]
theorem sM(h:Fr a n f){o:Oper}(E:pU f ops o.guard=true):Region.wanted o (yielded ops a.tmps)=true:=by
 unfold Region.wanted;unfold pU at E;split at E
 ·rename_i G;rw[G]
 ·rename_i j b G;rw[G];split at E
  ·rename_i c J;show(yielded ops a.tmps j==some b)=true;rw[FO h J];simpa using E
  ·cases E
theorem zb(h:Fr a n f){o:Oper}(E:xr f ops o.guard=true):Region.wanted o (yielded ops a.tmps)=false:=by
 unfold Region.wanted;unfold xr at E;split at E
 ·cases E
 ·rename_i j b J;rw[J];split at E
  ·rename_i c G;show(yielded ops a.tmps j==some b)=false;rw[FO h G];cases c<;>cases b<;>first|rfl|cases E
  ·rename_i vs G;show(yielded ops a.tmps j==some b)=false;rw[IK h G];rfl
  ·cases E
variable{d:Nat}{ty:TypeId}{ps:String}{af:Array Edge}{g:Option (Nat×Bool)}
end
def Ext(w w':World):Prop:=Below w.heap.size w w'
variable{p:Addr}
variable{k:Nat}
section
variable{w w1 w2:World}
theorem Ext.refl(w:World):Ext w w:=Below.refl _ _
theorem Ext.size(h:Ext w w1):w.heap.size<=w1.heap.size:=Below.size h
theorem Ext.trans(h:Ext w w1)(k:Ext w1 w2):Ext w w2:=Below.trans h<|Below.mono k h.size
theorem Ext.drew(h:Ext w w1):Ext w w1.drew:=Below.drew h
theorem Ext.drewN(h:Ext w w1)(n:Nat):Ext w (w1.drewN n):=
 have h':Below w.heap.size w w1:=h
 ⟨h'.os,h'.tape,h'.output,h'.size,h'.block⟩
theorem Ext.alloc(h:Ext w w1)(o:Obj):Ext w (w1.alloc o):=Below.alloc h h.size o
theorem Ext.setCell(h:Ext w w1)(hp:w.heap.size<=p.block)(u:Value):Ext w (w1.setCell p u):=Below.setCell h hp u
theorem Ext.grown(h:Ext w w1){row:Option Nat}(E:w1.grownBy w2 row)(hr:∀k,row=some k->w.heap.size<=k):Ext w w2:=Below.grown h E h.size hr
theorem Ext.cell(h:Ext w w1)(hp:p.block<w.heap.size):w1.cell? p=w.cell? p:=Below.cell h hp
theorem Ext.frozen(h:Ext w w1)(hp:p.block<w.heap.size):w1.frozen? p=w.frozen? p:=Below.frozen h hp
theorem Ext.block(h:Ext w w1)(E:k<w.heap.size):w1.heap[k]?=w.heap[k]?:=Below.block h k E
end
def Row(w:World)(size:Nat)(A:Option Addr)(n:Nat)(xs:List Value):Prop:=
 xs.length=n*size∧(0<n->∃b off,A=some ⟨b,off,none⟩∧b<w.heap.size∧∀j,j<n*size->w.cell? ⟨b,off+j,none⟩=xs[j]?)
variable{base:Nat}{e:TypeId}
section
variable{w w':World}{size n:Nat}{A:Option Addr}{xs:List Value}
theorem Row.none_:Row w size A 0 []:=⟨by simp,λh=>absurd h<|by omega⟩
theorem Row.of_own{c:Nat}(h:w.ownsRow base e size (.slice A n c) n xs):Row w size A n xs:=by
 refine⟨h.1,λhn=>?_⟩;obtain⟨g,cap,hv,_,G⟩:=h.form hn;have J:A=some ⟨g,0,none⟩:=by injection hv
 subst J;refine⟨g,0,I,G,λj O=>?_⟩;have E:j<xs.length:=by rw[h.1];exact O
 have :=h.cells (g:=g) rfl j xs[j]<|List.getElem?_eq_getElem E;rw[List.getElem?_eq_getElem E,Nat.zero_add,<-this];unfold Addr.add;split<;>simp_all
end
variable{n:Nat}{xs:List Value}
theorem Ju{w:World}{size:Nat}{v:Value}(h:w.ownsRow base e size v n xs):∃A c,v=.slice A n c∧n<=c∧c<=maxLen:=by
 rcases h.2 with⟨rfl,rfl⟩|⟨g,cap,cur,rfl,_,_,E,G,_,_⟩
 ·exact⟨none,0,I,aaf _,aar _⟩
 ·exact⟨_,cap,I,E,G⟩
theorem OZ{w w':World}{size:Nat}{v:Value}(h:w.ownsRow base e size v n xs)(O:Ext w w'):w'.ownsRow base e size v n xs:=by
 refine⟨h.1,?_⟩;rcases h.2 with U|⟨g,cap,cur,rfl,hb,G,Z⟩
 ·exact .inl U
 ·refine .inr ⟨g,cap,cur,I,hb,?_,Z⟩;have E:g<w.heap.size:=by
   rcases Nat.lt_or_ge g w.heap.size with E|J
   ·exact E
   ·rw[Array.getElem?_eq_none J]at G;cases G
  rw[O.block E,G]
variable{P:Program}{t:TypeId}{b:Nat}
theorem vc{z:Value}{s:Nat}(h:(P.info? t).map (λi=>(i.zero,i.size,i.bytes))=some (some z,s,b)):∃i,P.info? t=some i∧i.zero=some z∧i.size=s∧i.bytes=b:=by obtain⟨E,hi,hx⟩:=Option.map_eq_some_iff.1 h;simp only[Prod.mk.injEq]at hx;exact⟨E,hi,hx.1,hx.2.1,hx.2.2⟩
structure Chg (X:List Nat) (w w':World):Prop where
 os:w'.os=w.os
 tape:w'.tape=w.tape
 output:w'.output=w.output
 size:w.heap.size<=w'.heap.size
 block:∀k,k<w.heap.size->k∉X->w'.heap[k]?=w.heap[k]?
section
variable{X Y:YN}{w w1 w2:World}
theorem Chg.refl(X:YN)(w:World):Chg X w w:=⟨rfl,rfl,rfl,aaf _,λ_ _ _=>rfl⟩
theorem Chg.trans(h:Chg X w w1)(k:Chg Y w1 w2)(G:∀b,b∈Y->b∈X∨w.heap.size<=b):Chg X w w2:=
 ⟨k.os.trans h.os,k.tape.trans h.tape,k.output.trans h.output,aap h.size k.size,λb hb E=>by
  rw[k.block b (aaw hb h.size) (λJ=>by rcases G b J with h1|h1;exact E h1;omega),h.block b hb E]⟩
theorem Chg.of_ext(h:Ext w w1)(X:YN):Chg X w w1:=
 have h':Below w.heap.size w w1:=h
 ⟨h'.os,h'.tape,h'.output,h'.size,λb hb _=>h'.block b hb⟩
theorem Chg.ext(h:Chg [] w w1):Ext w w1:=(⟨h.os,h.tape,h.output,h.size,λb hb=>h.block b hb<|by simp⟩:Below w.heap.size w w1)
theorem Chg.alloc(w:World)(o:Obj):Chg [] w (w.alloc o):=Chg.of_ext ((Ext.refl w).alloc o) []
theorem Chg.drew(w:World):Chg [] w {w with drawn:=w.drawn+1}:=⟨rfl,rfl,rfl,aaf _,λ_ _ _=>rfl⟩
theorem Chg.set(w:World)(b o:Nat)(v:Value):Chg [b] w (w.setCell ⟨b,o,none⟩ v):=
 ⟨rfl,rfl,rfl,by simp[World.setCell],λk G E=>Below.heap_setCell w ⟨b,o,none⟩ v k<|by simpa using E⟩
theorem Chg.grown{row:Option Nat}(h:w.grownBy w1 row):Chg row.toList w w1:=
 ⟨h.os,h.tape,h.output,h.size,λk E G=>h.block k E λe=>G (by rw[<-e];simp)⟩
def Blk(w:World)(b:Nat)(t:TypeId)(cs:List Value):Prop:=w.heap[b]?=some (.cells cs.toArray t (0,0))
variable{b:Nat}{t:TypeId}{cs:List Value}
theorem Blk.lt(h:Blk w b t cs):b<w.heap.size:=by
 rcases Nat.lt_or_ge b w.heap.size with E|G
 ·exact E
 ·unfold Blk at h;rw[Array.getElem?_eq_none G]at h;cases h
theorem Blk.cell(h:Blk w b t cs)(i:Nat):w.cell? ⟨b,i,none⟩=cs[i]?:=by unfold Blk at h;simp[World.cell?,h]
theorem Blk.frozen(h:Blk w b t cs)(i:Nat):w.frozen? ⟨b,i,none⟩=false:=by unfold Blk at h;simp[World.frozen?,h]
theorem Blk.chg(h:Blk w b t cs)(hx:Chg X w w1)(hb:b∉X):Blk w1 b t cs:=(hx.block b h.lt hb).trans h
theorem Blk.new(w:World)(t:TypeId)(cs:List Value):Blk (w.alloc<|.cells cs.toArray t) w.heap.size t cs:=heap_alloc_new w _
theorem Blk.set(h:Blk w b t cs)(i:Nat)(u:Value):Blk (w.setCell ⟨b,i,none⟩ u) b t (cs.set i u):=by unfold Blk at h⊢;simp[World.setCell,Array.getElem?_modify,h]
end
def Runs(P:Program)(a:Act)(ty:TypeId)(op:Op)(w:World)(x:Next)(w':World):Prop:=∀d ps af g,(execOp a.eval ⟨d,op,ty,ps,af,g⟩).run P w=.ok x w'
def upo(f:Nat->Option Value)(d:Option Tmp)(v:Value):Nat->Option Value:=match d with|some d=>up f d v|none=>f
def pZ(d:Option Tmp)(n:Nat):Bool:=match d with|some d=>Nat.blt d n|none=>true
def sE(f:Nat->Option Value):List Operand->Option (List Value)
 |[]=>some []
 |x::r=>match aE f x with
  |some v=>match sE f r with
   |some vs=>some<|v::vs
   |none=>none
  |none=>none
def eL(f:Nat->Option Value):List (Nat×Operand)->Option (List<|Nat×Value)
 |[]=>some []
 |(i,x)::r=>match aE f x with
  |some v=>match eL f r with
   |some vs=>some<|(i,v)::vs
   |none=>none
  |none=>none
variable{y:Operand}
variable{u:TypeId}
variable{A:Option Addr}{m:Nat}
variable{i:Nat}
variable{o:Nat}
variable{sz:Nat}
variable{ps:List (Nat×Operand)}
variable{tb:TypeId}
variable{vs:List Value}
section
variable{P:Program}{ops:Array Oper}{Q:Exit->Act->World->Prop}{a:Act}{w w':World}{rest:List Oper}{n:Nat}{f:Nat->Option Value}{ty:TypeId}
theorem Fr.puto(h:Fr a n f){d:Option Tmp}(E:pZ d n=true)(v:Value):Fr (a.put d v) n (upo f d v):=by
 cases d with
 |none=>exact h
 |some d=>exact h.put E v
theorem Fr.vals(h:Fr a n f):∀{l:List Operand} {vs:List Value},sE f l=some vs->l.map a.eval=vs
 |[],vs,e=>by simp[sE]at e;simp[e]
 | x::r,vs,e=>by
  simp only[sE]at e;split at e
  ·rename_i v hv;split at e
   ·rename_i us hu;have :=h.vals hu;simp only[aab]at e;rw[aah,h.eval hv,this,e]
   ·cases e
  ·cases e
theorem Fr.parts(h:Fr a n f):∀{l:List<|Nat×Operand} {vs:List<|Nat×Value},eL f l=some vs->l.map (λp=>(p.1,a.eval p.2))=vs
 |[],vs,e=>by simp[eL]at e;simp[e]
 | (i,x)::r,vs,e=>by
  simp only[eL]at e;split at e
  ·rename_i v hv;split at e
   ·rename_i us hu;have :=h.parts hu;simp only[aab]at e;rw[aah,h.eval hv,this,e]
   ·cases e
  ·cases e
theorem rr(b o j:Nat):(⟨b,o,none⟩:Addr).add j=⟨b,o+j,none⟩:=by unfold Addr.add;split<;>simp_all
theorem GD{v:Value}(h:Fr a n f)(hx:aE f x=some v):Runs P a ty (.move x) w (.value v) w:=λ_ _ _ _=>by rw[<-h.eval hx];rfl
theorem CV{v:Value}(h:Fr a n f)(hx:aE f x=some v):Runs P a ty (.assign x) w (.value v) w:=λ_ _ _ _=>by rw[<-h.eval hx];rfl
theorem Ej{c:Operand}{v:Value}(h:Fr a n f)(E:aE f c=some (.bool true))(hx:aE f x=some v):Runs P a ty (.pick c x y) w (.value v) w:=λ_ _ _ _=>by simp[execOp,h.eval E,h.eval hx,asBool]
theorem EG{c:Operand}{v:Value}(h:Fr a n f)(E:aE f c=some (.bool false))(hy:aE f y=some v):Runs P a ty (.pick c x y) w (.value v) w:=λ_ _ _ _=>by simp[execOp,h.eval E,h.eval hy,asBool]
theorem Ll{b c:Bool}(h:Fr a n f)(hx:aE f x=some (.bool b))(E:(!b)=c):Runs P a ty (.unOp .not t x) w (.value<|.bool c) w:=λ_ _ _ _=>by subst E;simp only[execOp,h.eval hx];simp[go_sem]
section
variable{t u:TypeId}{x y:Operand}{k1:IntKind}{m l:Int}{c:Bool}
theorem Kb(h:Fr a n f)(hx:aE f x=some (.int k1 m))(hy:aE f y=some (.int k1 l))(E:(m==l)=c):Runs P a ty (.binOp .eql t x y u) w (.value<|.bool c) w:=λ_ _ _ _=>by subst E;simp only[execOp,h.eval hx,h.eval hy];simp[go_sem,eqGuard]
theorem Ke(h:Fr a n f)(hx:aE f x=some (.int k1 m))(hy:aE f y=some (.int k1 l))(E:(m !=l)=c):Runs P a ty (.binOp .neq t x y u) w (.value<|.bool c) w:=λ_ _ _ _=>by subst E;simp only[execOp,h.eval hx,h.eval hy];simp[go_sem,eqGuard]
theorem Eo(h:Fr a n f)(hx:aE f x=some (.int k1 m))(hy:aE f y=some (.int k1 l))(E:decide (m<l)=c):Runs P a ty (.binOp .lss t x y u) w (.value<|.bool c) w:=λ_ _ _ _=>by subst E;simp only[execOp,h.eval hx,h.eval hy];simp[go_sem,eqGuard]
theorem Qj(h:Fr a n f)(hx:aE f x=some (.int k1 m))(hy:aE f y=some (.int k1 l))(E:decide (m<=l)=c):Runs P a ty (.binOp .leq t x y u) w (.value<|.bool c) w:=λ_ _ _ _=>by subst E;simp only[execOp,h.eval hx,h.eval hy];simp[go_sem,eqGuard]
theorem QI(h:Fr a n f)(hx:aE f x=some (.int k1 m))(hy:aE f y=some (.int k1 l))(E:decide (l<m)=c):Runs P a ty (.binOp .gtr t x y u) w (.value<|.bool c) w:=λ_ _ _ _=>by subst E;simp only[execOp,h.eval hx,h.eval hy];simp[go_sem,eqGuard]
theorem QT(h:Fr a n f)(hx:aE f x=some (.int k1 m))(hy:aE f y=some (.int k1 l))(E:decide (l<=m)=c):Runs P a ty (.binOp .geq t x y u) w (.value<|.bool c) w:=λ_ _ _ _=>by subst E;simp only[execOp,h.eval hx,h.eval hy];simp[go_sem,eqGuard]
theorem OU{r:Int}(h:Fr a n f)(hx:aE f x=some (.int .i64 m))(hy:aE f y=some (.int .i64 l))(hr:m+l=r)(h1:-9223372036854775808<=r∧r<=9223372036854775807):Runs P a ty (.binOp .add t x y u) w (.value<|.int .i64 r) w:=λ_ _ _ _=>by have e:IntKind.i64.wrap r=r:=IntWalk.i64_in _ (by omega);subst hr;simp only[execOp,h.eval hx,h.eval hy];simp[go_sem,eqGuard,e]
end
theorem Qa{m l c:Bool}(ht:P.underlying t=some .bool)(h:Fr a n f)(hx:aE f x=some (.bool m))(hy:aE f y=some (.bool l))(E:(m==l)=c):Runs P a ty (.binOp .eql t x y u) w (.value<|.bool c) w:=λ_ _ _ _=>by subst E;simp only[execOp,h.eval hx,h.eval hy];simp[go_sem,eqGuard,ht]
section
variable{t u:TypeId}{x y:Operand}{m l:YB}{c:Bool}
theorem QG(h:Fr a n f)(hx:aE f x=some (.string ⟨m.toArray⟩))(hy:aE f y=some (.string ⟨l.toArray⟩))(E:(m==l)=c):Runs P a ty (.binOp .eql t x y u) w (.value<|.bool c) w:=λ_ _ _ _=>by subst E;simp only[execOp,h.eval hx,h.eval hy];simp[go_sem,eqGuard]
theorem Qs(h:Fr a n f)(hx:aE f x=some (.string ⟨m.toArray⟩))(hy:aE f y=some (.string ⟨l.toArray⟩))(E:(m !=l)=c):Runs P a ty (.binOp .neq t x y u) w (.value<|.bool c) w:=λ_ _ _ _=>by subst E;simp only[execOp,h.eval hx,h.eval hy];simp[go_sem,eqGuard,bne]
theorem NY(h:Fr a n f)(ht:P.underlying t=some .string)(hx:aE f x=some (.string ⟨m.toArray⟩)):Runs P a ty (.call {callee:=.builtin .len,args:=#[x],argTypes:=#[t]}) w (.value<|.int .i64 m.length) w:=λ_ _ _ _=>by simp only[execOp,resolve,List.map_toArray,aah,aav,h.eval hx];simp[go_sem,resolve,invoke,builtin,ht]
end
theorem vZ{c:Nat}(h:Fr a n f)(ht:P.underlying t=some (.slice e))(hx:aE f x=some (.slice A m c)):Runs P a ty (.call {callee:=.builtin .len,args:=#[x],argTypes:=#[t]}) w (.value<|.int .i64 m) w:=λ_ _ _ _=>by simp only[execOp,resolve,List.map_toArray,aah,aav,h.eval hx];simp[go_sem,resolve,invoke,builtin,ht]
theorem Bo(h:Fr a n f)(hx:aE f x=some (.pointer<|some p)):Runs P a ty (.nilCheck x) w (.value<|.pointer<|some p) w:=λ_ _ _ _=>by simp only[execOp,h.eval hx];rfl
theorem BG{vs:Array Value}{v:Value}(h:Fr a n f)(hx:aE f x=some (.tuple vs))(hi:vs[i]?=some v):Runs P a ty (.extract x i) w (.value v) w:=λ_ _ _ _=>by simp only[execOp,h.eval hx];simp[Instr.extract,hi]
theorem Jg{v:Value}(h:Fr a n f)(hx:aE f x=some (.pointer<|some ⟨b,o,none⟩))(hv:∀w,(Instr.fieldAt t (.pointer<|some ⟨b,o,none⟩) i).run P w=.ok v w):Runs P a ty (.fieldAddr t x i) w (.value v) w:=λ_ _ _ _=>by simp only[execOp,h.eval hx];simp[hv]
theorem Eh{cs:Array Value}{v:Value}(h:Fr a n f)(hx:aE f x=some (.agg cs))(hv:∀w,(Instr.field t (.agg cs) i).run P w=.ok v w):Runs P a ty (.field t x i) w (.value v) w:=λ_ _ _ _=>by simp only[execOp,h.eval hx];simp[hv]
theorem rj{c r:Nat}{i:Int}{k:Nat}(h:Fr a n f)(ht:P.underlying t=some (.slice e))(hz:(P.info? e).map (·.size)=some sz)(hx:aE f x=some (.slice (some ⟨b,o,none⟩) m c))(hy:aE f y=some (.int .i64 i))
  (G:i=(k:Int)) (E:k<m) (hr:o+k*sz=r):Runs P a ty (.indexAddr t x y) w (.value<|.pointer<|some ⟨b,r,none⟩) w:=λ_ _ _ _=>by
 obtain⟨J,hi,hs⟩:=Option.map_eq_some_iff.1 hz;subst G hs hr;simp only[execOp,h.eval hx,h.eval hy];simp[Instr.indexAt,asIntOf,run_underlying ht,sizeOf,typeInfo,hi,E,rr]
theorem DV{vs:List<|Nat×Value}{v:Value}(h:Fr a n f)(hx:eL f ps=some vs)(hv:∀w,(Instr.build t vs.toArray).run P w=.ok v w):Runs P a ty (.build t ps.toArray) w (.value v) w:=λ_ _ _ _=>by
 have e:(ps.toArray.map λ(i,x)=>(i,a.eval x))=vs.toArray:=by rw[<-h.parts hx];simp
 simp only[execOp];rw[e];simp[hv]
def cU(P:Program)(t:TypeId):Bool:=match P.underlying t with
 |some (.struct _)=>false
 |some (.array _ _)=>false
 |some _=>true
 |none=>false
def nW(P:Program)(t:TypeId):Option Nat:=match P.underlying t with
 |some (.struct _)=>(P.info? t).map (·.size)
 |some (.array _ _)=>(P.info? t).map (·.size)
 |_=>none
def dm(P:Program)(t:TypeId):Option Nat:=(P.info? t).map (·.size)
def nb(P:Program)(t:TypeId):Option (List Value):=((P.info? t).bind (·.zero)).map (·.cells.toList)
theorem Cv{v:Value}(ht:cU P t=true)(G:w.cell? p=some v):(Instr.loadAt t<|.pointer<|some p).run P w=.ok v w:=by
 unfold cU at ht;cases E:P.underlying t with
 |none=>rw[E]at ht;cases ht
 |some d=>
  rw[E]at ht;cases d<;>first|(simp[Instr.loadAt,Instr.sureAddr,loadVar,isAgg,run_underlying E,G];done)|cases ht
theorem xU(b:Nat):∀(m i o:Nat) (acc:List Value) (cs:List Value),cs.length=m->(∀j,j<m->w.cell? ⟨b,o+i+j,none⟩=cs[j]?)->(loadCellsFrom ⟨b,o,none⟩ i m acc.toArray).run P w=.ok (acc++cs).toArray w
 |0,i,o,acc,cs,hl,hc=>by have :cs=[]:=List.eq_nil_of_length_eq_zero hl;subst this;simp[loadCellsFrom]
 | m+1,i,o,acc,cs,hl,hc=>by
  cases cs with
  |nil=>cases hl
  |cons c r=>
   have h0:=hc 0 (by omega);simp only[Nat.add_zero,List.getElem?_cons_zero]at h0;have ih:=xU b m (i+1) o (acc++[c]) r (by simpa using hl) (λj hj=>by have :=hc (j+1) (by omega);simpa[aau,Nat.add_comm 1 j]using this);have ha:(⟨b,o,none⟩:Addr).add i=⟨b,o+i,none⟩:=by unfold Addr.add;split<;>simp_all
   simp only[loadCellsFrom,ha];simp[go_sem,h0];simpa using ih
theorem yU{cs:List Value}(ht:nW P t=some m)(J:cs.length=m)(O:∀j,j<m->w.cell? ⟨b,o+j,none⟩=cs[j]?):(Instr.loadAt t<|.pointer<|some ⟨b,o,none⟩).run P w=.ok (.agg cs.toArray) w:=by
 have G:(isAgg t).run P w=.ok true w∧(sizeOf t).run P w=.ok m w:=by
  unfold nW at ht;cases E:P.underlying t with
  |none=>rw[E]at ht;cases ht
  |some d=>
   rw[E]at ht;cases d<;>first|cases ht|(obtain⟨i,hi,hs⟩:=Option.map_eq_some_iff.1 ht;simp[isAgg,run_underlying E,sizeOf,typeInfo,hi,hs])
 have U:=xU (P:=P) (w:=w) b m 0 o [] cs J (by simpa using O);simp only[Instr.loadAt,Instr.sureAddr,loadVar,loadCells];simp[G.1,G.2,U]
theorem ex_load{v:Value}(h:Fr a n f)(hx:aE f x=some (.pointer<|some p))(ht:cU P t=true)(E:w.cell? p=some v):Runs P a ty (.load t x) w (.value v) w:=λ_ _ _ _=>by simp only[execOp,h.eval hx];simp[Cv ht E]
theorem Md{cs:List Value}{v:Value}(h:Fr a n f)(hx:aE f x=some (.pointer<|some ⟨b,o,none⟩))(ht:cU P t=true)(hb:Blk w b tb cs)(hv:cs[o]?=some v):Runs P a ty (.load t x) w (.value v) w:=
 ex_load h hx ht (by rw[hb.cell,hv])
theorem ex_loadN{cs:List Value}(h:Fr a n f)(hx:aE f x=some (.pointer<|some ⟨b,o,none⟩))(ht:nW P t=some m)(E:cs.length=m)(G:∀j,j<m->w.cell? ⟨b,o+j,none⟩=cs[j]?):Runs P a ty (.load t x) w (.value<|.agg cs.toArray) w:=λ_ _ _ _=>by simp only[execOp,h.eval hx];simp[yU ht E G]
theorem Df{cs:List Value}(h:Fr a n f)(hx:aE f x=some (.pointer<|some ⟨b,0,none⟩))(ht:nW P t=some m)(hb:Blk w b tb cs)(E:cs.length=m):Runs P a ty (.load t x) w (.value<|.agg cs.toArray) w:=
 ex_loadN h hx ht E (λj G=>by rw[hb.cell];simp)
theorem pg{v:Value}(h:v.oneCell'=true):v.cells=#[v]:=by cases v<;>first|rfl|cases h
theorem FH(cs:List Value)(hz:nb P t=some cs)(a:Act)(w:World)(ty:TypeId):∃w' b,Runs P a ty (.alloc t) w (.value<|.pointer<|some ⟨b,0,none⟩) w'∧Blk w' b t cs∧Chg [] w w'∧b=w.heap.size∧b<w'.heap.size:=by
 refine⟨w.alloc<|.cells cs.toArray t,w.heap.size,λ_ _ _ _=>?_,Blk.new w t cs,Chg.alloc _ _,rfl,by simp⟩;unfold nb at hz;obtain⟨z,E,G⟩:=Option.map_eq_some_iff.1 hz;obtain⟨i,hi,J⟩:=Option.bind_eq_some_iff.1 E;have e:z.cells=cs.toArray:=by rw[<-G]
 simp[execOp,Instr.alloc,zeroValue,typeInfo,hi,J,newVar,newRow,e]
theorem JR{v:Value}{cs:List Value}(h:Fr a n f)(hx:aE f x=some v)(hv:v.cells=cs.toArray)(w:World)(ty:TypeId):∃w' b,Runs P a ty (.box t x) w (.value<|.pointer<|some ⟨b,0,none⟩) w'∧Blk w' b t cs∧Chg [] w w'∧b=w.heap.size∧b<w'.heap.size:=by
 refine⟨w.alloc<|.cells cs.toArray t,w.heap.size,λ_ _ _ _=>?_,Blk.new w t cs,Chg.alloc _ _,rfl,by simp⟩;simp only[execOp,h.eval hx];simp[Instr.box,newVar,newRow,hv]
theorem LC{v:Value}{cs:List Value}(h:Fr a n f)(hx:aE f x=some (.pointer<|some ⟨b,o,none⟩))(hy:aE f y=some v)(hz:dm P t=some 1)(h1:v.oneCell'=true)(hb:Blk w b tb cs)(ho:o<cs.length)(ty:TypeId):
  ∃w',Runs P a ty (.store t x y) w .skip w'∧Blk w' b tb (cs.set o v)∧Chg [b] w w':=by
 refine⟨w.setCell ⟨b,o,none⟩ v,λ_ _ _ _=>?_,hb.set o v,Chg.set w b o v⟩;obtain⟨i,hi,hs⟩:=Option.map_eq_some_iff.1 (show(P.info? t).map (·.size)=some 1 from hz);have J:w.cell? ⟨b,o,none⟩=some cs[o]:=by rw[hb.cell];simp[ho]
 have E:=hb.frozen o;have O:(⟨b,o,none⟩:Addr).add 0=⟨b,o,none⟩:=by unfold Addr.add;split<;>simp_all
 simp only[execOp,h.eval hx,h.eval hy];have hv:v.cells=#[v]:=pg h1;have G:=run_store P w ⟨b,o,none⟩ v .plain h1;simp[Instr.storeAt,Instr.sureAddr,storeVar,sizeOf,typeInfo,hi,hs,hv,storeCells,O,G,stored,J,E]
theorem KL{cs:List Value}(h:Fr a n f)(hx:aE f x=some (.pointer<|some ⟨b,0,none⟩))(hy:aE f y=some (.agg vs.toArray))(hz:dm P t=some m)(hv:vs.length=m)(hone:vs.all (·.oneCell')=true)(hb:Blk w b tb cs)(hm:cs.length=m)(ty:TypeId):
  ∃w',Runs P a ty (.store t x y) w .skip w'∧Blk w' b tb vs∧Chg [b] w w':=by
 obtain⟨i,hi,hs⟩:=Option.map_eq_some_iff.1 (show(P.info? t).map (·.size)=some m from hz);have key:∀(l:List Value) (j:Nat) (w:World) (cs:List Value),Blk w b tb cs->j+l.length=cs.length->l.all (·.oneCell')=true->∃w',(storeCells ⟨b,0,none⟩ l j).run P w=.ok () w'∧Blk w' b tb (cs.take j++l)∧Chg [b] w w':=by
  intro l
  induction l with
  |nil=>intro j w cs hb hj _;exact⟨w,by simp[storeCells],by simp at hj;subst hj;simpa using hb,Chg.refl _ _⟩
  | cons c r ih=>
   intro j w cs hb hj hone;simp only[List.all_cons,aaa]at hone;simp only[aad]at hj;have ho:j<cs.length:=by omega
   have hc:w.cell? ⟨b,j,none⟩=some cs[j]:=by rw[hb.cell];simp[ho]
   have hfz:=hb.frozen j;have ha:(⟨b,0,none⟩:Addr).add j=⟨b,j,none⟩:=by unfold Addr.add;split<;>simp_all
   obtain⟨w2,h1,h2,h3⟩:=ih (j+1) (w.setCell ⟨b,j,none⟩ c) (cs.set j c) (hb.set j c) (by simp;omega) hone.2;refine⟨w2,?_,?_,(Chg.set w b j c).trans h3 λx hx=>.inl hx⟩
   ·simp only[storeCells,ha];have hst:=run_store P w ⟨b,j,none⟩ c .plain hone.1;simp[hst,stored,hc,hfz];exact h1
   ·have :(cs.set j c).take (j+1)++r=cs.take j++c::r:=by
     rw[List.take_succ_eq_append_getElem<|by simpa using ho];have e:List.take j (cs.set j c)=List.take j cs:=List.take_set_of_le<|aaf _;simp[e]
    rw[<-this];exact h2
 obtain⟨w1,h1,h2,h3⟩:=key vs 0 w cs hb (by omega) hone;refine⟨w1,λ_ _ _ _=>?_,by simpa using h2,h3⟩;simp only[execOp,h.eval hx,h.eval hy];simp[Instr.storeAt,Instr.sureAddr,storeVar,sizeOf,typeInfo,hi,hs,hv,Value.cells,h1]
end
def cf(P:Program)(fid:FuncId):Bool:=match P.funcs[fid]? with
 |some fn=>!(fn.name== "runtime.NumGoroutine")&&fn.body.isSome
 |none=>false
variable{fid:FuncId}
theorem mC(E:cf P fid=true)(args:Array Value)(w:World):(callFunc fid args).run P w=.ok (.enter fid args) w:=by
 unfold cf at E;split at E
 ·rename_i fn hf;simp only[aaa,Bool.not_eq_true',beq_eq_false_iff_ne,ne_eq]at E;have hb:fn.body.isNone=false:=by cases hx:fn.body<;>simp_all
  simp[callFunc,hf,E.1,hb];intro G;simp[G]at hb
 ·cases E
section
variable{P:Program}{ops:Array Oper}{Q:Exit->Act->World->Prop}{a:Act}{w w':World}{rest:List Oper}{n:Nat}{f:Nat->Option Value}{ty:TypeId}
variable{d:Option Tmp}{op:Op}{ps:String}{af:Array Edge}{g:Option (Nat×Bool)}{v:Value}
theorem Ji{args:List Operand}{tys:Array TypeId}{R:Ending->World->Prop}{K:Act->World->Prop}(h:Fr a n f)(U:pZ d n=true)(hv:sE f args=some vs)(E:cf P fid=true)
  (G:Calls P fid vs.toArray w R) (k:∀e w',R e w'->∃v,e=.returned v∧K (a.put d v) w'):
  Oper.wp P ⟨d,.call {callee:=.value<|.func fid,args:=args.toArray,argTypes:=tys},ty,ps,af,g⟩ a w K Q:=by
 have hx:(execOp a.eval ⟨d,.call {callee:=.value<|.func fid,args:=args.toArray,argTypes:=tys},ty,ps,af,g⟩).run P w=.ok (.enter fid vs.toArray) w:=by
  have e:args.toArray.map a.eval=vs.toArray:=by rw[<-h.vals hv];simp
  simp only[execOp,resolve,e];simp[Act.eval,Deferred.ofValue,invoke,mC E]
 unfold Oper.wp;rw[hx,Oper.upon_enter];refine G.mono λe w1 J=>?_;obtain⟨v,rfl,O⟩:=k e w1 J;exact O
theorem Pn(h:Fr a n f)(E:pU f ops g=true)(G:pZ d n=true)(J:Runs P a ty op w (.value v) w')
  (k:∀a',Fr a' n (upo f d v)->wpList P ops Q rest a' w'):wpList P ops Q (⟨d,op,ty,ps,af,g⟩::rest) a w:=by
 unfold wpList;rw[if_pos<|sM h (o:=⟨d,op,ty,ps,af,g⟩) E];refine .inl ?_;unfold Oper.wp;rw[J];exact k _<|h.puto G v
theorem SA(h:Fr a n f)(E:pU f ops g=true)(G:pZ d n=true)(J:Runs P a ty op w .skip w')
  (k:∀a',Fr a' n (upo f d undef)->wpList P ops Q rest a' w'):wpList P ops Q (⟨d,op,ty,ps,af,g⟩::rest) a w:=by
 unfold wpList;rw[if_pos<|sM h (o:=⟨d,op,ty,ps,af,g⟩) E];refine .inl ?_;unfold Oper.wp;rw[J];exact k _<|h.puto G undef
theorem RV(h:Fr a n f)(E:xr f ops g=true)(G:pZ d n=true)(k:∀a',Fr a' n (upo f d undef)->wpList P ops Q rest a' w):wpList P ops Q (⟨d,op,ty,ps,af,g⟩::rest) a w:=by
 unfold wpList;rw[if_neg (by rw[zb h (o:=⟨d,op,ty,ps,af,g⟩) E];simp)];exact k _<|h.puto G undef
theorem Sb{args:List Operand}{tys:Array TypeId}{R:Ending->World->Prop}(h:Fr a n f)(G:pU f ops g=true)(E:pZ d n=true)(hv:sE f args=some vs)(J:cf P fid=true)
  (O:Calls P fid vs.toArray w R) (k:∀e w',R e w'->∃v,e=.returned v∧∀a',Fr a' n (upo f d v)->wpList P ops Q rest a' w'):
  wpList P ops Q (⟨d,.call {callee:=.value<|.func fid,args:=args.toArray,argTypes:=tys},ty,ps,af,g⟩::rest) a w:=by
 unfold wpList;rw[if_pos<|sM h (o:=⟨d,_,ty,ps,af,g⟩) G];refine .inl<|Ji h E hv J O λe w1 U=>?_;obtain⟨v,hv,Z⟩:=k e w1 U;exact⟨v,hv,Z _<|h.puto E v⟩
theorem PA(k:Q .normal a w):wpList P ops Q [] a w:=k
theorem EO{c:Operand}{E G:Code}(h:Fr a n f)(J:aE f c=some (.bool true))(k:E.wp P Q a w):(Code.cond c E G).wp P Q a w:=
 wp_cond_true (h.eval J) k
theorem FI{c:Operand}{G E:Code}(h:Fr a n f)(J:aE f c=some (.bool false))(k:E.wp P Q a w):(Code.cond c G E).wp P Q a w:=
 wp_cond_false (h.eval J) k
end
section
variable{P:Program}{Q:Exit->Act->World->Prop}{a:Act}{w:World}{n:Nat}{f:Nat->Option Value}
def fm:List (Nat×Value)->Nat->Option Value
 |[],_=>none
 |(j,v)::r,i=>match Nat.beq i j with|true=>some v|false=>fm r i
def LV(f:Nat->Option Value):List (Nat×Value)->Prop
 |[]=>True
 |(j,v)::r=>f j=some v∧LV f r
theorem NG:∀{l:List<|Nat×Value},LV f l->∀i v,fm l i=some v->f i=some v
 |[],_,i,v,h=>by cases h
 | (j,u)::r,hA,i,v,h=>by
  simp only[fm]at h;split at h
  ·rename_i hb;have :=aag hb;subst this;rw[<-h];exact hA.1
  ·exact NG hA.2 i v h
theorem Fr.pick(h:Fr a n f){l:List<|Nat×Value}(E:LV f l):Fr a n (fm l):=h.le<|NG E
def ux(P:Program)(f:Nat->Option Value)(w:World):List ResultVar->List Value->Prop
 |[],vs=>vs=[]
 |.tmp t::r,vs=>∃v us,vs=v::us∧f t=some v∧ux P f w r us
 |.cell t ty::r,vs=>∃cs us b tb m,vs=.agg cs.toArray::us∧f t=some (.pointer<|some ⟨b,0,none⟩)∧nW P ty=some m∧Blk w b tb cs∧cs.length=m∧ux P f w r us
def pL(a:Act):ResultVar->Sem Value
 |.tmp t=>pure<|a.tmps.getD t undef
 |.cell x t=>do loadVar t (<-asAddr (a.tmps.getD x undef))
theorem BQ(h:Fr a n f):∀{l:List ResultVar} {vs:List Value},ux P f w l vs->(l.mapM<|pL a).run P w=.ok vs w
 |[],vs,e=>by simp only[ux]at e;simp[e]
 | .tmp t::r,vs,e=>by
  simp only[ux]at e;obtain⟨v,us,rfl,h1,h2⟩:=e;have ih:=BQ h h2;have h3:(pL a<|.tmp t).run P w=.ok v w:=by have :=h.get t v h1;simp[pL,Array.getD_eq_getD_getElem?,this]
  simp[List.mapM_cons,h3,ih]
 | .cell t ty::r,vs,e=>by
  simp only[ux]at e;obtain⟨cs,us,b,tb,m,rfl,h1,h2,h3,h4,h5⟩:=e;have ih:=BQ h h5;have hL:=yU (P:=P) (w:=w) (b:=b) (o:=0) h2 h4 (λj hj=>by rw[h3.cell];simp);have h6:(pL a<|.cell t ty).run P w=.ok (.agg cs.toArray) w:=by have :=h.get t _ h1;simp only[Instr.loadAt,Instr.sureAddr]at hL;simp at hL;simp[pL,Array.getD_eq_getD_getElem?,this,asAddr,hL]
  simp[List.mapM_cons,h6,ih]
def st:List Value->Value
 |[v]=>v
 |vs=>.tuple vs.toArray
theorem Pi{fn:Func}{R:Ending->World->Prop}{rs:List ResultVar}(h:Fr a n f)(hr:fn.results=rs.toArray)(hv:ux P f w rs vs)(E:R (.returned<|st vs) w):bodyPost P fn R .ret a w:=by
 refine bodyPost_ret (v:=st vs) ?_ h.defers E;have G:=BQ h hv;have e:(Array.mapM (pL a) rs.toArray).run P w=.ok vs.toArray w:=by rw[List.mapM_toArray];simp[G]
 unfold results;rw[hr];change ((Array.mapM (pL a) rs.toArray)>>=λvs=>pure (if h:vs.size=1 then vs[0]else .tuple vs)).run P w=_;simp only[Sem.run_bind,e,Result.andThen_ok,Sem.run_pure]
 match vs with
 |[]=>rfl
 |[v]=>rfl
 |v::u::r=>simp[st]
theorem Mv{fn:Func}{c:Code}{args:List Value}{R:Ending->World->Prop}(N:Nat)(hf:P.funcs[fid]?=some fn)(hb:fn.body=some c)(G:fn.ntmps=N)(J:Nat.ble args.length N=true)
  (k:∀a,Fr a N (λi=>args[i]?)->c.wp P (bodyPost P fn R) a w):Calls P fid args.toArray w R:=by
 refine calls_of_wp hf hb<|k _ ⟨?_,I,λi v hi=>?_⟩
 ·have :args.length<=N:=by simpa using J
  simp[G];omega
 ·have E:i<args.length:=by
   rcases Nat.lt_or_ge i args.length with h|h
   ·exact h
   ·rw[List.getElem?_eq_none h]at hi;cases hi
  rw[Array.getElem?_append_left<|by simpa using E];simpa using hi
end
section
variable{P:Program}{ops:Array Oper}{Q:Exit->Act->World->Prop}{md:Region.Mode}{S:World->Prop}
def zx(md:Region.Mode)(ops:Array Oper)(m i:Nat):Bool:=match ops[m]? with
 |none=>true
 |some o=>o.after.any λe=>Region.binds md e&&e.on==i
theorem oO{listed:Array Bool}(h:listed.getD m false=true):(listed.setIfInBounds i true).getD m false=true:=by
 rw[Array.getD_eq_getD_getElem?]at *;rw[Array.getElem?_setIfInBounds];split
 ·rename_i E;subst E;split
  ·rfl
  ·rename_i hs;rw[Array.getElem?_eq_none<|by omega]at h;cases h
 ·exact h
theorem Dg{listed:Array Bool}{j:Nat}{oj:Oper}(hr:i∈Region.ready md ops listed)(G:∀e∈oj.after,Region.binds md e=true->listed.getD e.on false=true):∀e∈oj.after,Region.binds md e=true->e.on≠i:=λe O hb J=>by
 have E:=(mem_ready.1 hr).1;have h1:=G e O hb;rw[J]at h1;rcases Nat.lt_or_ge i listed.size with h'|h'
 ·simp[h']at E h1;rw[E]at h1;cases h1
 ·simp[Array.getElem?_eq_none h']at h1
variable{a:Act}{w w':World}{n:Nat}{f:Nat->Option Value}{ty:TypeId}{d:Option Tmp}{op:Op}{ps:String}{af:Array Edge}{g:Option (Nat×Bool)}{v:Value}{m fuel:Nat}{listed:Array Bool}
variable{K:Act->World->Prop}
end
def io(P:Program)(t:TypeId)(i:Nat):Option Nat:=match P.underlying t with
 |some (.struct fs)=>match fs[i]? with
  |some fl=>match P.info? fl.type with
   |some inf=>if inf.size=0 then none else some fl.offset
   |none=>none
  |none=>none
 |_=>none
def tq(P:Program)(t:TypeId)(i:Nat):Option Nat:=match P.underlying t with
 |some (.struct fs)=>match fs[i]? with
  |some fl=>if cU P fl.type=true then some fl.offset else none
  |none=>none
 |_=>none
section
variable{P:Program}{a:Act}{w w':World}{n:Nat}{f:Nat->Option Value}{ty:TypeId}
theorem Du{r:Nat}(h:Fr a n f)(hx:aE f x=some (.pointer<|some ⟨b,o,none⟩))(ho:io P t i=some k)(hr:o+k=r):Runs P a ty (.fieldAddr t x i) w (.value<|.pointer<|some ⟨b,r,none⟩) w:=by
 refine Jg h hx λw=>?_;subst hr;unfold io at ho;split at ho
 ·rename_i fs J;split at ho
  ·rename_i fl G;split at ho
   ·rename_i inf E;split at ho
    ·cases ho
    ·rename_i hz;simp only[aab]at ho;subst ho;simp[Instr.fieldAt,run_underlying J,G,Instr.sureAddr,fieldPlace,sizeOf,typeInfo,E,hz,rr]
   ·cases ho
  ·cases ho
 ·cases ho
theorem Rx{cs:List Value}{v:Value}(h:Fr a n f)(hx:aE f x=some (.agg cs.toArray))(ho:tq P t i=some k)(hv:cs[k]?=some v):Runs P a ty (.field t x i) w (.value v) w:=by
 refine Eh h hx λw=>?_;unfold tq at ho;split at ho
 ·rename_i fs J;split at ho
  ·rename_i fl G;split at ho
   ·rename_i hs;simp only[aab]at ho;subst ho;have O:(isAgg fl.type).run P w=.ok false w:=by
     unfold cU at hs;cases E:P.underlying fl.type with
     |none=>rw[E]at hs;cases hs
     |some d=>
      rw[E]at hs;cases d<;>first|(simp[isAgg,run_underlying E];done)|cases hs
    simp[Instr.field,run_underlying J,G,part,O,asAgg,hv]
   ·cases ho
  ·cases ho
 ·cases ho
theorem yq(off:Nat):∀(l:List Value) (j:Nat) (c:List Value),off+j+l.length<=c.length->
  (l.zipIdx j).foldl (λ(cs:Array Value) (p:Value×Nat)=>cs.setIfInBounds (off+p.2) p.1) c.toArray=(c.take (off+j)++l++c.drop (off+j+l.length)).toArray
 |[],j,c,h=>by simp
 | x::r,j,c,h=>by
  simp only[aad]at h;have ih:=yq off r (j+1) (c.set (off+j) x) (by simp;omega);simp only[List.zipIdx_cons,List.foldl_cons,List.setIfInBounds_toArray];rw[ih]
  congr 1
  have e1:(c.set (off+j) x).take (off+(j+1))=c.take (off+j)++[x]:=by
   rw[<-aau,List.take_succ_eq_append_getElem (by simp;omega),List.take_set_of_le<|aaf _];simp
  have e2:(c.set (off+j) x).drop (off+(j+1)+r.length)=c.drop (off+j+(r.length+1)):=by
   rw[List.drop_set_of_lt<|by omega];congr 1;omega
  rw[e1,e2];simp
theorem Eg(sz:Nat):∀(vs:List<|Nat×Value) (k:Nat) (c:List Value),vs.map (·.1)=(List.range vs.length).map (·+k)->(∀p∈vs,p.2.cells.size=sz)->(k+vs.length)*sz=c.length->
  Instr.fill (λi=>some (i*sz,sz)) c.toArray vs=some (c.take (k*sz)++vs.flatMap λp=>p.2.cells.toList).toArray
 |[],k,c,_,_,hl=>by simp[Instr.fill];simp at hl;rw[hl];simp
 | (i,v)::r,k,c,hi,hc,hl=>by
  have hv:v.cells.size=sz:=hc (i,v) (by simp);have hi0:i=k:=by have :=congrArg (λl=>l.head?) hi;simpa[List.range_succ_eq_map]using this
  subst hi0;simp only[aad]at hl;have hle:(i+1)*sz<=c.length:=by rw[<-hl];exact Nat.mul_le_mul_right _ (by omega)
  rw[Nat.add_mul,Nat.one_mul]at hle;have hf:=yq (i*sz) v.cells.toList 0 c (by simpa[hv]using hle);have hr:r.map (·.1)=(List.range r.length).map (·+(i+1)):=by have :=congrArg List.tail hi;simp only[aah,List.tail_cons,aad,List.range_succ_eq_map,List.map_map]at this;rw[this];apply List.map_congr_left;intro x _;simp;omega
  have ih:=Eg sz r (i+1) (c.take (i*sz)++v.cells.toList++c.drop (i*sz+sz)) hr (λp hp=>hc p (by simp[hp])) (by
   have e:(i+(r.length+1))*sz=(i+1+r.length)*sz:=by congr 1;omega
   simp[hv];rw[<-hl]at hle⊢;omega)
  simp only[Instr.fill];rw[if_neg (by simp[hv];omega)];have e0:(v.cells.zipIdx.foldl (λcs (x:Value×Nat)=>match x with|(c,j)=>cs.setIfInBounds (i*sz+j) c) c.toArray)=(c.take (i*sz)++v.cells.toList++c.drop (i*sz+sz)).toArray:=by rw[<-Array.foldl_toList,Array.toList_zipIdx];simp only[Nat.add_zero,Array.length_toList,hv]at hf;exact hf
  rw[e0,ih]
  congr 1
  have e3:(c.take (i*sz)++v.cells.toList++c.drop (i*sz+sz)).take ((i+1)*sz)=c.take (i*sz)++v.cells.toList:=by rw[Nat.add_mul,Nat.one_mul,List.take_append_of_le_length (by simp[hv];omega)];apply List.take_of_length_le;simp[hv];omega
  rw[e3];simp
theorem sb{vs:List<|Nat×Value}{m:Nat}{z cs:List Value}(h:Fr a n f)(hx:eL f ps=some vs)(ht:P.underlying t=some (.slice e))(hz:dm P e=some sz)(hzero:nb P e=some z)
  (G:ps.map (·.1)=List.range m) (hc:vs.all (λp=>p.2.cells.size==sz)=true) (U:Nat.ble (m*sz) 16777216=true) (Z:(vs.flatMap λp=>p.2.cells.toList)=cs) (w:World) (ty:TypeId):
  ∃w' b,Runs P a ty (.buildSlice t m ps.toArray) w (.value<|.slice (some ⟨b,0,none⟩) m m) w'∧Blk w' b e cs∧Chg [] w w'∧b=w.heap.size∧b<w'.heap.size:=by
 subst Z;refine⟨w.alloc<|.cells (vs.flatMap λp=>p.2.cells.toList).toArray e,w.heap.size,λ_ _ _ _=>?_,Blk.new w e _,Chg.alloc _ _,rfl,by simp⟩;obtain⟨inf,hi,hs⟩:=Option.map_eq_some_iff.1 (show(P.info? e).map (·.size)=some sz from hz);unfold nb at hzero;obtain⟨z0,hz1,hz2⟩:=Option.map_eq_some_iff.1 hzero;obtain⟨inf',J,hiz⟩:=Option.bind_eq_some_iff.1 hz1;rw[hi]at J;cases J;have O:vs.map (·.1)=List.range m:=by rw[<-G,<-h.parts hx];simp
 have hm:vs.length=m:=by have :=congrArg List.length O;simpa using this
 have e:(ps.toArray.map λ(i,x)=>(i,a.eval x))=vs.toArray:=by rw[<-h.parts hx];simp
 have hsm':m*sz<=16777216:=by simpa using U
 have hfill:∀c:Array Value,c.size=m*sz->Instr.fill (λi=>some (i*sz,sz)) c vs=some (vs.flatMap λp=>p.2.cells.toList).toArray:=λc hcz=>by have :=Eg sz vs 0 c.toList (by rw[O,hm];simp) (λp hp=>by simpa using List.all_eq_true.1 hc p hp) (by simp[hm,hcz]);simpa using this
 simp only[execOp];rw[e];simp only[Instr.buildSlice];by_cases h0:m*sz=0
 ·have E:=hfill ((Array.range 0).map λx=>(default:Value)) (by simp[h0]);simp[run_underlying ht,sizeOf,typeInfo,hi,hs,h0,newRow];rw[E];simp
 ·have E:=hfill ((Array.range<|m*sz).map (z0.cells[·%z0.cells.size]!)) (by simp)
  try simp at E
  simp[run_underlying ht,sizeOf,typeInfo,hi,hs,h0,newRow,zeroValue,hiz,show¬16777216<m*sz by omega,E]
theorem OQ{z:Value}{sz by_:Nat}{cs:List Value}(h:Fr a n f)(hx:aE f x=some (.int .i64 (m:Int)))(hy:aE f y=some (.int .i64 (m:Int)))(ht:P.underlying t=some (.slice e))
  (hi:(P.info? e).map (λi=>(i.zero,i.size,i.bytes))=some (some z,sz,by_)) (hb:Nat.ble (by_*m) 281474976710656=true) (J:Nat.ble m 9223372036854775807=true) (O:madeCells z.cells (m*sz)=cs.toArray) (w:World) (ty:TypeId):
  ∃w' b,Runs P a ty (.makeSlice t x y) w (.value<|.slice (some ⟨b,0,none⟩) m m) w'∧Blk w' b e cs∧Chg [] w w'∧b=w.heap.size∧b<w'.heap.size:=by
 obtain⟨G,U,E⟩:=Option.map_eq_some_iff.1 hi;simp only[Prod.mk.injEq]at E;obtain⟨hz,hs,Z⟩:=E;refine⟨w.alloc<|.cells cs.toArray e,w.heap.size,λ_ _ _ _=>?_,Blk.new w e _,Chg.alloc _ _,rfl,by simp⟩;have hb':(G.bytes:Int)*(m:Int)<=281474976710656:=by
  have h9:G.bytes*m<=281474976710656:=by rw[Z];exact Nat.le_of_ble_eq_true hb
  have h8:((G.bytes*m:Nat):Int)<=281474976710656:=by omega
  rwa [Int.natCast_mul]at h8
 have h63':m<=9223372036854775807:=Nat.le_of_ble_eq_true J;have hr:=run_make (P:=P) w t e G z ht U hz .i64 .i64 m m (by omega) (by omega) hb' (by omega);simp only[execOp,h.eval hx,h.eval hy];simp only[Int.toNat_natCast,hs,O]at hr;simp[hr]
theorem xf{e size:Nat}{cs:List Value}(h:Blk w b e cs)(hb:base<=b)(E:cs.length=m*size)(G:Nat.ble m maxLen=true):w.ownsRow base e size (.slice (some ⟨b,0,none⟩) m m) m cs:=by refine⟨E,.inr ⟨b,m,cs.toArray,I,hb,h,aaf _,by simpa using G,by simpa using E,?_⟩⟩;simp[<-E]
end
theorem nm0:b∉([]:YN):=by simp
section
variable{P:Program}{a:Act}{w w':World}{n:Nat}{f:Nat->Option Value}{X:YN}
end
variable{f:Nat->Option Value}
theorem NL{a:Act}{w:World}{ty t u:TypeId}{k:IntKind}{m l:Int}(h:Fr a n f)(hx:aE f x=some (.int k m))(hy:aE f y=some (.int k l)):Runs P a ty (.call {callee:=.builtin .max,args:=#[x,y],argTypes:=#[t,u]}) w (.value<|.int k<|max m l) w:=λ_ _ _ _=>by
 simp only[execOp,resolve,List.map_toArray,aah,aav,h.eval hx,h.eval hy];simp[go_sem,invoke,builtin]
 try (split<;>omega)
end Go.Proofs.YtehhanlhfdoiaaaGreat
namespace Go.Proofs.YtehhanlhfdoiaaaGreat.Lx
def cF(c:UInt8):Bool:=decide (97<=c.toNat)&&decide (c.toNat<=122)
def upperB(c:UInt8):Bool:=decide (65<=c.toNat)&&decide (c.toNat<=90)
def bD(c:UInt8):Bool:=decide (48<=c.toNat)&&decide (c.toNat<=57)
def bm(c:UInt8):Bool:=cF c||upperB c
def bi(c:UInt8):Bool:=bm c||bD c||c.toNat==95
def bL(c:UInt8):Bool:=c.toNat==9||c.toNat==10||c.toNat==13||c.toNat==32
def dW(c:UInt8):Bool:=decide (32<=c.toNat)&&decide (c.toNat<=126)
def aS(c:UInt8):Bool:=bL c||dW c
def Iy:List YB:=[[109,111,100,117,108,101],[100,101,102],[116,121,112,101],[108,101,116],[105,110],[105,102],[116,104,101,110],[101,108,115,101],[116,114,117,101],[102,97,108,115,101],[73,110,116],[84,101,120,116],[66,111,111,108]]
def lh(l:YB):Bool:=Iy.contains l
def spanN(p:UInt8->Bool)(l:YB):Nat:=(l.takeWhile p).length
def dF(l:YB):Bool:=
 upperB (l.getD 0 0)&&!lh (l.take<|spanN bi l)&&decide (spanN bi l+1<l.length)&&((l.getD (spanN bi l) 0).toNat==46)&&bm (l.getD (spanN bi l+1) 0)
def bO(l:YB)(n:Nat):Nat×Nat×Nat:=
 if 24<n then(0,0,3)else if lh (l.take n)=true then(7,n,0)else if cF (l.getD 0 0)=true then(1,n,0)else(2,n,0)
def fp(l:YB)(n m:Nat):Nat×Nat×Nat:=
 if 24<n∨24<m then(0,0,3)
 else if lh ((l.drop<|n+1).take m)=true then(0,0,2)
 else if cF (l.getD (n+1) 0)=true then(3,n+1+m,0)
 else(4,n+1+m,0)
def bZ(l:YB):Nat×Nat×Nat:=
 if dF l=true then fp l (spanN bi l) (spanN bi<|l.drop<|spanN bi l+1)else bO l (spanN bi l)
def eO(l:YB):Nat×Nat:=
 let n:=spanN bD l
 if 1<n∧(l.getD 0 0).toNat=48 then(0,2)else if 15<n then(0,3)else(n,0)
def quotedT:YB->Nat->Nat×Nat
 |[],_=>(0,2)
 |c::r,i=>
  if aS c=false then(i,1)
  else if c.toNat=34 then(i+1,0)
  else if c.toNat=92∨c.toNat<32 then(0,2)
  else quotedT r (i+1)
def rU:YB:=[40,41,91,93,58,44,61,43,45,42,60,63]
def tokenT(l:YB):Nat×Nat×Nat:=
 let c:=l.getD 0 0
 if aS c=false then(0,0,1)
 else if bm c=true then bZ l
 else if bD c=true then(5,eO l)
 else if c.toNat=34 then(6,quotedT l.tail 1)
 else if c.toNat=61∧1<l.length∧(l.getD 1 0).toNat=61 then(8,2,0)
 else if rU.contains c=true then(8,1,0)
 else(0,0,2)
def aO:Bool->YB->Nat->Nat×Option Nat
 |_,[],n=>(n,none)
 |false,c::r,n=>if bL c=true then aO false r (n+1)else if c.toNat=35 then aO true r (n+1)else(n,none)
 |true,c::r,n=>if c.toNat=10 then aO false r (n+1)else if aS c=false then(n,some n)else aO true r (n+1)
structure TokZ where
 kind:Int
 lead:List UInt8
 text:List UInt8
structure Scanned where
 toks:List TokZ
 tail:List UInt8
 place:Nat
 err:Nat
def scanT:Nat->List UInt8->Nat->List TokZ->Scanned
 |0,_,_,_=>⟨[],[],0,0⟩
 | f +1,l,pos,acc=>
  match(aO false l 0).2 with
  |some b=>⟨[],[],pos+b,1⟩
  | none=>
   if(aO false l 0).1=l.length then⟨acc,l,0,0⟩
   else if(tokenT<|l.drop (aO false l 0).1).2.2=0 then
    scanT f (l.drop<|(aO false l 0).1+(tokenT<|l.drop (aO false l 0).1).2.1) (pos+(aO false l 0).1+(tokenT<|l.drop (aO false l 0).1).2.1)
     (acc++[⟨(tokenT<|l.drop (aO false l 0).1).1,l.take (aO false l 0).1,(l.drop (aO false l 0).1).take (tokenT<|l.drop (aO false l 0).1).2.1⟩])
   else⟨[],[],pos+(aO false l 0).1+(tokenT<|l.drop (aO false l 0).1).2.1,(tokenT<|l.drop (aO false l 0).1).2.2⟩
def fz(l:YB):Scanned:=if 4096<l.length then⟨[],[],4096,3⟩else scanT (l.length+1) l 0 []
def bv(l:YB):Nat:=if l=[]then 0 else if(tokenT l).2.2=0∧(tokenT l).2.1=l.length then(tokenT l).1 else 0
def di:Bool->YB->Bool->Bool
 |c,[],fin=>!c||fin
 |c,x::r,fin=>
  if aS x=false then false
  else if c=true then di (!(x.toNat==10)) r fin
  else if x.toNat=35 then di true r fin
  else if bL x=false then false
  else di c r fin
def fusesT(a b:YB):Bool:=
 if bv a=0∨bv b=0 then false
 else
  let r:=fz<|a++b
  if r.err=0∧r.toks.length=2∧r.tail=[]then
   !((r.toks.getD 0 ⟨0,[],[]⟩).lead==[]&&(r.toks.getD 0 ⟨0,[],[]⟩).text==a&&(r.toks.getD 1 ⟨0,[],[]⟩).lead==[]&&(r.toks.getD 1 ⟨0,[],[]⟩).text==b)
  else true
variable{l:YB}{k:Nat}
theorem ng{p:UInt8->Bool}{c:UInt8}(h:k<l.length)(E:l[k]=c)(hp:p c=true):
  spanN p (l.drop k)=spanN p (l.drop<|k+1)+1:=by
 rw[aam h,E];simp[spanN,hp]
theorem sH{p:UInt8->Bool}{c:UInt8}(h:k<l.length)(E:l[k]=c)(hp:p c=false):
  spanN p (l.drop k)=0:=by
 rw[aam h,E];simp[spanN,hp]
theorem uF{p:UInt8->Bool}(h:l.length<=k):spanN p (l.drop k)=0:=by rw[List.drop_of_length_le h];rfl
theorem mL(p:UInt8->Bool):∀(l:YB),spanN p l<=l.length
 |[]=>aaf _
 |c::r=>by have :=mL p r;unfold spanN at *;rw[List.takeWhile_cons];split<;>simp <;>omega
theorem yP{p:UInt8->Bool}(h:0<l.length)(hp:p (l.getD 0 0)=true):0<spanN p l:=by
 cases l with
 |nil=>simp at h
 |cons c r=>simp[spanN]at *;simp[hp]
theorem wK{c:UInt8}(h:bm c=true∨bD c=true∨((c.toNat:Int)==95)=true):bi c=true:=by
 rcases h with h|h|h<;>simp_all[bi]<;>omega
theorem Gk{c:UInt8}(h1:¬bm c=true)(h2:¬bD c=true)(E:((c.toNat:Int)==95)=false):bi c=false:=by simp_all[bi];omega
theorem aN{c:UInt8}(h:k<l.length)(E:l[k]=c):l.getD k 0=c:=by simp[List.getD,List.getElem?_eq_getElem h,E]
variable{n m:Nat}
theorem cQ(h:((n:Int)==(m:Int))=true):n=m:=by simp at h;omega
theorem bK(h:((n:Int)==(m:Int))=false):¬n=m:=by simp at h;omega
theorem qx{c:UInt8}(h:spanN bD l=k)(h1:1<k)(G:0<l.length)(J:l[0]=c)(E:((c.toNat:Int)==48)=true):eO l=(0,2):=by unfold eO;rw[h,aN G J];have :=cQ (m:=48) E;simp[h1,this]
theorem qc(h:spanN bD l=k)(h1:1<k->¬(l.getD 0 0).toNat=48)(E:15<k):eO l=(0,3):=by unfold eO;rw[h];simp only;rw[if_neg λx=>h1 x.1 x.2,if_pos E]
theorem iX(h:spanN bD l=k)(h1:1<k->¬(l.getD 0 0).toNat=48)(E:¬15<k):eO l=(k,0):=by unfold eO;rw[h];simp only;rw[if_neg λx=>h1 x.1 x.2,if_neg E]
theorem EN{c:UInt8}(h:k<l.length)(E:l[k]=c):
  quotedT (l.drop k) k=if aS c=false then(k,1)else if c.toNat=34 then(k+1,0)else if c.toNat=92∨c.toNat<32 then(0,2)else quotedT (l.drop<|k+1) (k+1):=by
 rw[aam h,E];rfl
theorem Gh(h:l.length<=k):quotedT (l.drop k) k=(0,2):=by rw[List.drop_of_length_le h];rfl
theorem xP(l:YB)(a b:Nat):(ByteArray.mk l.toArray).extract a b=⟨((l.drop a).take<|b-a).toArray⟩:=by apply ByteArray.ext;rw[ByteArray.data_extract];simp[List.extract_eq_take_drop]
theorem oP(l:YB)(a:Nat):(l.drop a).take (l.length-a)=l.drop a:=by apply List.take_of_length_le;simp
theorem jJ(hn:spanN bi l=n)(h:dF l=false):bZ l=bO l n:=by simp[bZ,h,hn]
theorem CR(hn:spanN bi l=n)(E:spanN bi (l.drop<|n+1)=m)(h:dF l=true):bZ l=fp l n m:=by simp[bZ,h,hn,E]
theorem JB{c:UInt8}(E:0<l.length)(G:l[0]=c)(h:upperB c=false):dF l=false:=by simp[dF,aN E G,h,-List.getD_eq_getElem?_getD]
theorem KG(hn:spanN bi l=n)(h:lh (l.take n)=true):dF l=false:=by simp[dF,hn,h]
theorem Ka(hn:spanN bi l=n)(h:¬n+1<l.length):dF l=false:=by simp[dF,hn,h]
theorem Lm{c:UInt8}(hn:spanN bi l=n)(E:n<l.length)(G:l[n]=c)(h:((c.toNat:Int)==46)=false):dF l=false:=by have :=bK (m:=46) h;simp[dF,hn,aN E G,this,-List.getD_eq_getElem?_getD]
theorem KE{c:UInt8}(hn:spanN bi l=n)(E:n+1<l.length)(G:l[n+1]=c)(h:bm c=false):dF l=false:=by simp[dF,hn,aN E G,h,-List.getD_eq_getElem?_getD]
theorem Fo{c0 Z c2:UInt8}(hn:spanN bi l=n)(h0:0<l.length)(E:l[0]=c0)(hu:upperB c0=true)(hr:lh (l.take n)=false)
  (hl:n+1<l.length) (G:n<l.length) (J:l[n]=Z) (O:((Z.toNat:Int)==46)=true) (U:l[n+1]=c2) (h3:bm c2=true):dF l=true:=by
 have :=cQ (m:=46) O;simp[dF,hn,aN h0 E,aN G J,aN hl U,hu,hr,hl,h3,this,-List.getD_eq_getElem?_getD]
theorem yF{c:UInt8}(E:0<l.length)(G:l[0]=c):
  tokenT l=if aS c=false then(0,0,1)else if bm c=true then bZ l else if bD c=true then(5,eO l)else if c.toNat=34 then(6,quotedT l.tail 1)
   else if c.toNat=61∧1<l.length∧(l.getD 1 0).toNat=61 then(8,2,0)else if rU.contains c=true then(8,1,0)else(0,0,2):=by
 unfold tokenT;rw[aN E G]
theorem zL:∀(r:YB) (i:Nat),(quotedT r i).1<=i+r.length∧((quotedT r i).2=0->i<(quotedT r i).1)
 |[],i=>by simp[quotedT]
 | c::r,i=>by
  have ih:=zL r<|i+1;unfold quotedT;split
  ·simp
  ·split
   ·simp <;>omega
   ·split
    ·simp
    ·simp only[aad];exact⟨by omega,λh=>by have :=ih.2 h;omega⟩
theorem Lf(E:0<l.length)(G:bm (l.getD 0 0)=true):(bZ l).2.1<=l.length∧((bZ l).2.2=0->0<(bZ l).2.1):=by
 have h1:=mL bi l;have h2:0<spanN bi l:=yP E (by simp[bi,G,-List.getD_eq_getElem?_getD]);have J:=mL bi<|l.drop<|spanN bi l+1;simp only[aaC]at J;unfold bZ;split
 ·rename_i hcond;have O:spanN bi l+1<l.length:=by
   unfold dF at hcond;simp only[aaa,aat]at hcond;exact hcond.1.1.2
  unfold fp;split
  ·simp
  ·split
   ·simp
   ·split<;>simp <;>omega
 ·unfold bO;split
  ·simp
  ·split
   ·simp;omega
   ·split<;>simp <;>omega
theorem Gn(E:0<l.length)(G:bD (l.getD 0 0)=true):(eO l).1<=l.length∧((eO l).2=0->0<(eO l).1):=by
 have h1:=mL bD l;have h2:0<spanN bD l:=yP E G;unfold eO;simp only;split
 ·simp
 ·split
  ·simp
  ·simp;omega
theorem Ba(E:0<l.length):(tokenT l).2.1<=l.length∧((tokenT l).2.2=0->0<(tokenT l).2.1):=by
 unfold tokenT;simp only;split
 ·simp
 split
 ·exact Lf E ‹_›
 split
 ·exact Gn E ‹_›
 split
 ·have :=zL l.tail 1;simp only[List.length_tail]at this;exact⟨by simp only;omega,λh=>by have :=this.2 h;simp only;omega⟩
 split
 ·simp;omega
 split
 ·simp;omega
 ·simp
theorem zM{c:UInt8}(h:k<l.length)(E:l[k]=c)(G:bL c=true):aO false (l.drop k) n=aO false (l.drop<|k+1) (n+1):=by rw[aam h,E];simp[aO,G]
theorem AR{c:UInt8}(h:k<l.length)(G:l[k]=c)(E:c.toNat=35):aO false (l.drop k) n=aO true (l.drop k) n:=by
 rw[aam h,G];have h1:bL c=false:=by simp[bL,E]
 have h2:aS c=true:=by simp[aS,dW,E]
 simp[aO,h1,h2,E]
theorem zP{c:UInt8}(h:k<l.length)(E:l[k]=c)(G:bL c=false)(J:¬c.toNat=35):aO false (l.drop k) n=(n,none):=by rw[aam h,E];simp[aO,G,J]
theorem Bz{c:UInt8}(h:k<l.length)(G:l[k]=c)(E:c.toNat=10):aO true (l.drop k) n=aO false (l.drop k) n:=by
 rw[aam h,G];have h1:bL c=true:=by simp[bL,E]
 simp[aO,h1,E]
theorem Cw{c:UInt8}(h:k<l.length)(G:l[k]=c)(E:¬c.toNat=10)(J:aS c=false):aO true (l.drop k) n=(n,some n):=by rw[aam h,G];simp[aO,E,J]
theorem DS{c:UInt8}(h:k<l.length)(G:l[k]=c)(E:¬c.toNat=10)(J:aS c=true):aO true (l.drop k) n=aO true (l.drop<|k+1) (n+1):=by rw[aam h,G];simp[aO,E,J]
theorem se(b:Bool)(h:l.length<=k):aO b (l.drop k) n=(n,none):=by rw[List.drop_of_length_le h];cases b<;>rfl
variable{b:Nat}
theorem Dd{f:Nat}{pos:Nat}{acc:List TokZ}(h:aO false l 0=(n,some b)):scanT (f+1) l pos acc=⟨[],[],pos+b,1⟩:=by simp[scanT,h]
theorem yS{f:Nat}{pos:Nat}{acc:List TokZ}(h:aO false l 0=(n,none))(hn:n=l.length):scanT (f+1) l pos acc=⟨acc,l,0,0⟩:=by simp[scanT,h,hn]
theorem Dk{f:Nat}{pos e:Nat}{acc:List TokZ}(h:aO false l 0=(n,none))(hn:¬n=l.length)(ht:tokenT (l.drop n)=(k,m,e))(E:¬e=0):
  scanT (f+1) l pos acc=⟨[],[],pos+n+m,e⟩:=by
 simp[scanT,h,hn,ht,E]
theorem CF{f:Nat}{pos:Nat}{acc:List TokZ}(h:aO false l 0=(n,none))(hn:¬n=l.length)(ht:tokenT (l.drop n)=(k,m,0)):
  scanT (f+1) l pos acc=scanT f (l.drop<|n+m) (pos+n+m) (acc++[⟨k,l.take n,(l.drop n).take m⟩]):=by
 simp[scanT,h,hn,ht]
end Go.Proofs.YtehhanlhfdoiaaaGreat.Lx
namespace Go.Proofs.YtehhanlhfdoiaaaGreat.Sx
open Lx
inductive Tree where
 |node (kind:Int) (text:List UInt8) (leads:List (List UInt8)) (kids:List Tree)
abbrev YT:=List Tree
def Tree.kind:Tree->Int|.node k _ _ _=>k
def Tree.text:Tree->YB|.node _ s _ _=>s
def Tree.leads:Tree->List YB|.node _ _ l _=>l
def Tree.kids:Tree->YT|.node _ _ _ k=>k
def lp:Tree:=.node 0 [] [] []
def NO:TokZ:=⟨0,[],[]⟩
structure PS where
 toks:List TokZ
 off:Nat
 size:Nat
 failed:Nat
 place:Nat
def bW(s:PS):TokZ:=s.toks.headD NO
def zg(e:Nat)(s:PS):PS:=if s.failed=0 then⟨[],s.off,s.size,e,s.off⟩else⟨[],s.off,s.size,s.failed,s.place⟩
def eo(s:PS):PS:=
 match s.toks with
 |[]=>s
 |[_]=>⟨[],s.size,s.size,s.failed,s.place⟩
 |t::u::r=>⟨u::r,s.off+(t.text.length+u.lead.length),s.size,s.failed,s.place⟩
def gw(x:YB)(s:PS):YB×PS:=if(bW s).text=x then((bW s).lead,eo s)else([],zg 2 s)
def uy(k o:Int)(s:PS):YB×YB×PS:=
 if(bW s).kind=0∨((bW s).kind≠k∧(bW s).kind≠o)then([],[],zg 2 s)else((bW s).text,(bW s).lead,eo s)
def NT:YB:=[109,111,100,117,108,101]
def Lr:YB:=[100,101,102]
def Nz:YB:=[116,121,112,101]
def Pk:YB:=[108,101,116]
def wIn:YB:=[105,110]
def wIf:YB:=[105,102]
def Rk:YB:=[116,104,101,110]
def Rm:YB:=[101,108,115,101]
def NE:YB:=[116,114,117,101]
def KO:YB:=[102,97,108,115,101]
def Sc:YB:=[73,110,116]
def RJ:YB:=[84,101,120,116]
def Ro:YB:=[66,111,111,108]
def Rr(x:YB):Bool:=x==[43]||x==[45]||x==[42]||x==[60]||x==[61,61]
def Ha(t:TokZ):Bool:=
 t.kind==5||t.kind==6||t.kind==1||t.kind==3||t.text==Pk||t.text==wIf||t.text==NE||t.text==KO||t.text==[63]||t.text==[91]||t.text==[40]
def BM:Nat->PS->Tree×PS
 |0,s=>(lp,s)
 | n+1,s=>
  if(bW s).text=Sc then(.node 5 [] [(bW s).lead] [],eo s)
  else if(bW s).text=RJ then(.node 6 [] [(bW s).lead] [],eo s)
  else if(bW s).text=Ro then(.node 7 [] [(bW s).lead] [],eo s)
  else if(bW s).text=[91]then
   (.node 8 [] [(bW s).lead,(gw [93] (BM n<|eo s).2).1] [(BM n<|eo s).1],(gw [93] (BM n<|eo s).2).2)
  else(.node 9 (uy 2 4 s).1 [(uy 2 4 s).2.1] [],(uy 2 4 s).2.2)
def Kz(n:Nat)(s0:PS):Tree×PS:=
 let a:=gw Nz s0
 let b:=uy 2 2 a.2
 let c:=gw [61] b.2.2
 let t:=BM n c.2
 (.node 3 b.1 [a.1,b.2.1,c.1] [t.1],t.2)
def Pr(n:Nat)(s0:PS):Tree×PS:=
 let b:=uy 1 1 s0
 let c:=gw [58] b.2.2
 let t:=BM n c.2
 (.node 4 b.1 [b.2.1,c.1] [t.1],t.2)
def commaF(item:PS->Tree×PS)(most:Nat)(beg:TokZ->Bool):Nat->List YB->YT->PS->List YB×YT×PS
 |0,cs,ks,s=>(cs,ks,s)
 | m+1,cs,ks,s=>
  if(bW s).text=[44]then
   let s2:=if ks.length=most∧beg (bW<|eo s)=true then zg 3 (eo s)else eo s
   commaF item most beg m (cs++[(bW s).lead]) (ks++[(item s2).1]) (item s2).2
  else(cs,ks,s)
def Sq(E:PS->Tree×PS)(s:PS):Tree×PS:=(.node 17 [] [] [(E s).1],(E s).2)
def Qe(item:PS->Tree×PS)(most:Nat)(beg:TokZ->Bool)(s:PS):List YB×YT×PS:=
 if(bW s).text=[41]then([],[],s)else commaF item most beg ((item s).2.toks.length+1) [] [(item s).1] (item s).2
def Sj(E:PS->Tree×PS)(s0:PS):Tree×PS:=
 if(bW s0).kind=1∧¬(bW<|eo s0).text=[40]then(.node 12 (bW s0).text [(bW s0).lead] [],eo s0)
 else
  let a:=gw [40]<|eo s0
  let r:=Qe (Sq E) 8 Ha a.2
  let z:=gw [41] r.2.2
  (.node 16 (bW s0).text ([(bW s0).lead,a.1,z.1]++r.1) r.2.1,z.2)
def Re(E:PS->Tree×PS)(s0:PS):Tree×PS:=
 let a:=gw [91] s0
 let r:=commaF E 16 Ha ((E a.2).2.toks.length+1) [] [(E a.2).1] (E a.2).2
 let z:=gw [93] r.2.2
 (.node 18 [] ([a.1,z.1]++r.1) r.2.1,z.2)
def QZ(E:PS->Tree×PS)(s0:PS):Tree×PS:=
 let e:=E<|eo s0
 let z:=gw [41] e.2
 (.node 22 [] [(bW s0).lead,z.1] [e.1],z.2)
def Dy(E:PS->Tree×PS)(s:PS):Tree×PS:=
 let t:=bW s
 if t.kind=1∨t.kind=3 then Sj E s
 else if t.text=NE then(.node 13 [] [t.lead] [],eo s)
 else if t.text=KO then(.node 14 [] [t.lead] [],eo s)
 else if t.text=[63]then(.node 15 [] [t.lead] [],eo s)
 else if t.text=[91]then Re E s
 else if t.text=[40]then QZ E s
 else if t.kind=5 then(.node 10 t.text [t.lead] [],eo s)
 else if t.kind=6 then(.node 11 t.text [t.lead] [],eo s)
 else(lp,zg 2 s)
def PN(U:PS->Tree×PS):Nat->Tree->PS->Tree×PS
 |0,t,s=>(t,s)
 |m+1,t,s=>
  if Rr (bW s).text=true then PN U m (.node 21 (bW s).text [(bW s).lead] [t,(U<|eo s).1]) (U<|eo s).2
  else(t,s)
def Sk(E:PS->Tree×PS)(s0:PS):Tree×PS:=
 let b:=uy 1 1<|eo s0
 let c:=gw [61] b.2.2
 let x:=E c.2
 let d:=gw wIn x.2
 let y:=E d.2
 (.node 20 b.1 [(bW s0).lead,b.2.1,c.1,d.1] [x.1,y.1],y.2)
def ifF(E:PS->Tree×PS)(s0:PS):Tree×PS:=
 let x:=E<|eo s0
 let c:=gw Rk x.2
 let y:=E c.2
 let d:=gw Rm y.2
 let z:=E d.2
 (.node 19 [] [(bW s0).lead,c.1,d.1] [x.1,y.1,z.1],z.2)
def Rw(E:PS->Tree×PS)(s:PS):Tree×PS:=
 if(bW s).text=Pk then Sk E s
 else if(bW s).text=wIf then ifF E s
 else PN (Dy E) ((Dy E s).2.toks.length+1) (Dy E s).1 (Dy E s).2
def NF:Nat->PS->Tree×PS
 |0,s=>(lp,s)
 |n+1,s=>Rw (NF n) s
def Cu(n:Nat)(s0:PS):Tree×PS:=
 let a:=gw Lr s0
 let b:=uy 1 1 a.2
 let c:=gw [40] b.2.2
 let r:=Qe (Pr n) 8 (λt=>t.kind==1) c.2
 let d:=gw [41] r.2.2
 let e:=gw [58] d.2
 let t:=BM n e.2
 let g:=gw [61] t.2
 let x:=NF n g.2
 (.node 2 b.1 ([a.1,b.2.1,c.1,d.1,e.1,g.1]++r.1) (r.2.1++[t.1,x.1]),x.2)
def Bi(n:Nat):Nat->YT->PS->YT×PS
 |0,ks,s=>(ks,s)
 |m+1,ks,s=>
  if s.toks=[]then(ks,s)
  else if¬(bW s).text=Lr∧¬(bW s).text=Nz then Bi n m ks (zg 2 s)
  else if ks.length=40 then Bi n m ks (zg 3 s)
  else if(bW s).text=Lr then Bi n m (ks++[(Cu n s).1]) (Cu n s).2
  else Bi n m (ks++[(Kz n s).1]) (Kz n s).2
def RG(n:Nat)(s0:PS):Tree×PS:=
 let a:=gw NT s0
 let b:=uy 2 2 a.2
 let r:=Bi n (b.2.2.toks.length+2) [] b.2.2
 (.node 1 b.1 [a.1,b.2.1,[]] r.1,r.2)
mutual
def depthT:Tree->Nat
 |.node _ _ _ ks=>depthsT ks+1
def depthsT:YT->Nat
 |[]=>0
 |t::r=>max (depthT t)<|depthsT r
end
def PF(toks:List TokZ)(size:Nat):PS:=⟨toks,match toks with|[]=>size|t::_=>t.lead.length,size,0,0⟩
def QC(l:YB):Tree×Nat×Nat:=
 let r:=fz l
 if¬r.err=0 then(lp,r.place,r.err)
 else
  let f:=RG (r.toks.length+1)<|PF r.toks l.length
  if¬f.2.failed=0 then(lp,f.2.place,f.2.failed)
  else if 40<depthT f.1 then(lp,0,4)
  else(.node f.1.kind f.1.text (f.1.leads.set 2 r.tail) f.1.kids,0,0)
end Go.Proofs.YtehhanlhfdoiaaaGreat.Sx
namespace Go.Proofs.YtehhanlhfdoiaaaGreat
open _root_.Go.Proofs.Tryz
open Go.RowKit Lx Sx
abbrev kg(l:YB):Value:=.string ⟨l.toArray⟩
def RowIn(S:Nat->Prop)(w:World)(size:Nat)(A:Option Addr)(n:Nat)(xs:List Value):Prop:=
 xs.length=n*size∧(0<n->∃b off,A=some ⟨b,off,none⟩∧S b∧b<w.heap.size∧∀j,j<n*size->w.cell? ⟨b,off+j,none⟩=xs[j]?)
mutual
def TreeIs(S:Nat->Prop)(w:World):Tree->List Value->Prop
 |.node k s ls ks,c=>∃A m B n,c=[.int .i64 k,kg s,.slice A ls.length m,.slice B ks.length n]∧ls.length<=m∧m<=maxLen∧ks.length<=n∧n<=maxLen∧
  RowIn S w 1 A ls.length (ls.map kg)∧∃cs,KidsAre S w ks cs∧RowIn S w 4 B ks.length cs
def KidsAre(S:Nat->Prop)(w:World):YT->List Value->Prop
 |[],cs=>cs=[]
 |t::r,cs=>∃c d,cs=c++d∧TreeIs S w t c∧KidsAre S w r d
end
variable{A:Option Addr}
variable{n:Nat}{xs:List Value}
variable{m:Nat}
section
variable{S S':Nat->Prop}{w w':World}
theorem RowIn.none_{size:Nat}:RowIn S w size A 0 []:=⟨by simp,λh=>absurd h<|by omega⟩
theorem RowIn.keepB{size:Nat}(h:RowIn S w size A n xs)(G:∀b,S b->b<w.heap.size->S' b)(J:∀b,S b->b<w.heap.size->w'.heap[b]?=w.heap[b]?):RowIn S' w' size A n xs:=by
 refine⟨h.1,λhn=>?_⟩;obtain⟨b,off,e,hs,hb,O⟩:=h.2 hn;have E:=J b hs hb;refine⟨b,off,e,G b hs hb,?_,λj U=>?_⟩
 ·rcases Nat.lt_or_ge b w'.heap.size with h1|h1
  ·exact h1
  ·rw[Array.getElem?_eq_none h1,Array.getElem?_eq_getElem hb]at E;cases E
 ·rw[<-O j U];exact World.cell?_of_block (a:=⟨b,off+j,none⟩) E
theorem RowIn.keep{size:Nat}(h:RowIn S w size A n xs)(G:∀b,S b->S' b)(J:∀b,S b->b<w.heap.size->w'.heap[b]?=w.heap[b]?):RowIn S' w' size A n xs:=by
 refine⟨h.1,λhn=>?_⟩;obtain⟨b,off,e,hs,hb,O⟩:=h.2 hn;have E:=J b hs hb;refine⟨b,off,e,G b hs,?_,λj U=>?_⟩
 ·rcases Nat.lt_or_ge b w'.heap.size with h1|h1
  ·exact h1
  ·rw[Array.getElem?_eq_none h1,Array.getElem?_eq_getElem hb]at E;cases E
 ·rw[<-O j U];exact World.cell?_of_block (a:=⟨b,off+j,none⟩) E
mutual
theorem TreeIs.keepB(hS:∀b,S b->b<w.heap.size->S' b)(hk:∀b,S b->b<w.heap.size->w'.heap[b]?=w.heap[b]?):∀{t:Tree} {c:List Value},TreeIs S w t c->TreeIs S' w' t c
 |.node k s ls ks,c,h=>by simp only[TreeIs]at h⊢;obtain⟨A,m,B,n,e,h1,h2,h3,h4,h5,cs,h6,h7⟩:=h;exact⟨A,m,B,n,e,h1,h2,h3,h4,h5.keepB hS hk,cs,KidsAre.keepB hS hk h6,h7.keepB hS hk⟩
theorem KidsAre.keepB(hS:∀b,S b->b<w.heap.size->S' b)(hk:∀b,S b->b<w.heap.size->w'.heap[b]?=w.heap[b]?):∀{ts:YT} {cs:List Value},KidsAre S w ts cs->KidsAre S' w' ts cs
 |[],cs,h=>by simp only[KidsAre]at h⊢;exact h
 |t::r,cs,h=>by simp only[KidsAre]at h⊢;obtain⟨c,d,e,h1,h2⟩:=h;exact⟨c,d,e,TreeIs.keepB hS hk h1,KidsAre.keepB hS hk h2⟩
end
theorem TreeIs.four{t:Tree}{c:List Value}(h:TreeIs S w t c):c.length=4:=by cases t;simp only[TreeIs]at h;obtain⟨A,m,B,n,e,_⟩:=h;rw[e];rfl
theorem KidsAre.length:∀{ts:YT} {cs:List Value},KidsAre S w ts cs->cs.length=ts.length*4
 |[],cs,h=>by simp only[KidsAre]at h;simp[h]
 |t::r,cs,h=>by simp only[KidsAre]at h;obtain⟨c,d,e,h1,h2⟩:=h;have :=KidsAre.length h2;have :=h1.four;rw[e];simp;omega
theorem KidsAre.at_:∀{ts:YT} {cs:List Value} {i:Nat},KidsAre S w ts cs->(hi:i<ts.length)->∃c0 E G J,TreeIs S w ts[i] [c0,E,G,J]∧cs[i*4]?=some c0∧cs[i*4+1]?=some E∧cs[i*4+2]?=some G∧cs[i*4+3]?=some J
 |t::r,cs,0,h,hi=>by
  simp only[KidsAre]at h;obtain⟨c,d,e,h1,h2⟩:=h;have O:=h1.four
  match c,O,h1,e with
  |[c0,E,G,J],_,h1,e=>exact⟨c0,E,G,J,h1,by simp[e],by simp[e],by simp[e],by simp[e]⟩
 |t::r,cs,i+1,h,hi=>by
  simp only[KidsAre]at h;obtain⟨c,d,e,h1,h2⟩:=h;have O:=h1.four;obtain⟨c0,E,G,J,g,g0,g1,g2,U⟩:=KidsAre.at_ (i:=i) h2 (by simpa using hi);refine⟨c0,E,G,J,by simpa using g,?_,?_,?_,?_⟩
  ·rw[e,List.getElem?_append_right (by omega),show(i+1)*4-c.length=i*4 by omega];exact g0
  ·rw[e,List.getElem?_append_right (by omega),show(i+1)*4+1-c.length=i*4+1 by omega];exact g1
  ·rw[e,List.getElem?_append_right (by omega),show(i+1)*4+2-c.length=i*4+2 by omega];exact g2
  ·rw[e,List.getElem?_append_right (by omega),show(i+1)*4+3-c.length=i*4+3 by omega];exact U
abbrev Any:Nat->Prop:=λ_=>True
theorem Oo{k:Int}{s:YB}{ls:List YB}{ks:YT}{A B:Option Addr}{cs:List Value}(h1:ls.length<=m)(h2:m<=maxLen)(E:ks.length<=n)(G:n<=maxLen)
  (J:RowIn S w 1 A ls.length<|ls.map kg) (O:KidsAre S w ks cs) (U:RowIn S w 4 B ks.length cs):TreeIs S w (.node k s ls ks) [.int .i64 k,kg s,.slice A ls.length m,.slice B ks.length n]:=by
 simp only[TreeIs];exact⟨A,m,B,n,I,h1,h2,E,G,J,cs,O,U⟩
theorem TreeIs.one{t:Tree}{c:List Value}(h:TreeIs S w t c):c.all (·.oneCell')=true:=by cases t;simp only[TreeIs]at h;obtain⟨A,m,B,n,e,_⟩:=h;rw[e];rfl
end
open Go.RowKit
inductive MK where
 |row
 |ix (i:Nat)
 |mp (i:Nat)
inductive V where
 |int (k:IntKind) (n:Int)
 |bool (b:Bool)
 |str (l:List UInt8)
 |nilp
 |nils
 |raw (x:Value)
 |ptr (id off:Nat)
 |el (id sz i off:Nat)
 |sl (id:Nat)
 |box (cs:List V) (off:Nat)
 |row (sz:Nat) (els:List V)
 |agg (cs:List V)
 |tup (vs:List V)
 |clo (fid:FuncId) (cs:List V)
 |lk (els:List (List V))
 |np (id:Nat)
 |mm (id:Nat) (k:MK)
abbrev qi(n:Int):V:=.int .i64 n
inductive Ob where
 |free
 |gone
 |var (t:TypeId) (cs:List V)
 |row (e:TypeId) (sz:Nat) (els:List V)
 |ext (bs:List Nat) (Φ:World->Prop)
 |mp (kt et:TypeId) (ks vs:List V)
 |mps (e kt et:TypeId) (ms:List (List V×List V))
def Value.blk:Value->Option Nat
 |.pointer (some a)=>some a.block
 |_=>none
def mmV(x:Option Value)(k:MK):Option Value:=match x with
 |some (.tuple xs)=>match k with
  |.row=>xs[0]?
  |.mp i=>xs[i+1]?
  |.ix i=>match(xs[0]?:Option Value)with
   |some (Value.slice (some ⟨b,0,none⟩) _ _)=>some<|.pointer<|some ⟨b,i,none⟩
   |_=>none
 |_=>none
theorem Fe{x:Option Value}{k:MK}{y:Value}(h:mmV x k=some y):∃z,x=some z:=by
 cases x with
 |none=>simp[mmV]at h
 |some z=>exact⟨z,rfl⟩
abbrev ρ0:Nat->Option Value:=λ_=>none
section
variable(S:Nat->Prop)(w:World)
mutual
def VRel(ρ:Nat->Option Value):V->Value->Prop
 |.int k n,x=>x=.int k n
 |.bool b,x=>x=.bool b
 |.str l,x=>x=.string ⟨l.toArray⟩
 |.nilp,x=>x=.pointer none
 |.nils,x=>x=.slice none 0 0
 |.raw y,x=>x=y∧y.oneCell'=true
 |.ptr id o,x=>∃b,ρ id=some (.pointer<|some ⟨b,0,none⟩)∧x=.pointer (some ⟨b,o,none⟩)
 |.el id sz i o,x=>∃b n c,ρ id=some (.slice (some ⟨b,0,none⟩) n c)∧x=.pointer (some ⟨b,i*sz+o,none⟩)
 |.sl id,x=>ρ id=some x∧x.oneCell'=true
 |.box cs o,x=>∃b off xs,x=.pointer (some ⟨b,off+o,none⟩)∧S b∧b<w.heap.size∧LRel ρ0 cs xs∧∀j,j<xs.length->w.cell? ⟨b,off+j,none⟩=xs[j]?
 |.row sz els,x=>∃A c xs,x=.slice A els.length c∧els.length<=c∧c<=maxLen∧CRel ρ0 sz els xs∧RowIn S w sz A els.length xs
 |.agg cs,x=>∃xs,x=.agg xs.toArray∧LRel ρ cs xs
 |.tup cs,x=>∃xs,x=.tuple xs.toArray∧LRel ρ cs xs
 |.clo fid cs,x=>∃xs,x=.func (.func fid) #[] xs.toArray∧LRel ρ cs xs
 |.lk els,x=>KRel els x
 |.np id,x=>x=.pointer none∨∃b,ρ id=some (.pointer<|some ⟨b,0,none⟩)∧x=.pointer (some ⟨b,0,none⟩)
 |.mm id k,x=>mmV (ρ id) k=some x∧x.oneCell'=true
def LRel(ρ:Nat->Option Value):List V->List Value->Prop
 |[],xs=>xs=[]
 |v::r,xs=>∃x ys,xs=x::ys∧VRel ρ v x∧LRel ρ r ys
def KRel:List (List V)->Value->Prop
 |[],x=>x=.pointer none
 |cs::r,x=>∃b off xs y,x=.pointer (some ⟨b,off,none⟩)∧S b∧b<w.heap.size∧LRel ρ0 cs xs∧KRel r y∧y.oneCell'=true∧∀j,j<xs.length+1->w.cell? ⟨b,off+j,none⟩=(xs++[y])[j]?
def CRel(ρ:Nat->Option Value)(sz:Nat):List V->List Value->Prop
 |[],xs=>xs=[]
 |v::r,xs=>∃x ys,xs=x.cells.toList++ys∧(x.cells.size=sz∧x.cells.toList.all (·.oneCell')=true)∧VRel ρ v x∧CRel ρ sz r ys
end
end
structure Up (S S':Nat->Prop) (w w':World) (ρ ρ':Nat->Option Value):Prop where
 s:∀b,S b->S' b
 blk:∀b,S b->b<w.heap.size->w'.heap[b]?=w.heap[b]?
 r:∀i x,ρ i=some x->ρ' i=some x
variable{b:Nat}
variable{i:Nat}
variable{ρ:Nat->Option Value}
section
variable{S S':Nat->Prop}{w w':World}
section
variable{ρ ρ':Nat->Option Value}
theorem Up.refl:Up S S w w ρ ρ:=⟨λ_ h=>h,λ_ _ _=>rfl,λ_ _ h=>h⟩
theorem Up.lt(u:Up S S' w w' ρ ρ')(hs:S b)(hb:b<w.heap.size):b<w'.heap.size:=by
 have E:=u.blk b hs hb;rcases Nat.lt_or_ge b w'.heap.size with h1|h1
 ·exact h1
 ·rw[Array.getElem?_eq_none h1,Array.getElem?_eq_getElem hb]at E;cases E
theorem Up.cell(u:Up S S' w w' ρ ρ')(hs:S b)(hb:b<w.heap.size):w'.cell? ⟨b,i,none⟩=w.cell? ⟨b,i,none⟩:=
 World.cell?_of_block (a:=⟨b,i,none⟩) (u.blk b hs hb)
end
theorem Up.z{ρ':Nat->Option Value}(u:Up S S' w w' ρ ρ'):Up S S' w w' ρ0 ρ0:=⟨u.s,u.blk,λ_ _ h=>h⟩
mutual
theorem VRel.up{ρ ρ':Nat->Option Value}(u:Up S S' w w' ρ ρ'):∀{v:V} {x:Value},VRel S w ρ v x->VRel S' w' ρ' v x
 |.int _ _,x,h=>by simp only[VRel]at h⊢;exact h
 |.bool _,x,h=>by simp only[VRel]at h⊢;exact h
 |.str _,x,h=>by simp only[VRel]at h⊢;exact h
 |.nilp,x,h=>by simp only[VRel]at h⊢;exact h
 |.nils,x,h=>by simp only[VRel]at h⊢;exact h
 |.raw _,x,h=>by simp only[VRel]at h⊢;exact h
 |.ptr id o,x,h=>by simp only[VRel]at h⊢;obtain⟨b,h1,h2⟩:=h;exact⟨b,u.r _ _ h1,h2⟩
 |.el id sz i o,x,h=>by simp only[VRel]at h⊢;obtain⟨b,n,c,h1,h2⟩:=h;exact⟨b,n,c,u.r _ _ h1,h2⟩
 |.sl id,x,h=>by simp only[VRel]at h⊢;exact⟨u.r _ _ h.1,h.2⟩
 |.box cs o,x,h=>by
  simp only[VRel]at h⊢;obtain⟨b,off,xs,h1,h2,h3,h4,h5⟩:=h;exact⟨b,off,xs,h1,u.s b h2,u.lt h2 h3,LRel.up u.z h4,λj hj=>(u.cell h2 h3).trans<|h5 j hj⟩
 |.row sz els,x,h=>by simp only[VRel]at h⊢;obtain⟨A,c,xs,h1,h2,h3,h4,h5⟩:=h;exact⟨A,c,xs,h1,h2,h3,CRel.up u.z h4,h5.keep u.s u.blk⟩
 |.agg cs,x,h=>by simp only[VRel]at h⊢;obtain⟨xs,h1,h2⟩:=h;exact⟨xs,h1,LRel.up u h2⟩
 |.tup cs,x,h=>by simp only[VRel]at h⊢;obtain⟨xs,h1,h2⟩:=h;exact⟨xs,h1,LRel.up u h2⟩
 |.clo fid cs,x,h=>by simp only[VRel]at h⊢;obtain⟨xs,h1,h2⟩:=h;exact⟨xs,h1,LRel.up u h2⟩
 |.lk els,x,h=>by simp only[VRel]at h⊢;exact KRel.up u h
 |.np id,x,h=>by simp only[VRel]at h⊢;exact h.imp_right λ⟨b,h1,h2⟩=>⟨b,u.r _ _ h1,h2⟩
 |.mm id k,x,h=>by simp only[VRel]at h⊢;obtain⟨z,hz⟩:=Fe h.1;rw[u.r _ _ hz];rw[hz]at h;exact h
theorem KRel.up{ρ ρ':Nat->Option Value}(u:Up S S' w w' ρ ρ'):∀{els:List<|List V} {x:Value},KRel S w els x->KRel S' w' els x
 |[],x,h=>by simp only[KRel]at h⊢;exact h
 |cs::r,x,h=>by
  simp only[KRel]at h⊢;obtain⟨b,off,xs,y,h1,h2,h3,h4,h5,h6,h7⟩:=h;exact⟨b,off,xs,y,h1,u.s b h2,u.lt h2 h3,LRel.up u.z h4,KRel.up u h5,h6,λj hj=>(u.cell h2 h3).trans<|h7 j hj⟩
theorem LRel.up{ρ ρ':Nat->Option Value}(u:Up S S' w w' ρ ρ'):∀{v:List V} {x:List Value},LRel S w ρ v x->LRel S' w' ρ' v x
 |[],x,h=>by simp only[LRel]at h⊢;exact h
 |v::r,x,h=>by simp only[LRel]at h⊢;obtain⟨y,ys,h1,h2,h3⟩:=h;exact⟨y,ys,h1,VRel.up u h2,LRel.up u h3⟩
theorem CRel.up{ρ ρ':Nat->Option Value}(u:Up S S' w w' ρ ρ'){sz:Nat}:∀{v:List V} {x:List Value},CRel S w ρ sz v x->CRel S' w' ρ' sz v x
 |[],x,h=>by simp only[CRel]at h⊢;exact h
 |v::r,x,h=>by simp only[CRel]at h⊢;obtain⟨y,ys,h1,h2,h3,h4⟩:=h;exact⟨y,ys,h1,h2,VRel.up u h3,CRel.up u h4⟩
end
end
section
variable(S:Nat->Prop)(w:World)(ρ:Nat->Option Value)
def own(id:Nat):Ob->Nat->Prop
 |.free,_=>False
 |.gone,_=>False
 |.var _ _,b=>ρ id=some (.pointer<|some ⟨b,0,none⟩)
 |.row _ _ _,b=>∃v,ρ id=some v∧v.ownBlock=some b
 |.ext bs _,b=>b∈bs
 |.mp _ _ _ _,b=>ρ id=some (.map<|some b)
 |.mps _ _ _ _,b=>∃xs:Array Value,ρ id=some (.tuple xs)∧((∃v,xs[0]?=some v∧v.ownBlock=some b)∨∃i,xs[i+1]?=some (Value.map<|some b))
def KW(bs:YN)(ms:List<|List V×List V):Prop:=bs.length=ms.length∧∀(i b:Nat) (m:List V×List V),bs[i]?=some b->ms[i]?=some m->∃es clock,w.heap[b]?=some (.map es clock)∧LRel S w ρ0 m.1 (es.toList.map (·.key))∧LRel S w ρ0 m.2 (es.toList.map (·.val))
def mpV(bs:YN):List Value:=bs.map λb=>Value.map<|some b
def gn(id:Nat):Ob->Prop
 |.free=>ρ id=none
 |.gone=>True
 |.var t cs=>∃b xs,ρ id=some (.pointer<|some ⟨b,0,none⟩)∧Blk w b t xs∧LRel S w ρ cs xs
 |.row e sz els=>∃v xs,ρ id=some v∧w.ownsRow 0 e sz v els.length xs∧CRel S w ρ sz els xs
 |.ext bs Φ=>Φ w∧(∀b,b∈bs->b<w.heap.size)∧∀w',(∀b,b∈bs->w'.heap[b]?=w.heap[b]?)->Φ w'
 |.mp _ _ ks vs=>∃b es clock,ρ id=some (.map<|some b)∧w.heap[b]?=some (.map es clock)∧LRel S w ρ0 ks (es.toList.map (·.key))∧LRel S w ρ0 vs (es.toList.map (·.val))
 |.mps e _ _ ms=>∃v bs,ρ id=some (.tuple (v::mpV bs).toArray)∧w.ownsRow 0 e 1 v ms.length (mpV bs)∧bs.Nodup∧(∀b∈bs,v.ownBlock≠some b)∧KW S w bs ms
def Dz:List (Nat×List V):=[]
structure SOk:Prop where
 lt:∀b,S b->b<w.heap.size
 gl:∀p∈Dz,VRel S w ρ0 (.box p.2 0) (.pointer (some ⟨p.1,0,none⟩))
structure HRel (h:Nat->Ob):Prop where
 ob:∀id,gn S w ρ id (h id)
 sep:∀id b,own ρ id (h id) b->¬S b
 dis:∀i j b,own ρ i (h i) b->own ρ j (h j) b->i=j
 slt:SOk S w
end
instance slt_fun {S:Nat->Prop} {w:World}:CoeFun (SOk S w) (λ_=>∀b,S b->b<w.heap.size):=⟨SOk.lt⟩
theorem SOk.up{S S':Nat->Prop}{w w':World}{ρ':Nat->Option Value}(h:SOk S w)(u:Up S S' w w' ρ ρ')(E:∀b,S' b->b<w'.heap.size):SOk S' w':=⟨E,λp hp=>VRel.up u.z<|h.gl p hp⟩
variable{base sz:Nat}
variable{v:V}
section
variable{S S':Nat->Prop}{w w':World}{ρ ρ':Nat->Option Value}{h h':Nat->Ob}
theorem cR{e:Nat}{v:Value}(ho:w.ownsRow base e sz v n xs)(E:∀b,v.ownBlock=some b->w'.heap[b]?=w.heap[b]?):w'.ownsRow base e sz v n xs:=by
 refine⟨ho.1,?_⟩;rcases ho.2 with G|⟨g,cap,cur,rfl,hb,J,O⟩
 ·exact .inl G
 ·exact .inr ⟨g,cap,cur,I,hb,(E g I).trans J,O⟩
theorem dd{id:Nat}{o:Ob}(ho:gn S w ρ id o)(hb:own ρ id o b):b<w.heap.size:=by
 cases o with
 |free=>exact hb.elim
 |gone=>exact hb.elim
 |var t cs=>
  obtain⟨b',xs,h1,h2,_⟩:=ho;simp only[own]at hb;rw[h1]at hb;simp only[aab,Value.pointer.injEq,Addr.mk.injEq,and_true]at hb;subst hb;exact h2.lt
 |row e sz els=>
  obtain⟨v,xs,h1,h2,_⟩:=ho;obtain⟨v',h3,h4⟩:=hb;rw[h1]at h3;simp only[aab]at h3;subst h3;exact(h2.lt b h4).2
 |ext bs Φ=>exact ho.2.1 b hb
 |mp kt et ks vs=>
  obtain⟨b',es,ck,h1,h2,_⟩:=ho;simp only[own]at hb;rw[h1]at hb;simp only[aab,Value.map.injEq]at hb;subst hb;rcases Nat.lt_or_ge b' w.heap.size with h3|h3
  ·exact h3
  ·rw[Array.getElem?_eq_none h3]at h2;cases h2
 | mps e kt et ms=>
  obtain⟨v,bs,h1,h2,_,_,h3,h4⟩:=ho;simp only[own]at hb;obtain⟨xs,h5,h6⟩:=hb;rw[h1]at h5;simp only[aab,Value.tuple.injEq]at h5;subst h5;rcases h6 with⟨v',h7,h8⟩|⟨i,h7⟩
  ·simp only[List.getElem?_toArray,List.getElem?_cons_zero,aab]at h7;subst h7;exact(h2.lt b h8).2
  ·simp only[List.getElem?_toArray,List.getElem?_cons_succ,mpV,List.getElem?_map,Option.map_eq_some_iff,Value.map.injEq,aab]at h7;obtain⟨b',h8,rfl⟩:=h7;have hi:i<ms.length:=by rw[<-h3];exact(List.getElem?_eq_some_iff.1 h8).1
   obtain⟨es,ck,h9,_⟩:=h4 i b' _ h8<|List.getElem?_eq_getElem hi;rcases Nat.lt_or_ge b' w.heap.size with h10|h10
   ·exact h10
   ·rw[Array.getElem?_eq_none h10]at h9;cases h9
theorem gn.up{id:Nat}{o:Ob}(u:Up S S' w w' ρ ρ')(hf:o=.free->ρ' id=none)(ho:gn S w ρ id o)(G:∀b,own ρ id o b->w'.heap[b]?=w.heap[b]?):gn S' w' ρ' id o:=by
 cases o with
 |free=>exact hf rfl
 |gone=>trivial
 |var t cs=>
  obtain⟨b',xs,h1,h2,E⟩:=ho;exact⟨b',xs,u.r _ _ h1,(G b' h1).trans h2,LRel.up u E⟩
 |row e sz els=>
  obtain⟨v,xs,h1,h2,E⟩:=ho;exact⟨v,xs,u.r _ _ h1,cR h2 λb hb=>G b ⟨v,h1,hb⟩,CRel.up u E⟩
 |mp kt et ks vs=>
  obtain⟨b',es,ck,h1,h2,E,J⟩:=ho;exact⟨b',es,ck,u.r _ _ h1,(G b' h1).trans h2,LRel.up u.z E,LRel.up u.z J⟩
 |mps e kt et ms=>
  obtain⟨v,bs,h1,h2,U,Z,E,J⟩:=ho;have e0:(v::mpV bs).toArray[0]?=some v:=by simp
  refine⟨v,bs,u.r _ _ h1,cR h2 λb hb=>G b ⟨_,h1,.inl ⟨v,e0,hb⟩⟩,U,Z,E,λi b m hb hm=>?_⟩;obtain⟨es,ck,g1,g2,g3⟩:=J i b m hb hm;exact⟨es,ck,(G b ⟨_,h1,.inr ⟨i,by simp[mpV,hb]⟩⟩).trans g1,LRel.up u.z g2,LRel.up u.z g3⟩
 |ext bs Φ=>
  obtain⟨h1,h2,E⟩:=ho;refine⟨E _ G,λb hb=>?_,λw'' h'=>E w'' λb hb=>(h' b hb).trans<|G b hb⟩;have O:=G b hb;rcases Nat.lt_or_ge b w'.heap.size with J|J
  ·exact J
  ·rw[Array.getElem?_eq_none J,Array.getElem?_eq_getElem<|h2 b hb]at O;cases O
theorem FJ{id:Nat}{o:Ob}(hr:∀i x,ρ i=some x->ρ' i=some x)(ho:gn S w ρ id o)(hb:own ρ' id o b):own ρ id o b:=by
 cases o with
 |free=>exact hb
 |gone=>exact hb
 |var t cs=>
  obtain⟨b',xs,h1,h2,G⟩:=ho;have :=hr _ _ h1;simp only[own]at hb⊢;rw[this]at hb;rw[h1];exact hb
 |row e sz els=>
  obtain⟨v,xs,h1,h2,G⟩:=ho;obtain⟨O,E,J⟩:=hb;rw[hr _ _ h1]at E;simp only[aab]at E;subst E;exact⟨v,h1,J⟩
 |ext bs Φ=>exact hb
 |mp kt et ks vs=>
  obtain⟨b',es,ck,h1,h2,G⟩:=ho;have :=hr _ _ h1;simp only[own]at hb⊢;rw[this]at hb;rw[h1];exact hb
 |mps e kt et ms=>
  obtain⟨v,bs,h1,_⟩:=ho;have :=hr _ _ h1;simp only[own]at hb⊢;rw[this]at hb;rw[h1];exact hb
theorem LRel.length:∀{vs:List V} {xs:List Value},LRel S w ρ vs xs->xs.length=vs.length
 |[],xs,h=>by simp only[LRel]at h;simp[h]
 |v::r,xs,h=>by simp only[LRel]at h;obtain⟨x,ys,rfl,_,E⟩:=h;simp[LRel.length E]
theorem LRel.get:∀{vs:List V} {xs:List Value} {i:Nat} {v:V},LRel S w ρ vs xs->vs[i]?=some v->∃x,xs[i]?=some x∧VRel S w ρ v x
 |[],xs,i,v,h,hi=>by simp at hi
 |u::r,xs,0,v,h,hi=>by simp only[LRel]at h;obtain⟨x,ys,rfl,h2,E⟩:=h;simp only[List.getElem?_cons_zero,aab]at hi;subst hi;exact⟨x,by simp,h2⟩
 |u::r,xs,i+1,v,h,hi=>by simp only[LRel]at h;obtain⟨x,ys,rfl,h2,E⟩:=h;simp only[List.getElem?_cons_succ]at hi⊢;exact LRel.get E hi
theorem LRel.set:∀{vs:List V} {xs:List Value} {i:Nat} {v:V} {x:Value},LRel S w ρ vs xs->VRel S w ρ v x->LRel S w ρ (vs.set i v) (xs.set i x)
 |[],xs,i,v,x,h,hx=>by simp only[LRel]at h;subst h;simp[LRel]
 |u::r,xs,0,v,x,h,hx=>by simp only[LRel]at h;obtain⟨y,ys,rfl,h2,E⟩:=h;exact⟨x,ys,by simp,hx,E⟩
 |u::r,xs,i+1,v,x,h,hx=>by simp only[LRel]at h;obtain⟨y,ys,rfl,h2,E⟩:=h;exact⟨y,ys.set i x,by simp,h2,LRel.set E hx⟩
theorem LRel.append:∀{vs us:List V} {xs ys:List Value},LRel S w ρ vs xs->LRel S w ρ us ys->LRel S w ρ (vs++us) (xs++ys)
 |[],us,xs,ys,h,E=>by simp only[LRel]at h;subst h;simpa using E
 |v::r,us,xs,ys,h,E=>by simp only[LRel]at h;obtain⟨y,zs,rfl,h2,G⟩:=h;exact⟨y,zs++ys,by simp,h2,LRel.append G E⟩
theorem LRel.drop:∀{vs:List V} {xs:List Value} (n:Nat),LRel S w ρ vs xs->LRel S w ρ (vs.drop n) (xs.drop n)
 |vs,xs,0,h=>by simpa using h
 |[],xs,n+1,h=>by simp only[LRel]at h;subst h;simp[LRel]
 |v::r,xs,n+1,h=>by simp only[LRel]at h;obtain⟨y,zs,rfl,h2,E⟩:=h;simpa using LRel.drop n E
theorem LRel.take:∀{vs:List V} {xs:List Value} (n:Nat),LRel S w ρ vs xs->LRel S w ρ (vs.take n) (xs.take n)
 |vs,xs,0,h=>by simp[LRel]
 |[],xs,n+1,h=>by simp only[LRel]at h;subst h;simp[LRel]
 |v::r,xs,n+1,h=>by simp only[LRel]at h;obtain⟨y,zs,rfl,h2,E⟩:=h;exact⟨y,zs.take n,by simp,h2,LRel.take n E⟩
theorem CRel.length{sz:Nat}:∀{vs:List V} {xs:List Value},CRel S w ρ sz vs xs->xs.length=vs.length*sz
 |[],xs,h=>by simp only[CRel]at h;simp[h]
 |v::r,xs,h=>by simp only[CRel]at h;obtain⟨x,ys,rfl,⟨h2,_⟩,G,E⟩:=h;have :=CRel.length E;simp[this,h2,Nat.add_mul];omega
theorem CRel.get{sz:Nat}:∀{vs:List V} {xs:List Value} {i:Nat} {v:V},CRel S w ρ sz vs xs->vs[i]?=some v->∃x,VRel S w ρ v x∧x.cells.size=sz∧∀j,j<sz->xs[i*sz+j]?=x.cells.toList[j]?
 |[],xs,i,v,h,hi=>by simp at hi
 |u::r,xs,0,v,h,hi=>by simp only[CRel]at h;obtain⟨x,ys,rfl,⟨h2,_⟩,E,G⟩:=h;simp only[List.getElem?_cons_zero,aab]at hi;subst hi;exact⟨x,E,h2,λj J=>by rw[List.getElem?_append_left (by simp;omega)];simp⟩
 |u::r,xs,i+1,v,h,hi=>by
  simp only[CRel]at h;obtain⟨x,ys,rfl,⟨h2,_⟩,E,G⟩:=h;simp only[List.getElem?_cons_succ]at hi;obtain⟨y,g1,g2,O⟩:=CRel.get G hi;refine⟨y,g1,g2,λj J=>?_⟩;rw[List.getElem?_append_right (by simp[h2,Nat.add_mul];omega),<-O j J]
  congr 1
  simp[h2,Nat.add_mul];omega
theorem CRel.append{sz:Nat}:∀{vs us:List V} {xs ys:List Value},CRel S w ρ sz vs xs->CRel S w ρ sz us ys->CRel S w ρ sz (vs++us) (xs++ys)
 |[],us,xs,ys,h,E=>by simp only[CRel]at h;subst h;simpa using E
 |v::r,us,xs,ys,h,E=>by simp only[CRel]at h;obtain⟨y,zs,rfl,h2,G,J⟩:=h;exact⟨y,zs++ys,by simp,h2,G,CRel.append J E⟩
theorem CRel.drop{sz:Nat}:∀{vs:List V} {xs:List Value} (n:Nat),CRel S w ρ sz vs xs->CRel S w ρ sz (vs.drop n) (xs.drop<|n*sz)
 |vs,xs,0,h=>by simpa using h
 |[],xs,n+1,h=>by simp only[CRel]at h;subst h;simp[CRel]
 | v::r,xs,n+1,h=>by
  simp only[CRel]at h;obtain⟨y,zs,rfl,⟨h2,_⟩,h3,h4⟩:=h;have :=CRel.drop n h4;have e:(y.cells.toList++zs).drop ((n+1)*sz)=zs.drop (n*sz):=by
   rw[List.drop_append,List.drop_of_length_le<|by simp[h2,Nat.add_mul]];simp[h2,Nat.add_mul]
  rw[e];simpa using this
theorem CRel.take{sz:Nat}:∀{vs:List V} {xs:List Value} (n:Nat),CRel S w ρ sz vs xs->CRel S w ρ sz (vs.take n) (xs.take<|n*sz)
 |vs,xs,0,h=>by simp[CRel]
 |[],xs,n+1,h=>by simp only[CRel]at h;subst h;simp[CRel]
 | v::r,xs,n+1,h=>by
  simp only[CRel]at h;obtain⟨y,zs,rfl,⟨h2,h1⟩,h3,h4⟩:=h;have :=CRel.take n h4;have e:(y.cells.toList++zs).take ((n+1)*sz)=y.cells.toList++zs.take (n*sz):=by
   rw[List.take_append,List.take_of_length_le<|by simp[h2,Nat.add_mul]]
   congr 2
   simp[h2,Nat.add_mul]
  rw[e];exact⟨y,_,I,⟨h2,h1⟩,h3,this⟩
theorem CRel.ones{sz:Nat}:∀{vs:List V} {xs:List Value},CRel S w ρ sz vs xs->∀u∈xs,u.oneCell'=true
 |[],xs,h=>by simp only[CRel]at h;subst h;simp
 |v::r,xs,h=>by
  simp only[CRel]at h;obtain⟨x,ys,rfl,⟨h2,h1⟩,J,E⟩:=h;intro u G;rcases List.mem_append.1 G with h|h
  ·exact List.all_eq_true.1 h1 u h
  ·exact CRel.ones E u h
def V.one:V->Bool
 |.agg _=>false
 |.tup _=>false
 |_=>true
theorem VRel.one{x:Value}(hv:VRel S w ρ v x)(h1:v.one=true):x.oneCell'=true:=by
 cases v with
 |int _ _=>simp only[VRel]at hv;subst hv;rfl
 |bool _=>simp only[VRel]at hv;subst hv;rfl
 |str _=>simp only[VRel]at hv;subst hv;rfl
 |nilp=>simp only[VRel]at hv;subst hv;rfl
 |nils=>simp only[VRel]at hv;subst hv;rfl
 |np id=>simp only[VRel]at hv;rcases hv with rfl|⟨b,_,rfl⟩<;>rfl
 |mm id k=>simp only[VRel]at hv;exact hv.2
 |raw y=>simp only[VRel]at hv;obtain⟨rfl,h⟩:=hv;exact h
 |ptr id o=>simp only[VRel]at hv;obtain⟨b,_,rfl⟩:=hv;rfl
 |el id sz i o=>simp only[VRel]at hv;obtain⟨b,n,c,_,rfl⟩:=hv;rfl
 |sl id=>simp only[VRel]at hv;exact hv.2
 |box cs o=>simp only[VRel]at hv;obtain⟨b,off,xs,rfl,_⟩:=hv;rfl
 |row sz els=>simp only[VRel]at hv;obtain⟨A,c,xs,rfl,_⟩:=hv;rfl
 |agg cs=>cases h1
 |tup cs=>cases h1
 |clo fid cs=>simp only[VRel]at hv;obtain⟨xs,rfl,_⟩:=hv;rfl
 |lk els=>
  simp only[VRel]at hv;cases els with
  |nil=>simp only[KRel]at hv;subst hv;rfl
  |cons c r=>simp only[KRel]at hv;obtain⟨b,off,xs,y,rfl,_⟩:=hv;rfl
theorem up0:Up S S w w ρ0 ρ:=⟨λ_ h=>h,λ_ _ _=>rfl,λ_ _ h=>by cases h⟩
def V.cells:V->List V
 |.agg cs=>cs
 |v=>[v]
theorem VRel.cells{x:Value}(hv:VRel S w ρ v x):LRel S w ρ v.cells x.cells.toList:=by
 have one:∀{u:V},u.cells=[u]->VRel S w ρ u x->x.cells=#[x]->LRel S w ρ u.cells x.cells.toList:=λh1 h2 E=>by rw[h1,E];exact⟨x,[],rfl,h2,rfl⟩
 cases v with
 |agg cs=>
  simp only[VRel]at hv;obtain⟨xs,rfl,h⟩:=hv;exact h
 |tup cs=>
  refine one I hv ?_;simp only[VRel]at hv;obtain⟨xs,rfl,h⟩:=hv;rfl
 |_=>exact one rfl hv<|pg<|hv.one rfl
end
mutual
def V.pure:V->Bool
 |.ptr _ _=>false
 |.el _ _ _ _=>false
 |.sl _=>false
 |.np _=>false
 |.mm _ _=>false
 |.agg cs=>pureL cs
 |.tup cs=>pureL cs
 |.clo _ cs=>pureL cs
 |.int _ _=>true
 |.bool _=>true
 |.str _=>true
 |.nilp=>true
 |.nils=>true
 |.raw _=>true
 |.box _ _=>true
 |.row _ _=>true
 |.lk _=>true
def pureL:List V->Bool
 |[]=>true
 |v::r=>match v.pure with
  |true=>pureL r
  |false=>false
end
section
variable{S:Nat->Prop}{w:World}{ρ ρ':Nat->Option Value}
theorem BH{r:List V}(h:pureL (v::r)=true):v.pure=true∧pureL r=true:=by
 simp only[pureL]at h;split at h
 ·exact⟨‹_›,h⟩
 ·cases h
mutual
theorem VRel.pure:∀{v:V} {x:Value},v.pure=true->VRel S w ρ v x->VRel S w ρ' v x
 |.int _ _,x,_,h=>by simp only[VRel]at h⊢;exact h
 |.bool _,x,_,h=>by simp only[VRel]at h⊢;exact h
 |.str _,x,_,h=>by simp only[VRel]at h⊢;exact h
 |.nilp,x,_,h=>by simp only[VRel]at h⊢;exact h
 |.nils,x,_,h=>by simp only[VRel]at h⊢;exact h
 |.raw _,x,_,h=>by simp only[VRel]at h⊢;exact h
 |.ptr id o,x,hp,h=>by cases hp
 |.el id sz i o,x,hp,h=>by cases hp
 |.sl id,x,hp,h=>by cases hp
 |.np id,x,hp,h=>by cases hp
 |.mm id k,x,hp,h=>by cases hp
 |.box cs o,x,_,h=>by simp only[VRel]at h⊢;exact h
 |.row sz els,x,_,h=>by simp only[VRel]at h⊢;exact h
 |.agg cs,x,hp,h=>by simp only[VRel]at h⊢;obtain⟨xs,h1,h2⟩:=h;exact⟨xs,h1,LRel.pure (by simpa only[V.pure]using hp) h2⟩
 |.tup cs,x,hp,h=>by simp only[VRel]at h⊢;obtain⟨xs,h1,h2⟩:=h;exact⟨xs,h1,LRel.pure (by simpa only[V.pure]using hp) h2⟩
 |.lk _,x,_,h=>by simp only[VRel]at h⊢;exact h
 |.clo fid cs,x,hp,h=>by simp only[VRel]at h⊢;obtain⟨xs,h1,h2⟩:=h;exact⟨xs,h1,LRel.pure (by simpa only[V.pure]using hp) h2⟩
theorem LRel.pure:∀{v:List V} {x:List Value},pureL v=true->LRel S w ρ v x->LRel S w ρ' v x
 |[],x,_,h=>by simp only[LRel]at h⊢;exact h
 |v::r,x,hp,h=>by simp only[LRel]at h⊢;obtain⟨y,ys,h1,h2,h3⟩:=h;have hp':=BH hp;exact⟨y,ys,h1,VRel.pure hp'.1 h2,LRel.pure hp'.2 h3⟩
end
theorem CRel.pure{sz:Nat}:∀{v:List V} {x:List Value},pureL v=true->CRel S w ρ sz v x->CRel S w ρ' sz v x
 |[],x,_,h=>by simp only[CRel]at h⊢;exact h
 |v::r,x,hp,h=>by simp only[CRel]at h⊢;obtain⟨y,ys,h1,h2,G,J⟩:=h;have E:=BH hp;exact⟨y,ys,h1,h2,VRel.pure E.1 G,CRel.pure E.2 J⟩
end
theorem CX(l:YB)(a b:Nat):(ByteArray.mk l.toArray).extract a b=⟨((l.drop a).take<|b-a).toArray⟩:=Lx.xP l a b
def Agree(S:Nat->Prop)(w w':World):Prop:=∀b,S b->w'.heap[b]?=w.heap[b]?
abbrev fA(a:Act):Nat->Option Value:=λi=>a.tmps[i]?
def Opd(S:Nat->Prop)(w:World)(ρ:Nat->Option Value)(a:Act)(x:Operand)(v:V):Prop:=∃y,aE (fA a) x=some y∧VRel S w ρ v y
def Yld(P:Program)(S:Nat->Prop)(w:World)(ρ:Nat->Option Value)(a:Act)(ty:TypeId)(op:Op)(v:V):Prop:=∃x,VRel S w ρ v x∧∀w',Agree S w w'->Runs P a ty op w' (.value x) w'
variable{x:Operand}
variable{y:Operand}
variable{o:Nat}
variable{cs:List V}
variable{t:TypeId}
variable{k:Nat}
variable{j:Nat}
variable{f:Nat->Option Value}
variable{u:TypeId}
variable{e:TypeId}
variable{els:List V}
variable{l:YB}
variable{ps:List (Nat×Operand)}
section
variable{P:Program}{S:Nat->Prop}{w:World}{ρ:Nat->Option Value}{a:Act}{n:Nat}{ty:TypeId}
theorem Pg(fr:Fr a n<|fA a)(hx:Opd S w ρ a x v):Yld P S w ρ a ty (.move x) v:=by obtain⟨y,h1,h2⟩:=hx;exact⟨y,h2,λw' _=>GD fr h1⟩
theorem Ni(fr:Fr a n<|fA a)(hx:Opd S w ρ a x v):Yld P S w ρ a ty (.assign x) v:=by obtain⟨y,h1,h2⟩:=hx;exact⟨y,h2,λw' _=>CV fr h1⟩
theorem Oz{c:Operand}(fr:Fr a n<|fA a)(E:Opd S w ρ a c<|.bool true)(hx:Opd S w ρ a x v):Yld P S w ρ a ty (.pick c x y) v:=by obtain⟨b,h1,h2⟩:=E;obtain⟨z,G,J⟩:=hx;simp only[VRel]at h2;subst h2;exact⟨z,J,λw' _=>Ej fr h1 G⟩
theorem Ow{c:Operand}(fr:Fr a n<|fA a)(E:Opd S w ρ a c<|.bool false)(hx:Opd S w ρ a y v):Yld P S w ρ a ty (.pick c x y) v:=by obtain⟨b,h1,h2⟩:=E;obtain⟨z,G,J⟩:=hx;simp only[VRel]at h2;subst h2;exact⟨z,J,λw' _=>EG fr h1 G⟩
theorem PG{id:Nat}(fr:Fr a n<|fA a)(hx:Opd S w ρ a x<|.ptr id o):Yld P S w ρ a ty (.nilCheck x) (.ptr id o):=by obtain⟨y,h1,h2⟩:=hx;refine⟨y,h2,λw' _=>?_⟩;simp only[VRel]at h2;obtain⟨b,_,rfl⟩:=h2;exact Bo fr h1
theorem Qd{id:Nat}(fr:Fr a n<|fA a)(hx:Opd S w ρ a x<|.el id sz i o):Yld P S w ρ a ty (.nilCheck x) (.el id sz i o):=by obtain⟨y,h1,h2⟩:=hx;refine⟨y,h2,λw' _=>?_⟩;simp only[VRel]at h2;obtain⟨b,_,_,_,rfl⟩:=h2;exact Bo fr h1
theorem QL(fr:Fr a n<|fA a)(hx:Opd S w ρ a x<|.box cs o):Yld P S w ρ a ty (.nilCheck x) (.box cs o):=by obtain⟨y,h1,h2⟩:=hx;refine⟨y,h2,λw' _=>?_⟩;simp only[VRel]at h2;obtain⟨b,off,xs,rfl,_⟩:=h2;exact Bo fr h1
theorem Rt{vs:List V}(fr:Fr a n<|fA a)(hx:Opd S w ρ a x<|.tup vs)(hi:vs[i]?=some v):Yld P S w ρ a ty (.extract x i) v:=by
 obtain⟨y,h1,h2⟩:=hx;simp only[VRel]at h2;obtain⟨xs,rfl,E⟩:=h2;obtain⟨z,G,J⟩:=E.get hi;exact⟨z,J,λw' _=>BG fr h1<|by simpa using G⟩
theorem Rd{b:Bool}(fr:Fr a n<|fA a)(hx:Opd S w ρ a x<|.bool b):Yld P S w ρ a ty (.unOp .not t x) (.bool !b):=by obtain⟨y,h1,h2⟩:=hx;simp only[VRel]at h2;subst h2;exact⟨_,by simp only[VRel],λw' _=>Ll fr h1 rfl⟩
theorem RI{id:Nat}(fr:Fr a n<|fA a)(hx:Opd S w ρ a x<|.ptr id o)(E:io P t i=some k):Yld P S w ρ a ty (.fieldAddr t x i) (.ptr id<|o+k):=by obtain⟨y,h1,h2⟩:=hx;simp only[VRel]at h2;obtain⟨b,G,rfl⟩:=h2;exact⟨_,by simp only[VRel];exact⟨b,G,rfl⟩,λw' _=>Du fr h1 E rfl⟩
theorem RO{id:Nat}(fr:Fr a n<|fA a)(hx:Opd S w ρ a x<|.el id sz j o)(E:io P t i=some k):Yld P S w ρ a ty (.fieldAddr t x i) (.el id sz j<|o+k):=by
 obtain⟨y,h1,h2⟩:=hx;simp only[VRel]at h2;obtain⟨b,m,c,G,rfl⟩:=h2;exact⟨_,by simp only[VRel];exact⟨b,m,c,G,rfl⟩,λw' _=>Du fr h1 E<|aau _ _ _⟩
theorem Rv(fr:Fr a n<|fA a)(hx:Opd S w ρ a x<|.box cs o)(E:io P t i=some k):Yld P S w ρ a ty (.fieldAddr t x i) (.box cs<|o+k):=by
 obtain⟨y,h1,h2⟩:=hx;simp only[VRel]at h2;obtain⟨b,off,xs,rfl,G⟩:=h2;exact⟨_,by simp only[VRel];exact⟨b,off,xs,rfl,G⟩,λw' _=>Du fr h1 E<|aau _ _ _⟩
theorem Sn(fr:Fr a n<|fA a)(hx:Opd S w ρ a x<|.agg cs)(E:tq P t i=some k)(hv:cs[k]?=some v):Yld P S w ρ a ty (.field t x i) v:=by obtain⟨y,h1,h2⟩:=hx;simp only[VRel]at h2;obtain⟨xs,rfl,G⟩:=h2;obtain⟨z,J,O⟩:=G.get hv;exact⟨z,O,λw' _=>Rx fr h1 E J⟩
def sR(P:Program)(t:TypeId)(i:Nat):Option (Nat×Nat):=match P.underlying t with
 |some (.struct fs)=>match fs[i]? with
  |some fl=>match nW P fl.type with
   |some m=>some (fl.offset,m)
   |none=>none
  |none=>none
 |_=>none
theorem Qx{cs:List Value}(h:Fr a n f)(hx:aE f x=some (.agg cs.toArray))(ho:sR P t i=some (k,m)):Runs P a ty (.field t x i) w (.value<|.agg ((cs.drop k).take m).toArray) w:=by
 refine Eh h hx λw=>?_;unfold sR at ho;split at ho
 ·rename_i fs E;split at ho
  ·rename_i fl G;split at ho
   ·rename_i O hs;simp only[aab,Prod.mk.injEq]at ho;obtain⟨rfl,rfl⟩:=ho;have J:(isAgg fl.type).run P w=.ok true w∧(sizeOf fl.type).run P w=.ok O w:=by
     unfold nW at hs;cases E:P.underlying fl.type with
     |none=>rw[E]at hs;cases hs
     |some d=>
      rw[E]at hs;cases d<;>first|cases hs|(obtain⟨i,hi,hs⟩:=Option.map_eq_some_iff.1 hs;simp[isAgg,run_underlying E,sizeOf,typeInfo,hi,hs])
    simp[Instr.field,run_underlying E,G,part,J.1,J.2,asAgg]
   ·cases ho
  ·cases ho
 ·cases ho
theorem RQ(fr:Fr a n<|fA a)(hx:Opd S w ρ a x<|.agg cs)(E:sR P t i=some (k,m)):Yld P S w ρ a ty (.field t x i) (.agg<|(cs.drop k).take m):=by obtain⟨y,h1,h2⟩:=hx;simp only[VRel]at h2;obtain⟨xs,rfl,G⟩:=h2;exact⟨_,by simp only[VRel];exact⟨_,rfl,(G.drop k).take m⟩,λw' _=>Qx fr h1 E⟩
section
variable{t u:TypeId}{x y:Operand}{k:IntKind}{m l:Int}
theorem aV(h:Opd S w ρ a x<|.int k m):aE (fA a) x=some (.int k m):=by obtain⟨y,h1,h2⟩:=h;simp only[VRel]at h2;subst h2;exact h1
theorem rF{b:Bool}(h:Opd S w ρ a x<|.bool b):aE (fA a) x=some (.bool b):=by obtain⟨y,h1,h2⟩:=h;simp only[VRel]at h2;subst h2;exact h1
theorem km{s:YB}(h:Opd S w ρ a x<|.str s):aE (fA a) x=some (.string ⟨s.toArray⟩):=by obtain⟨y,h1,h2⟩:=h;simp only[VRel]at h2;subst h2;exact h1
variable(fr:Fr a n (fA a))(hx:Opd S w ρ a x (.int k m))(hy:Opd S w ρ a y (.int k l))
include fr hx hy
theorem Rq:Yld P S w ρ a ty (.binOp .eql t x y u) (.bool<|m==l):=⟨_,by simp only[VRel],λw' _=>Kb fr (aV hx) (aV hy) rfl⟩
theorem RC:Yld P S w ρ a ty (.binOp .neq t x y u) (.bool<|m !=l):=⟨_,by simp only[VRel],λw' _=>Ke fr (aV hx) (aV hy) rfl⟩
theorem RF:Yld P S w ρ a ty (.binOp .lss t x y u) (.bool<|decide<|m<l):=⟨_,by simp only[VRel],λw' _=>Eo fr (aV hx) (aV hy) rfl⟩
theorem RL:Yld P S w ρ a ty (.binOp .leq t x y u) (.bool<|decide<|m<=l):=⟨_,by simp only[VRel],λw' _=>Qj fr (aV hx) (aV hy) rfl⟩
theorem RM:Yld P S w ρ a ty (.binOp .gtr t x y u) (.bool<|decide<|l<m):=⟨_,by simp only[VRel],λw' _=>QI fr (aV hx) (aV hy) rfl⟩
theorem Rc:Yld P S w ρ a ty (.binOp .geq t x y u) (.bool<|decide<|l<=m):=⟨_,by simp only[VRel],λw' _=>QT fr (aV hx) (aV hy) rfl⟩
end
section
variable{t u:TypeId}{x y:Operand}{m l:Int}(fr:Fr a n (fA a))(hx:Opd S w ρ a x (.int .i64 m))(hy:Opd S w ρ a y (.int .i64 l))
include fr hx hy
theorem PZ:Yld P S w ρ a ty (.call {callee:=.builtin .max,args:=#[x,y],argTypes:=#[t,u]}) (.int .i64<|max m l):=⟨_,by simp only[VRel],λw' _=>NL fr (aV hx)<|aV hy⟩
end
theorem RA{m l:Bool}(fr:Fr a n<|fA a)(ht:P.underlying t=some .bool)(hx:Opd S w ρ a x<|.bool m)(hy:Opd S w ρ a y<|.bool l):Yld P S w ρ a ty (.binOp .eql t x y u) (.bool<|m==l):=
 ⟨_,by simp only[VRel],λw' _=>Qa ht fr (rF hx) (rF hy) rfl⟩
theorem Po{m l c:Bool}(ht:P.underlying t=some .bool)(h:Fr a n f)(hx:aE f x=some (.bool m))(hy:aE f y=some (.bool l))(E:(m !=l)=c):Runs P a ty (.binOp .neq t x y u) w (.value<|.bool c) w:=λ_ _ _ _=>by subst E;simp only[execOp,h.eval hx,h.eval hy];simp[go_sem,eqGuard,ht,bne]
theorem RP{m l:Bool}(fr:Fr a n<|fA a)(ht:P.underlying t=some .bool)(hx:Opd S w ρ a x<|.bool m)(hy:Opd S w ρ a y<|.bool l):Yld P S w ρ a ty (.binOp .neq t x y u) (.bool<|m !=l):=
 ⟨_,by simp only[VRel],λw' _=>Po ht fr (rF hx) (rF hy) rfl⟩
section
variable{t u:TypeId}{x y:Operand}{m l:YB}(fr:Fr a n (fA a))(hx:Opd S w ρ a x (.str m))(hy:Opd S w ρ a y (.str l))
include fr hx hy
theorem RN:Yld P S w ρ a ty (.binOp .eql t x y u) (.bool<|m==l):=⟨_,by simp only[VRel],λw' _=>QG fr (km hx) (km hy) rfl⟩
theorem Rj:Yld P S w ρ a ty (.binOp .neq t x y u) (.bool<|m !=l):=⟨_,by simp only[VRel],λw' _=>Qs fr (km hx) (km hy) rfl⟩
end
theorem KC{m:YB}(fr:Fr a n<|fA a)(ht:P.underlying t=some .string)(hx:Opd S w ρ a x<|.str m):Yld P S w ρ a ty (.call {callee:=.builtin .len,args:=#[x],argTypes:=#[t]}) (.int .i64 m.length):=
 ⟨_,by simp only[VRel],λw' _=>NY fr ht<|km hx⟩
theorem QB(fr:Fr a n<|fA a)(ht:P.underlying t=some (.slice e))(hx:Opd S w ρ a x .nils):Yld P S w ρ a ty (.call {callee:=.builtin .len,args:=#[x],argTypes:=#[t]}) (.int .i64 0):=by obtain⟨y,h1,h2⟩:=hx;simp only[VRel]at h2;subst h2;exact⟨.int .i64 (0:Nat),by simp only[VRel];rfl,λw' _=>vZ fr ht h1⟩
theorem Lk(fr:Fr a n<|fA a)(ht:P.underlying t=some (.slice e))(hx:Opd S w ρ a x<|.row sz els):Yld P S w ρ a ty (.call {callee:=.builtin .len,args:=#[x],argTypes:=#[t]}) (.int .i64 els.length):=by obtain⟨y,h1,h2⟩:=hx;simp only[VRel]at h2;obtain⟨A,c,xs,rfl,_⟩:=h2;exact⟨_,by simp only[VRel],λw' _=>vZ fr ht h1⟩
theorem cq{e:Nat}{v:Value}(h:w.ownsRow base e sz v k xs):∃A c,v=.slice A k c∧k<=c∧c<=maxLen:=by
 rcases h.2 with⟨rfl,rfl⟩|⟨g,cap,cur,rfl,_,_,E,G,_⟩
 ·exact⟨none,0,rfl,aaf _,by decide⟩
 ·exact⟨_,cap,I,E,G⟩
theorem JH{h:Nat->Ob}{J:TypeId}{id:Nat}(hr:HRel S w ρ h)(ho:h id=.row J sz els)(fr:Fr a n<|fA a)(ht:P.underlying t=some (.slice e))(hx:Opd S w ρ a x<|.sl id):Yld P S w ρ a ty (.call {callee:=.builtin .len,args:=#[x],argTypes:=#[t]}) (.int .i64 els.length):=by obtain⟨y,h1,h2⟩:=hx;simp only[VRel]at h2;have E:=hr.ob id;rw[ho]at E;obtain⟨v,xs,G,O,U⟩:=E;rw[h2.1]at G;cases G;obtain⟨A,c,rfl,_⟩:=cq O;exact⟨_,by simp only[VRel],λw' _=>vZ fr ht h1⟩
theorem p_idxR(fr:Fr a n<|fA a)(ht:P.underlying t=some (.slice e))(hz:dm P e=some sz)(hx:Opd S w ρ a x<|.row sz els)(hy:Opd S w ρ a y<|.int .i64 (i:Int))(hi:els[i]?=some v):
  Yld P S w ρ a ty (.indexAddr t x y) (.box v.cells 0):=by
 obtain⟨y',h1,h2⟩:=hx;simp only[VRel]at h2;obtain⟨A,c,xs,rfl,h3,h4,J,O⟩:=h2;have E:i<els.length:=by
  rcases Nat.lt_or_ge i els.length with h|h
  ·exact h
  ·rw[List.getElem?_eq_none h]at hi;cases hi
 obtain⟨b,off,rfl,U,hb,Z⟩:=O.2 (by omega);obtain⟨z,g1,g2,g3⟩:=J.get hi;have hcell:∀j,j<sz->w.cell? ⟨b,off+i*sz+j,none⟩=z.cells.toList[j]?:=λj G=>by rw[<-g3 j G,aau];refine Z _ ?_;have :(i+1)*sz<=els.length*sz:=Nat.mul_le_mul_right _ E;rw[Nat.add_mul,Nat.one_mul]at this;omega
 refine⟨_,?_,λw' _=>rj fr ht hz h1 (aV hy) I E I⟩;simp only[VRel];refine⟨b,off+i*sz,_,by simp,U,hb,g1.cells,λj G=>?_⟩;exact hcell j (by simp at G;omega)
theorem p_idxO{h:Nat->Ob}{J:TypeId}{id:Nat}(hr:HRel S w ρ h)(ho:h id=.row J sz els)(fr:Fr a n<|fA a)(ht:P.underlying t=some (.slice e))(hz:dm P e=some sz)(hx:Opd S w ρ a x<|.sl id)(hy:Opd S w ρ a y<|.int .i64 (i:Int))(hi:i<els.length):
  Yld P S w ρ a ty (.indexAddr t x y) (.el id sz i 0):=by
 obtain⟨U,h1,h2⟩:=hx;simp only[VRel]at h2;have E:=hr.ob id;rw[ho]at E;obtain⟨v,xs,G,O,Z⟩:=E;rw[h2.1]at G;cases G;obtain⟨g,cap,rfl,_⟩:=O.form (by omega);exact⟨_,by simp only[VRel];exact⟨g,_,_,h2.1,rfl⟩,λw' _=>rj fr ht hz h1 (aV hy) rfl hi<|by simp⟩
theorem Om{c:UInt8}(h:Fr a n f)(ht:P.underlying t=some .string)(hx:aE f x=some (.string ⟨l.toArray⟩))(hy:aE f y=some (.int .i64 (i:Int)))(hi:l[i]?=some c):Runs P a ty (.index t x y) w (.value<|.int .u8 c.toNat) w:=λ_ _ _ _=>by
 simp only[execOp,h.eval hx,h.eval hy];have hb:(ByteArray.mk l.toArray)[i]?=some c:=by
  obtain⟨E,G⟩:=List.getElem?_eq_some_iff.1 hi;have :i<(ByteArray.mk l.toArray).size:=by simpa[ByteArray.size]using E
  rw[getElem?_pos (ByteArray.mk l.toArray) i this];simpa[ByteArray.getElem_eq_getElem_data]using G
 simp[Instr.index,asIntOf,run_underlying ht,hb]
theorem p_idxS{c:UInt8}(fr:Fr a n<|fA a)(ht:P.underlying t=some .string)(hx:Opd S w ρ a x<|.str l)(hy:Opd S w ρ a y<|.int .i64 (i:Int))(hi:l[i]?=some c):Yld P S w ρ a ty (.index t x y) (.int .u8 c.toNat):=
 ⟨_,by simp only[VRel],λw' _=>Om fr ht (km hx) (aV hy) hi⟩
theorem PR{lo hi:Option Operand}{i j:Nat}(h:Fr a n f)(ht:P.underlying t=some .string)(hx:aE f x=some (.string ⟨l.toArray⟩))
  (E:(lo=none∧i=0)∨∃y,lo=some y∧aE f y=some (.int .i64 (i:Int))) (G:(hi=none∧j=l.length)∨∃y,hi=some y∧aE f y=some (.int .i64 (j:Int))) (J:i<=j) (O:j<=l.length):
  Runs P a ty (.slice t x lo hi none) w (.value<|.string ⟨((l.drop i).take<|j-i).toArray⟩) w:=λ_ _ _ _=>by
 have hs:(ByteArray.mk l.toArray).size=l.length:=by simp[ByteArray.size]
 rw[<-CX];rcases E with⟨rfl,rfl⟩|⟨y,rfl,hy⟩<;>rcases G with⟨rfl,rfl⟩|⟨z,rfl,hz⟩
 ·simp only[execOp,h.eval hx,Option.map_none];simp[Instr.sliceAt,Instr.slice,run_underlying ht,Instr.sliceBounds,hs];rw[CX];simp
 ·simp only[execOp,h.eval hx,h.eval hz,Option.map_none,Option.map_some];simp[Instr.sliceAt,Instr.slice,run_underlying ht,Instr.sliceBounds,hs,run_sliceBound _ .i64 (j:Int) l.length _ (by omega)<|by omega]
 ·simp only[execOp,h.eval hx,h.eval hy,Option.map_none,Option.map_some];simp[Instr.sliceAt,Instr.slice,run_underlying ht,Instr.sliceBounds,hs,run_sliceBound _ .i64 (i:Int) l.length _ (by omega)<|by omega]
 ·simp only[execOp,h.eval hx,h.eval hy,h.eval hz,Option.map_some];simp[Instr.sliceAt,Instr.slice,run_underlying ht,Instr.sliceBounds,hs,run_sliceBound _ .i64 (j:Int) l.length _ (by omega) (by omega),run_sliceBound _ .i64 (i:Int) j _ (by omega)<|by omega]
theorem NK{lo hi:Option Operand}{i j:Nat}(fr:Fr a n<|fA a)(ht:P.underlying t=some .string)(hx:Opd S w ρ a x<|.str l)
  (E:(lo=none∧i=0)∨∃y,lo=some y∧Opd S w ρ a y (.int .i64 (i:Int))) (G:(hi=none∧j=l.length)∨∃y,hi=some y∧Opd S w ρ a y (.int .i64 (j:Int))) (J:i<=j) (O:j<=l.length):
  Yld P S w ρ a ty (.slice t x lo hi none) (.str<|(l.drop i).take<|j-i):=
 ⟨_,by simp only[VRel],λw' _=>PR fr ht (km hx) (E.imp id λ⟨y,e,h⟩=>⟨y,e,aV h⟩) (G.imp id λ⟨y,e,h⟩=>⟨y,e,aV h⟩) J O⟩
theorem Jw{lo hi:Option Operand}{c i j:Nat}(h:Fr a n f)(ht:P.underlying t=some (.slice e))(hz:dm P e=some sz)(hx:aE f x=some (.slice A m c))
  (J:(lo=none∧i=0)∨∃y,lo=some y∧aE f y=some (.int .i64 (i:Int))) (O:(hi=none∧j=m)∨∃y,hi=some y∧aE f y=some (.int .i64 (j:Int))) (Z:i<=j) (hj:j<=m) (hm:m<=c):
  Runs P a ty (.slice t x lo hi none) w (.value (.slice (if c=i then A else A.map (·.add (i*sz))) (j-i)<|c-i)) w:=λ_ _ _ _=>by
 obtain⟨inf,U,hs⟩:=Option.map_eq_some_iff.1 (show(P.info? e).map (·.size)=some sz from hz);have E:(sizeOf e).run P w=.ok sz w:=by simp[sizeOf,typeInfo,U,hs]
 rcases J with⟨rfl,rfl⟩|⟨y,rfl,hy⟩<;>rcases O with⟨rfl,rfl⟩|⟨z,rfl,G⟩
 ·simp only[execOp,h.eval hx,Option.map_none];simp[Instr.sliceAt,Instr.slice,run_underlying ht,Instr.sliceBounds,E]
 ·simp only[execOp,h.eval hx,h.eval G,Option.map_none,Option.map_some];simp[Instr.sliceAt,Instr.slice,run_underlying ht,Instr.sliceBounds,E,run_sliceBound _ .i64 (j:Int) c _ (by omega)<|by omega]
 ·simp only[execOp,h.eval hx,h.eval hy,Option.map_none,Option.map_some];simp[Instr.sliceAt,Instr.slice,run_underlying ht,Instr.sliceBounds,E,run_sliceBound _ .i64 (i:Int) j _ (by omega)<|by omega]
 ·simp only[execOp,h.eval hx,h.eval hy,h.eval G,Option.map_some];simp[Instr.sliceAt,Instr.slice,run_underlying ht,Instr.sliceBounds,E,run_sliceBound _ .i64 (j:Int) c _ (by omega) (by omega),run_sliceBound _ .i64 (i:Int) j _ (by omega)<|by omega]
theorem Jz{c:Nat}(hr:RowIn S w sz A m xs)(E:i<=j)(G:j<=m)(Z:m<=c):RowIn S w sz (if c=i then A else A.map (·.add (i*sz))) (j-i) ((xs.drop<|i*sz).take<|(j-i)*sz):=by
 have h1:(j-i)*sz+i*sz=j*sz:=by rw[<-Nat.add_mul];congr 1;omega
 have h2:j*sz<=m*sz:=Nat.mul_le_mul_right _ G;refine⟨by simp[hr.1];omega,λhn=>?_⟩;obtain⟨b,off,rfl,J,hb,O⟩:=hr.2 (by omega);rw[if_neg<|by omega];refine⟨b,off+i*sz,by simp[rr],J,hb,λk U=>?_⟩;rw[aau,O _ (by omega),List.getElem?_take,if_pos U,List.getElem?_drop]
theorem ND{lo hi:Option Operand}{i j:Nat}(fr:Fr a n<|fA a)(ht:P.underlying t=some (.slice e))(hz:dm P e=some sz)(hx:Opd S w ρ a x<|.row sz els)
  (G:(lo=none∧i=0)∨∃y,lo=some y∧Opd S w ρ a y (.int .i64 (i:Int))) (J:(hi=none∧j=els.length)∨∃y,hi=some y∧Opd S w ρ a y (.int .i64 (j:Int))) (E:i<=j) (O:j<=els.length):
  Yld P S w ρ a ty (.slice t x lo hi none) (.row sz<|(els.drop i).take<|j-i):=by
 obtain⟨y,h1,h2⟩:=hx;simp only[VRel]at h2;obtain⟨A,c,xs,rfl,U,h4,Z,h6⟩:=h2;refine⟨_,?_,λw' _=>Jw fr ht hz h1 (G.imp id λ⟨y,e,h⟩=>⟨y,e,aV h⟩) (J.imp id λ⟨y,e,h⟩=>⟨y,e,aV h⟩) E O U⟩;simp only[VRel];have e:((els.drop i).take<|j-i).length=j-i:=by simp;omega
 rw[e];exact⟨_,_,_,I,by omega,by omega,(Z.drop i).take<|j-i,Jz h6 E O U⟩
theorem OD(fr:Fr a n<|fA a)(ht:cU P t=true)(hx:Opd S w ρ a x<|.box cs o)(hv:cs[o]?=some v):Yld P S w ρ a ty (.load t x) v:=by
 obtain⟨y,h1,h2⟩:=hx;simp only[VRel]at h2;obtain⟨b,off,xs,rfl,J,hb,O,U⟩:=h2;obtain⟨z,E,Z⟩:=O.get hv;have G:o<xs.length:=by
  rcases Nat.lt_or_ge o xs.length with h|h
  ·exact h
  ·rw[List.getElem?_eq_none h]at E;cases E
 exact⟨z,Z.up up0,λw' hA=>ex_load fr h1 ht<|(World.cell?_of_block (a:=⟨b,off+o,none⟩)<|hA b J).trans<|(U o G).trans E⟩
theorem MI(fr:Fr a n<|fA a)(ht:nW P t=some m)(hx:Opd S w ρ a x<|.box cs o)(hl:o+m<=cs.length):Yld P S w ρ a ty (.load t x) (.agg<|(cs.drop o).take m):=by
 obtain⟨y,h1,h2⟩:=hx;simp only[VRel]at h2;obtain⟨b,off,xs,rfl,J,hb,E,O⟩:=h2;have G:=E.length;refine⟨.agg ((xs.drop o).take m).toArray,by simp only[VRel];exact⟨_,rfl,((E.drop o).take m).up up0⟩,λw' U=>ex_loadN fr h1 ht (by simp;omega) λj Z=>?_⟩;rw[World.cell?_of_block (a:=⟨b,off+o+j,none⟩)<|U b J,aau,O _ (by omega),List.getElem?_take,if_pos Z,List.getElem?_drop]
def uD(cs:List V)(o:Nat)(ps:List V):List V:=cs.take o++ps++cs.drop (o+ps.length)
def um(place:Nat->Option (Nat×Nat)):List V->List (Nat×V)->Option (List V)
 |cs,[]=>some cs
 |cs,(i,v)::r=>match place i with
  |some (o,sz)=>match Nat.beq v.cells.length sz&&Nat.ble (o+sz) cs.length with
   |true=>um place (uD cs o v.cells) r
   |false=>none
  |none=>none
def jH(S:Nat->Prop)(w:World)(ρ:Nat->Option Value):List (Nat×V)->List (Nat×Value)->Prop
 |[],ys=>ys=[]
 |(i,v)::r,ys=>∃x zs,ys=(i,x)::zs∧VRel S w ρ v x∧jH S w ρ r zs
theorem Cr{place pl:Nat->Option (Nat×Nat)}(hpl:∀i p,place i=some p->pl i=some p):∀{vs:List<|Nat×V} {ys:List<|Nat×Value} {cs cs':List V} {xs:List Value},jH S w ρ vs ys->LRel S w ρ cs xs->um place cs vs=some cs'->∃xs',Instr.fill pl xs.toArray ys=some xs'.toArray∧LRel S w ρ cs' xs'
 |[],ys,cs,cs',xs,hp,hl,hf=>by simp only[jH]at hp;subst hp;simp only[um,aab]at hf;subst hf;exact⟨xs,I,hl⟩
 | (i,v)::r,ys,cs,cs',xs,hp,hl,hf=>by
  simp only[jH]at hp;obtain⟨x,zs,rfl,hx,hr⟩:=hp;simp only[um]at hf;split at hf
  ·rename_i o sz hpi;split at hf
   ·rename_i hc;simp only[aaa,Nat.beq_eq,Nat.ble_eq]at hc;have hcl:=hx.cells.length;simp only[Array.length_toList]at hcl;have hlen:=hl.length;have hl':LRel S w ρ (uD cs o v.cells) (xs.take o++x.cells.toList++xs.drop (o+x.cells.size)):=by
     unfold uD;rw[hcl];exact((hl.take o).append hx.cells).append<|hl.drop _
    obtain⟨xs',h1,h2⟩:=Cr hpl hr hl' hf;refine⟨xs',?_,h2⟩;simp only[Instr.fill,hpl i _ hpi];rw[if_neg (by simp;omega),<-h1]
    congr 1
    have hfs:=yq o x.cells.toList 0 xs (by simp;omega);simp only[Nat.add_zero,Array.length_toList]at hfs;rw[<-hfs,<-Array.foldl_toList,Array.toList_zipIdx]
   ·cases hf
  ·cases hf
def zc(P:Program)(t:TypeId):Option (List<|Nat×Nat):=match P.underlying t with
 |some (.struct fs)=>fs.toList.mapM λfl=>(dm P fl.type).map λs=>(fl.offset,s)
 |_=>none
theorem BC:∀{fs:List Field} {ps:List<|Nat×Nat},(fs.mapM λfl=>(dm P fl.type).map λs=>(fl.offset,s))=some ps->(fs.mapM (m:=Sem) λfl=>do pure (fl.offset,<-sizeOf fl.type)).run P w=.ok ps w
 |[],ps,h=>by simp at h;subst h;simp
 |fl::r,ps,h=>by
  simp only[List.mapM_cons]at h;obtain⟨p,h1,h⟩:=Option.bind_eq_some_iff.1 h;obtain⟨qs,h2,h⟩:=Option.bind_eq_some_iff.1 h;simp only[Option.pure_def,aab]at h;subst h;obtain⟨s,E,G⟩:=Option.map_eq_some_iff.1 h1;obtain⟨inf,J,O⟩:=Option.map_eq_some_iff.1 (show(P.info? fl.type).map (·.size)=some s from E);have ih:=BC h2;have U:(sizeOf fl.type).run P w=.ok s w:=by simp[sizeOf,typeInfo,J,O]
  subst G;simp only[List.mapM_cons];simp[U];simp at ih;simp[ih]
theorem Gv{vs:List<|Nat×V}{ys:List<|Nat×Value}{pl:List<|Nat×Nat}{z:List Value}{zv cs:List V}{place:Nat->Option (Nat×Nat)}(fr:Fr a n<|fA a)(hps:eL (fA a) ps=some ys)(hpr:jH S w ρ vs ys)(hz:nb P t=some z)(hzv:LRel S w ρ zv z)
  (hpl:zc P t=some pl) (hplace:∀i p,place i=some p->pl[i]?=some p) (hf:um place zv vs=some cs):Yld P S w ρ a ty (.build t ps.toArray) (.agg cs):=by
 obtain⟨xs,h1,h2⟩:=Cr (pl:=λi=>pl.toArray[i]?) (λi p h=>by simpa using hplace i p h) hpr hzv hf;refine⟨.agg xs.toArray,by simp only[VRel];exact⟨xs,rfl,h2⟩,λw' _=>DV fr hps λw=>?_⟩;unfold nb at hz;obtain⟨z0,hz1,hz2⟩:=Option.map_eq_some_iff.1 hz;obtain⟨inf,hi,hiz⟩:=Option.bind_eq_some_iff.1 hz1;have ez:z0.cells=z.toArray:=by rw[<-hz2]
 unfold zc at hpl;cases hu:P.underlying t with
 |none=>rw[hu]at hpl;cases hpl
 | some d=>
  rw[hu]at hpl;cases d with
  | struct fs=>
   have hm:=BC (w:=w) hpl;have hm':(fs.mapM (m:=Sem) λfl=>do pure (fl.offset,<-sizeOf fl.type)).run P w=.ok pl.toArray w:=by
    have e:fs.mapM (m:=Sem) (λfl=>do pure (fl.offset,<-sizeOf fl.type))=List.toArray<$>fs.toList.mapM (m:=Sem) (λfl=>do pure (fl.offset,<-sizeOf fl.type)):=by rw[<-List.mapM_toArray]
    rw[e];simp at hm;simp[hm]
   simp only[Instr.build];simp at hm';simp[zeroValue,typeInfo,hi,hiz,run_underlying hu,hm',ez];simp at h1;rw[h1];simp
  |_=>cases hpl
theorem Mg{vs:List<|Nat×V}{ys:List<|Nat×Value}{sz len:Nat}{e:TypeId}{z:List Value}{zv cs:List V}(fr:Fr a n<|fA a)(E:eL (fA a) ps=some ys)(G:jH S w ρ vs ys)(hz:nb P t=some z)(J:LRel S w ρ zv z)
  (ht:P.underlying t=some (.array len e)) (he:dm P e=some sz) (hf:um (λi=>some (i*sz,sz)) zv vs=some cs):Yld P S w ρ a ty (.build t ps.toArray) (.agg cs):=by
 obtain⟨xs,h1,h2⟩:=Cr (pl:=λi=>some (i*sz,sz)) (λi p h=>h) G J hf;refine⟨.agg xs.toArray,by simp only[VRel];exact⟨xs,rfl,h2⟩,λw' _=>DV fr E λw=>?_⟩;unfold nb at hz;obtain⟨z0,O,U⟩:=Option.map_eq_some_iff.1 hz;obtain⟨inf,hi,Z⟩:=Option.bind_eq_some_iff.1 O;have ez:z0.cells=z.toArray:=by rw[<-U]
 obtain⟨inf',h5,h6⟩:=Option.map_eq_some_iff.1 (show(P.info? e).map (·.size)=some sz from he);have h7:(sizeOf e).run P w=.ok sz w:=by simp[sizeOf,typeInfo,h5,h6]
 simp only[Instr.build];simp[zeroValue,typeInfo,hi,Z,run_underlying ht,h7,ez];rw[h1];simp
end
structure ChgP (X:Nat->Prop) (w w':World):Prop where
 os:w'.os=w.os
 tape:w'.tape=w.tape
 output:w'.output=w.output
 size:w.heap.size<=w'.heap.size
 block:∀k,k<w.heap.size->¬X k->w'.heap[k]?=w.heap[k]?
theorem ChgP.refl(X:Nat->Prop)(w:World):ChgP X w w:=⟨rfl,rfl,rfl,aaf _,λ_ _ _=>rfl⟩
variable{X Y:Nat->Prop}{w1:World}
theorem ChgP.trans{w w2:World}(h:ChgP X w w1)(k:ChgP Y w1 w2)(G:∀b,Y b->X b∨w.heap.size<=b):ChgP X w w2:=
 ⟨k.os.trans h.os,k.tape.trans h.tape,k.output.trans h.output,aap h.size k.size,λb hb E=>by
  rw[k.block b (aaw hb h.size) (λJ=>by rcases G b J with h1|h1;exact E h1;omega),h.block b hb E]⟩
theorem ChgP.mono{w:World}(h:ChgP X w w1)(E:∀b,X b->Y b):ChgP Y w w1:=⟨h.os,h.tape,h.output,h.size,λb hb G=>h.block b hb λJ=>G<|E b J⟩
theorem ChgP.of{X:YN}{w:World}(h:Chg X w w1):ChgP (·∈X) w w1:=⟨h.os,h.tape,h.output,h.size,h.block⟩
theorem ChgP.of0{w:World}(h:Chg [] w w1):ChgP X w w1:=(ChgP.of h).mono (λb hb=>by simp at hb)
def bE(h:Nat->Ob)(id:Nat)(o:Ob):Nat->Ob:=λi=>match Nat.beq i id with|true=>o|false=>h i
def cz(ρ:Nat->Option Value)(id:Nat)(x:Value):Nat->Option Value:=λi=>match Nat.beq i id with|true=>some x|false=>ρ i
theorem aY(h:Nat->Ob)(id:Nat)(o:Ob):bE h id o id=o:=by simp[bE]
theorem bo(h:Nat->Ob){id:Nat}(o:Ob)(hi:i≠id):bE h id o i=h i:=by
 unfold bE;split
 ·rename_i hb;exact absurd (aag hb) hi
 ·rfl
theorem aU(ρ:Nat->Option Value)(id:Nat)(x:Value):cz ρ id x id=some x:=by simp[cz]
theorem nc(ρ:Nat->Option Value){id:Nat}(x:Value)(hi:i≠id):cz ρ id x i=ρ i:=by
 unfold cz;split
 ·rename_i hb;exact absurd (aag hb) hi
 ·rfl
structure Eff (S:Nat->Prop) (w w':World) (ρ ρ':Nat->Option Value) (h h':Nat->Ob) (X:Nat->Prop):Prop where
 hr:HRel S w' ρ' h'
 up:Up S S w w' ρ ρ'
 chg:ChgP (λb=>∃id,X id∧own ρ id (h id) b) w w'
 new:∀id b,own ρ' id (h' id) b->(∃j,own ρ j (h j) b)∨w.heap.size<=b
def Does (P:Program) (S:Nat->Prop) (w:World) (ρ:Nat->Option Value) (h:Nat->Ob) (a:Act) (ty:TypeId) (op:Op) (v:Option V) (h':Nat->Ob) (X:Nat->Prop):Prop:=
  ∃ nx w' ρ',Runs P a ty op w nx w'∧Eff S w w' ρ ρ' h h' X∧match v with
    |some v=>∃x,nx=.value x∧VRel S w' ρ' v x
    |none=>nx=.skip
variable{nid:Nat}
variable{tb:TypeId}
variable{v0:V}
section
variable{P:Program}{S:Nat->Prop}{w w':World}{ρ ρ':Nat->Option Value}{h h':Nat->Ob}{a:Act}{n:Nat}{ty:TypeId}
theorem Eff.refl(hr:HRel S w ρ h):Eff S w w ρ ρ h h X:=⟨hr,Up.refl,ChgP.refl _ _,λid b hb=>.inl ⟨id,hb⟩⟩
theorem FT(k src:Nat)(hr:HRel S w ρ h)(hc:ChgP X w w')(hρ:∀i x,ρ i=some x->ρ' i=some x)(hX:∀b,X b->∃id,Y id∧own ρ id (h id) b)
  (hk:gn S w' ρ' k<|h' k) (U:∀b,own ρ' k (h' k) b->w.heap.size<=b∨own ρ src (h src) b) (Z:src≠k->h' src=.gone)
  (hi:∀i,i≠k->h' i=.gone∨(h' i=h i∧(h i=.free->ρ' i=none)∧∀b,own ρ i (h i) b->¬X b)):Eff S w w' ρ ρ' h h' Y:=by
 have hnS:∀b,S b->¬X b:=λb hb hx=>by obtain⟨id,_,ho⟩:=hX b hx;exact hr.sep id b ho hb
 have up:Up S S w w' ρ ρ':=⟨λ_ h=>h,λb hb hlt=>hc.block b hlt<|hnS b hb,hρ⟩;have back:∀i b,i≠k->own ρ' i (h' i) b->own ρ i (h i) b:=λi b E hb=>by
  rcases hi i E with e|⟨e,_,_⟩
  ·rw[e]at hb;exact hb.elim
  ·rw[e]at hb;exact FJ hρ (hr.ob i) hb
 refine⟨⟨λi=>?_,λi b hb=>?_,λi j b J O=>?_,hr.slt.up up λb hb=>aaw (hr.slt b hb) hc.size⟩,up,hc.mono hX,λi b hb=>?_⟩
 ·by_cases E:i=k
  ·subst E;exact hk
  ·rcases hi i E with e|⟨e,hf,hb⟩
   ·rw[e];trivial
   ·rw[e];exact(hr.ob i).up up hf λb hob=>hc.block b (dd (hr.ob i) hob)<|hb b hob
 ·by_cases E:i=k
  ·subst E;rcases U b hb with h1|h1
   ·intro hS;have :=hr.slt b hS;omega
   ·exact hr.sep src b h1
  ·exact hr.sep i b<|back i b E hb
 ·by_cases E:i=k
  ·by_cases G:j=k
   ·rw[E,G]
   ·subst E;have h1:=back j b G O;rcases U b J with h2|h2
    ·have :=dd (hr.ob j) h1;omega
    ·have h3:=hr.dis src j b h2 h1;subst h3;rw[Z G]at O;exact O.elim
  ·by_cases G:j=k
   ·subst G;have h1:=back i b E J;rcases U b O with h2|h2
    ·have :=dd (hr.ob i) h1;omega
    ·have h3:=hr.dis src i b h2 h1;subst h3;rw[Z E]at J;exact J.elim
   ·exact hr.dis i j b (back i b E J)<|back j b G O
 ·by_cases E:i=k
  ·subst E;rcases U b hb with h1|h1
   ·exact .inr h1
   ·exact .inl ⟨src,h1⟩
  ·exact .inl ⟨i,back i b E hb⟩
theorem Pa(k:Nat)(src:Nat->Prop)(hr:HRel S w ρ h)(hc:ChgP X w w')(hρ:∀i x,ρ i=some x->ρ' i=some x)(hX:∀b,X b->∃id,Y id∧own ρ id (h id) b)
  (hk:gn S w' ρ' k<|h' k) (U:∀b,own ρ' k (h' k) b->w.heap.size<=b∨∃s,src s∧own ρ s (h s) b) (Z:∀s,src s->s≠k->h' s=.gone)
  (hi:∀i,i≠k->h' i=.gone∨(h' i=h i∧(h i=.free->ρ' i=none)∧∀b,own ρ i (h i) b->¬X b)):Eff S w w' ρ ρ' h h' Y:=by
 have hnS:∀b,S b->¬X b:=λb hb hx=>by obtain⟨id,_,ho⟩:=hX b hx;exact hr.sep id b ho hb
 have up:Up S S w w' ρ ρ':=⟨λ_ h=>h,λb hb hlt=>hc.block b hlt<|hnS b hb,hρ⟩;have back:∀i b,i≠k->own ρ' i (h' i) b->own ρ i (h i) b:=λi b E hb=>by
  rcases hi i E with e|⟨e,_,_⟩
  ·rw[e]at hb;exact hb.elim
  ·rw[e]at hb;exact FJ hρ (hr.ob i) hb
 refine⟨⟨λi=>?_,λi b hb=>?_,λi j b J O=>?_,hr.slt.up up λb hb=>aaw (hr.slt b hb) hc.size⟩,up,hc.mono hX,λi b hb=>?_⟩
 ·by_cases E:i=k
  ·subst E;exact hk
  ·rcases hi i E with e|⟨e,hf,hb⟩
   ·rw[e];trivial
   ·rw[e];exact(hr.ob i).up up hf λb hob=>hc.block b (dd (hr.ob i) hob)<|hb b hob
 ·by_cases E:i=k
  ·subst E;rcases U b hb with h1|h1
   ·intro hS;have :=hr.slt b hS;omega
   ·obtain⟨s,_,h1⟩:=h1;exact hr.sep s b h1
  ·exact hr.sep i b<|back i b E hb
 ·by_cases E:i=k
  ·by_cases G:j=k
   ·rw[E,G]
   ·subst E;have h1:=back j b G O;rcases U b J with h2|h2
    ·have :=dd (hr.ob j) h1;omega
    ·obtain⟨s,hs,h2⟩:=h2;have h3:=hr.dis s j b h2 h1;subst h3;rw[Z s hs G]at O;exact O.elim
  ·by_cases G:j=k
   ·subst G;have h1:=back i b E J;rcases U b O with h2|h2
    ·have :=dd (hr.ob i) h1;omega
    ·obtain⟨s,hs,h2⟩:=h2;have h3:=hr.dis s i b h2 h1;subst h3;rw[Z s hs E]at J;exact J.elim
   ·exact hr.dis i j b (back i b E J)<|back j b G O
 ·by_cases E:i=k
  ·subst E;rcases U b hb with h1|h1
   ·exact .inr h1
   ·obtain⟨s,_,h1⟩:=h1;exact .inl ⟨s,h1⟩
  ·exact .inl ⟨i,back i b E hb⟩
theorem eff_new{x:Value}{o:Ob}(hr:HRel S w ρ h)(hf:h nid=.free)(J:Chg [] w w')(O:gn S w' (cz ρ nid x) nid o)(hb:∀b,own (cz ρ nid x) nid o b->w.heap.size<=b):Eff S w w' ρ (cz ρ nid x) h (bE h nid o) (λ_=>False):=by
 have hn:ρ nid=none:=by have :=hr.ob nid;rw[hf]at this;exact this
 refine FT (X:=λ_=>False) nid nid hr (ChgP.of0 J) (λi y hy=>?_) (λb hb=>hb.elim) (by rw[aY];exact O) (λb E=>by rw[aY]at E;exact .inl<|hb b E) (λh=>absurd I h)
  (λi hi=>.inr ⟨bo _ _ hi,λG=>?_,λb _ hx=>hx⟩)
 ·have :i≠nid:=λe=>by subst e;rw[hn]at hy;cases hy
  rw[nc _ _ this];exact hy
 ·rw[nc _ _ hi];have :=hr.ob i;rw[G]at this;exact this
theorem BN{id:Nat}{o:Ob}{X:YN}(hr:HRel S w ρ h)(O:Chg X w w')(J:∀b,b∈X->own ρ id (h id) b)(U:gn S w' ρ id o)(hb:∀b,own ρ id o b->own ρ id (h id) b):Eff S w w' ρ ρ h (bE h id o) (·=id):=by
 refine FT (X:=(·∈X)) id id hr (ChgP.of O) (λi y hy=>hy) (λb hb=>⟨id,I,J b hb⟩) (by rw[aY];exact U) (λb E=>by rw[aY]at E;exact .inr<|hb b E) (λh=>absurd I h)
  (λi hi=>.inr ⟨bo _ _ hi,λG=>?_,λb E hx=>hi<|hr.dis i id b E<|J b hx⟩)
 have :=hr.ob i;rw[G]at this;exact this
theorem Ao{id:Nat}{x:Value}{o:Ob}{X:YN}(hr:HRel S w ρ h)(hf:h nid=.free)(hid:h id≠.free)(Z:Chg X w w')(U:∀b,b∈X->own ρ id (h id) b)(hk:gn S w' (cz ρ nid x) nid o)(hb:∀b,own (cz ρ nid x) nid o b->own ρ id (h id) b∨w.heap.size<=b):
  Eff S w w' ρ (cz ρ nid x) h (bE (bE h id .gone) nid o) (·=id):=by
 have hn:ρ nid=none:=by have :=hr.ob nid;rw[hf]at this;exact this
 have J:id≠nid:=λe=>by subst e;exact hid hf
 refine FT (X:=(·∈X)) nid id hr (ChgP.of Z) (λi y hy=>?_) (λb hb=>⟨id,I,U b hb⟩) (by rw[aY];exact hk) (λb E=>by rw[aY]at E;exact(hb b E).symm) (λ_=>by rw[bo _ _ J,aY])
  (λi hi=>?_)
 ·have :i≠nid:=λe=>by subst e;rw[hn]at hy;cases hy
  rw[nc _ _ this];exact hy
 ·rw[bo _ _ hi];by_cases G:i=id
  ·subst G;exact .inl<|aY _ _ _
  ·refine .inr ⟨bo _ _ G,λO=>?_,λb E hx=>G<|hr.dis i id b E<|U b hx⟩;rw[nc _ _ hi];have :=hr.ob i;rw[O]at this;exact this
theorem Bu{x:Value}(hr:HRel S w ρ h)(hf:h nid=.free)(G:Chg [] w w'):Up S S w w' ρ (cz ρ nid x):=by
 have hn:ρ nid=none:=by have :=hr.ob nid;rw[hf]at this;exact this
 refine⟨λ_ h=>h,λb hb E=>G.block b E (by simp),λi y hy=>?_⟩;have :i≠nid:=λe=>by subst e;rw[hn]at hy;cases hy
 rw[nc _ _ this];exact hy
theorem sm{id:Nat}(hr:HRel S w ρ h)(ho:h id=.var t cs):∃b xs,ρ id=some (.pointer<|some ⟨b,0,none⟩)∧Blk w b t xs∧LRel S w ρ cs xs:=by have :=hr.ob id;rw[ho]at this;exact this
theorem lG{id:Nat}(hr:HRel S w ρ h)(ho:h id=.row e sz els):∃v xs,ρ id=some v∧w.ownsRow 0 e sz v els.length xs∧CRel S w ρ sz els xs:=by have :=hr.ob id;rw[ho]at this;exact this
theorem Cq{id:Nat}(hx:Opd S w ρ a x<|.ptr id o)(hb:ρ id=some (.pointer<|some ⟨b,0,none⟩)):aE (fA a) x=some (.pointer<|some ⟨b,o,none⟩):=by obtain⟨y,h1,h2⟩:=hx;simp only[VRel]at h2;obtain⟨b',E,rfl⟩:=h2;rw[hb]at E;simp only[aab,Value.pointer.injEq,Addr.mk.injEq,and_true]at E;subst E;exact h1
theorem Hh{id:Nat}(hr:HRel S w ρ h)(fr:Fr a n<|fA a)(hx:Opd S w ρ a x<|.ptr id o)(ho:h id=.var tb cs)(ht:cU P t=true)(hv:cs[o]?=some v):
  ∃b y,ρ id=some (.pointer<|some ⟨b,0,none⟩)∧w.cell? ⟨b,o,none⟩=some y∧VRel S w ρ v y∧∀w',w'.cell? ⟨b,o,none⟩=some y->Runs P a ty (.load t x) w' (.value y) w':=by
 obtain⟨b,xs,h1,h2,E⟩:=sm hr ho;obtain⟨y,G,J⟩:=E.get hv;exact⟨b,y,h1,by rw[h2.cell,G],J,λw' O=>ex_load fr (Cq hx h1) ht O⟩
theorem QX{id:Nat}(hr:HRel S w ρ h)(fr:Fr a n<|fA a)(hx:Opd S w ρ a x<|.ptr id o)(ho:h id=.var tb cs)(ht:cU P t=true)(hv:cs[o]?=some v):Does P S w ρ h a ty (.load t x) (some v) h (λ_=>False):=by obtain⟨b,y,h1,h2,E,G⟩:=Hh (P:=P) (ty:=ty) hr fr hx ho ht hv;exact⟨_,w,ρ,G w h2,Eff.refl hr,y,I,E⟩
theorem Ei{id:Nat}(hr:HRel S w ρ h)(fr:Fr a n<|fA a)(hx:Opd S w ρ a x<|.ptr id o)(ho:h id=.var tb cs)(ht:nW P t=some m)(U:o+m<=cs.length):
  ∃b ys,ρ id=some (.pointer<|some ⟨b,0,none⟩)∧(∀j,j<m->w.cell? ⟨b,o+j,none⟩=ys[j]?)∧LRel S w ρ ((cs.drop o).take m) ys∧∀w',(∀j,j<m->w'.cell? ⟨b,o+j,none⟩=ys[j]?)->Runs P a ty (.load t x) w' (.value<|.agg ys.toArray) w':=by
 obtain⟨b,xs,h1,h2,E⟩:=sm hr ho;have G:=E.length;refine⟨b,(xs.drop o).take m,h1,λj J=>?_,(E.drop o).take m,λw' O=>ex_loadN fr (Cq hx h1) ht (by simp;omega) O⟩;rw[h2.cell,List.getElem?_take,if_pos J,List.getElem?_drop]
theorem OI{id:Nat}(hr:HRel S w ρ h)(fr:Fr a n<|fA a)(hx:Opd S w ρ a x<|.ptr id o)(ho:h id=.var tb cs)(ht:nW P t=some m)(E:o+m<=cs.length):Does P S w ρ h a ty (.load t x) (some<|.agg<|(cs.drop o).take m) h (λ_=>False):=by obtain⟨b,ys,h1,h2,G,J⟩:=Ei (P:=P) (ty:=ty) hr fr hx ho ht E;exact⟨_,w,ρ,J w h2,Eff.refl hr,_,rfl,by simp only[VRel];exact⟨ys,rfl,G⟩⟩
theorem ER{id:Nat}{v:Value}(hx:Opd S w ρ a x<|.el id sz i o)(hb:ρ id=some v):∃b m c,v=.slice (some ⟨b,0,none⟩) m c∧aE (fA a) x=some (.pointer<|some ⟨b,i*sz+o,none⟩):=by obtain⟨y,h1,h2⟩:=hx;simp only[VRel]at h2;obtain⟨b',m,c,E,rfl⟩:=h2;rw[hb]at E;cases E;exact⟨b',m,c,I,h1⟩
theorem ij{e c:Nat}(ho:w.ownsRow base e sz (.slice (some ⟨b,0,none⟩) m c) k xs)(G:j<k*sz):w.cell? ⟨b,j,none⟩=xs[j]?:=by
 rcases ho.2 with⟨J,_⟩|⟨g,cap,cur,hv,hb,O,h4,h5,h6,U⟩
 ·cases J
 ·injection hv with E _ Z
  injection E with E
  injection E with E
  subst E;rw[<-U];simp[World.cell?,O,List.getElem?_take,G]
theorem Fl{id:Nat}(hr:HRel S w ρ h)(fr:Fr a n<|fA a)(hx:Opd S w ρ a x<|.el id sz i o)(ho:h id=.row e sz els)(ht:cU P t=true)(hi:els[i]?=some v0)(hv:v0.cells[o]?=some v):
  ∃b u y,ρ id=some u∧u.ownBlock=some b∧w.cell? ⟨b,i*sz+o,none⟩=some y∧VRel S w ρ v y∧∀w',w'.cell? ⟨b,i*sz+o,none⟩=some y->Runs P a ty (.load t x) w' (.value y) w':=by
 obtain⟨u,xs,h1,h2,U⟩:=lG hr ho;obtain⟨b,m,c,rfl,E⟩:=ER hx h1;obtain⟨z,g1,g2,Z⟩:=U.get hi;obtain⟨y,O,h5⟩:=g1.cells.get hv;have G:o<sz:=by have :=(List.getElem?_eq_some_iff.1 O).1;simp at this;omega
 have J:i<els.length:=(List.getElem?_eq_some_iff.1 hi).1;have :(i+1)*sz<=els.length*sz:=Nat.mul_le_mul_right _ J;rw[Nat.add_mul,Nat.one_mul]at this;exact⟨b,_,y,h1,I,by rw[ij h2 (by omega),Z o G,O],h5,λw' hc=>ex_load fr E ht hc⟩
theorem Hm{id:Nat}(hr:HRel S w ρ h)(fr:Fr a n<|fA a)(hx:Opd S w ρ a x<|.el id sz i o)(ho:h id=.row e sz els)(ht:cU P t=true)(hi:els[i]?=some v0)(hv:v0.cells[o]?=some v):Does P S w ρ h a ty (.load t x) (some v) h (λ_=>False):=by obtain⟨b,u,y,h1,_,h2,E,G⟩:=Fl (P:=P) (ty:=ty) hr fr hx ho ht hi hv;exact⟨_,w,ρ,G w h2,Eff.refl hr,y,I,E⟩
theorem CY{id:Nat}(hr:HRel S w ρ h)(fr:Fr a n<|fA a)(hx:Opd S w ρ a x<|.el id sz i o)(ho:h id=.row e sz els)(ht:nW P t=some m)(hi:els[i]?=some v0)(hl:o+m<=v0.cells.length):
  ∃b u ys,ρ id=some u∧u.ownBlock=some b∧(∀j,j<m->w.cell? ⟨b,i*sz+o+j,none⟩=ys[j]?)∧LRel S w ρ ((v0.cells.drop o).take m) ys∧∀w',(∀j,j<m->w'.cell? ⟨b,i*sz+o+j,none⟩=ys[j]?)->Runs P a ty (.load t x) w' (.value<|.agg ys.toArray) w':=by
 obtain⟨u,xs,h1,h2,O⟩:=lG hr ho;obtain⟨b,k,c,rfl,G⟩:=ER hx h1;obtain⟨z,g1,g2,U⟩:=O.get hi;have E:=g1.cells.length;simp only[Array.length_toList]at E;have J:i<els.length:=(List.getElem?_eq_some_iff.1 hi).1;have :(i+1)*sz<=els.length*sz:=Nat.mul_le_mul_right _ J;rw[Nat.add_mul,Nat.one_mul]at this;refine⟨b,_,(z.cells.toList.drop o).take m,h1,rfl,λj Z=>?_,(g1.cells.drop o).take m,λw' hc=>ex_loadN fr G ht (by simp;omega) hc⟩;rw[ij h2 (by omega),aau,U _ (by omega),List.getElem?_take,if_pos Z,List.getElem?_drop]
theorem FN{id:Nat}(hr:HRel S w ρ h)(fr:Fr a n<|fA a)(hx:Opd S w ρ a x<|.el id sz i o)(ho:h id=.row e sz els)(ht:nW P t=some m)(hi:els[i]?=some v0)(E:o+m<=v0.cells.length):Does P S w ρ h a ty (.load t x) (some<|.agg<|(v0.cells.drop o).take m) h (λ_=>False):=by obtain⟨b,u,ys,h1,_,h2,G,J⟩:=CY (P:=P) (ty:=ty) hr fr hx ho ht hi E;exact⟨_,w,ρ,J w h2,Eff.refl hr,_,rfl,by simp only[VRel];exact⟨ys,rfl,G⟩⟩
theorem OO{z:List Value}{zv:List V}(hr:HRel S w ρ h)(hf:h nid=.free)(hz:nb P t=some z)(E:∀S w ρ,LRel S w ρ zv z):Does P S w ρ h a ty (.alloc t) (some<|.ptr nid 0) (bE h nid<|.var t zv) (λ_=>False):=by
 obtain⟨w',b,h1,h2,J,O,U⟩:=FH (P:=P) z hz a w ty;refine⟨_,w',cz ρ nid<|.pointer<|some ⟨b,0,none⟩,h1,eff_new hr hf J ⟨b,z,aU _ _ _,h2,E _ _ _⟩ λb' G=>?_,_,I,?_⟩
 ·simp only[own,aU,aab,Value.pointer.injEq,Addr.mk.injEq,and_true]at G;omega
 ·simp only[VRel];exact⟨b,aU _ _ _,rfl⟩
theorem Rb(hr:HRel S w ρ h)(fr:Fr a n<|fA a)(hf:h nid=.free)(hx:Opd S w ρ a x v):Does P S w ρ h a ty (.box t x) (some<|.ptr nid 0) (bE h nid<|.var t v.cells) (λ_=>False):=by
 obtain⟨y,g1,g2⟩:=hx;obtain⟨w',b,h1,h2,G,J,O⟩:=JR (P:=P) (t:=t) (cs:=y.cells.toList) fr g1 (by simp) w ty;refine⟨_,w',cz ρ nid<|.pointer<|some ⟨b,0,none⟩,h1,eff_new hr hf G ⟨b,_,aU _ _ _,h2,g2.cells.up<|Bu hr hf G⟩ λb' E=>?_,_,I,?_⟩
 ·simp only[own,aU,aab,Value.pointer.injEq,Addr.mk.injEq,and_true]at E;omega
 ·simp only[VRel];exact⟨b,aU _ _ _,rfl⟩
theorem CS{v:Value}{cs:List Value}(h:Fr a n f)(hx:aE f x=some (.pointer<|some ⟨b,o,none⟩))(hy:aE f y=some v)(hz:dm P t=some m)(hv:v.cells.size=m)(hone:v.cells.toList.all (·.oneCell')=true)(hb:Blk w b tb cs)(hm:o+m<=cs.length)(ty:TypeId):
  ∃w',Runs P a ty (.store t x y) w .skip w'∧Blk w' b tb (cs.take o++v.cells.toList++cs.drop (o+m))∧Chg [b] w w':=by
 obtain⟨i,hi,hs⟩:=Option.map_eq_some_iff.1 (show(P.info? t).map (·.size)=some m from hz);have key:∀(l:List Value) (j:Nat) (w:World) (cs:List Value),Blk w b tb cs->o+j+l.length<=cs.length->l.all (·.oneCell')=true->∃w',(storeCells ⟨b,o,none⟩ l j).run P w=.ok () w'∧Blk w' b tb (cs.take (o+j)++l++cs.drop (o+j+l.length))∧Chg [b] w w':=by
  intro l
  induction l with
  |nil=>intro j w cs hb hj _;exact⟨w,by simp[storeCells],by simpa using hb,Chg.refl _ _⟩
  | cons c r ih=>
   intro j w cs hb hj hone;simp only[List.all_cons,aaa]at hone;simp only[aad]at hj;have ho:o+j<cs.length:=by omega
   have hc:w.cell? ⟨b,o+j,none⟩=some cs[o+j]:=by rw[hb.cell];simp[ho]
   have hfz:=hb.frozen<|o+j;have ha:(⟨b,o,none⟩:Addr).add j=⟨b,o+j,none⟩:=rr b o j;obtain⟨w2,h1,h2,h3⟩:=ih (j+1) (w.setCell ⟨b,o+j,none⟩ c) (cs.set (o+j) c) (hb.set (o+j) c) (by simp;omega) hone.2;refine⟨w2,?_,?_,(Chg.set w b (o+j) c).trans h3 λx hx=>.inl hx⟩
   ·simp only[storeCells,ha];have hst:=run_store P w ⟨b,o+j,none⟩ c .plain hone.1;simp[hst,stored,hc,hfz];exact h1
   ·have e1:(cs.set (o+j) c).take (o+(j+1))=cs.take (o+j)++[c]:=by
     rw[<-aau,List.take_succ_eq_append_getElem (by simpa using ho),List.take_set_of_le<|aaf _];simp
    have e2:(cs.set (o+j) c).drop (o+(j+1)+r.length)=cs.drop (o+j+(r.length+1)):=by
     rw[List.drop_set_of_lt<|by omega];congr 1;omega
    rw[e1,e2]at h2;simpa using h2
 obtain⟨w1,h1,h2,h3⟩:=key v.cells.toList 0 w cs hb (by simp;omega) hone;refine⟨w1,λ_ _ _ _=>?_,by simpa[hv]using h2,h3⟩;simp only[execOp,h.eval hx,h.eval hy];simp[Instr.storeAt,Instr.sureAddr,storeVar,sizeOf,typeInfo,hi,hs,hv,h1]
theorem vj:∀{vs:List V} {xs:List Value},LRel S w ρ vs xs->vs.all V.one=true->xs.all (·.oneCell')=true
 |[],xs,E,h1=>by simp only[LRel]at E;subst E;rfl
 |v::r,xs,E,h1=>by simp only[LRel]at E;obtain⟨x,ys,rfl,h2,G⟩:=E;simp only[List.all_cons,aaa]at h1⊢;exact⟨h2.one h1.1,vj G h1.2⟩
theorem La{X:YN}{id:Nat}(hr:HRel S w ρ h)(G:Chg X w w')(J:∀b,b∈X->own ρ id (h id) b):Up S S w w' ρ ρ:=
 ⟨λ_ h=>h,λb hb E=>G.block b E λhx=>hr.sep id b (J b hx) hb,λ_ _ h=>h⟩
theorem Pc{id:Nat}(hr:HRel S w ρ h)(fr:Fr a n<|fA a)(hx:Opd S w ρ a x<|.ptr id o)(hy:Opd S w ρ a y v)(ho:h id=.var tb cs)(hz:dm P t=some m)(hv:v.cells.length=m)(h1:v.cells.all V.one=true)(hm:o+m<=cs.length):
  Does P S w ρ h a ty (.store t x y) none (bE h id<|.var tb<|uD cs o v.cells) (·=id):=by
 obtain⟨b,xs,g1,g2,J⟩:=sm hr ho;obtain⟨z,k1,O⟩:=hy;have E:=O.cells.length;simp only[Array.length_toList]at E;obtain⟨w',r1,r2,U⟩:=CS (P:=P) (t:=t) (m:=m) fr (Cq hx g1) k1 hz (by omega) (vj O.cells h1) g2 (by have :=J.length;omega) ty;have Z:∀c,c∈[b]->own ρ id (h id) c:=λc G=>by simp at G;subst G;rw[ho];exact g1
 have u:=La hr U Z;refine⟨_,w',ρ,r1,BN hr U Z ⟨b,_,g1,r2,?_⟩ (λc G=>by rw[ho];exact G),I⟩;unfold uD;rw[hv];exact(((J.take o).append O.cells).append<|J.drop _).up u
theorem CRel.set{sz:Nat}:∀{vs:List V} {xs:List Value} {i:Nat} {v:V} {x:Value},CRel S w ρ sz vs xs->i<vs.length->VRel S w ρ v x->x.cells.size=sz->x.cells.toList.all (·.oneCell')=true->CRel S w ρ sz (vs.set i v) (xs.take (i*sz)++x.cells.toList++xs.drop (i*sz+sz))
 |[],xs,i,v,x,hc,hi,hx,hs,h1=>by simp at hi
 |u::r,xs,0,v,x,hc,hi,hx,hs,h1=>by simp only[CRel]at hc;obtain⟨y,ys,rfl,⟨h2,h2'⟩,h3,h4⟩:=hc;refine⟨x,ys,?_,⟨hs,h1⟩,hx,h4⟩;simp[h2,List.drop_append]
 | u::r,xs,i+1,v,x,hc,hi,hx,hs,h1=>by
  simp only[CRel]at hc;obtain⟨y,ys,rfl,⟨h2,h2'⟩,h3,h4⟩:=hc;have ih:=CRel.set (i:=i) h4 (by simpa using hi) hx hs h1;refine⟨y,_,?_,⟨h2,h2'⟩,h3,ih⟩;have e1:(y.cells.toList++ys).take ((i+1)*sz)=y.cells.toList++ys.take (i*sz):=by
   rw[List.take_append,List.take_of_length_le<|by simp[h2,Nat.add_mul]]
   congr 2
   simp[h2,Nat.add_mul]
  have e2:(y.cells.toList++ys).drop ((i+1)*sz+sz)=ys.drop (i*sz+sz):=by
   rw[List.drop_append,List.drop_of_length_le<|by simp[h2,Nat.add_mul]];simp[h2,Nat.add_mul]
  rw[e1,e2];simp
def V.over(v0:V)(o:Nat)(ps:List V):V:=match v0 with
 |.agg cs=>.agg<|uD cs o ps
 |v0=>match ps with
  |[p]=>p
  |_=>v0
theorem Ar{id:Nat}(hr:HRel S w ρ h)(fr:Fr a n<|fA a)(hx:Opd S w ρ a x<|.el id sz i o)(hy:Opd S w ρ a y v)(ho:h id=.row e sz els)(hz:dm P t=some m)(hi:els[i]?=some v0)(hv:v.cells.length=m)(h1:v.cells.all V.one=true)(hm:o+m<=v0.cells.length)
  (hv0:(∃cs,v0=.agg cs)∨(v0.cells=[v0]∧v.cells=[v])):Does P S w ρ h a ty (.store t x y) none (bE h id<|.row e sz<|els.set i<|v0.over o v.cells) (·=id):=by
 obtain⟨u,xs,g1,g2,g3⟩:=lG hr ho;obtain⟨b,k,c,rfl,hx'⟩:=ER hx g1;obtain⟨z,k1,k2⟩:=hy;have hlen:=k2.cells.length;simp only[Array.length_toList]at hlen;obtain⟨z0,q1,q2,q3⟩:=g3.get hi;have hle:i<els.length:=(List.getElem?_eq_some_iff.1 hi).1;have hmul:(i+1)*sz<=els.length*sz:=Nat.mul_le_mul_right _ hle;rw[Nat.add_mul,Nat.one_mul]at hmul;have hl0:=q1.cells.length;simp only[Array.length_toList]at hl0;have hxl:=g3.length;rcases g2.2 with⟨hc,_⟩|⟨g,cap,cur,hv1,hb,hg,h4,h5,h6,h7⟩
 ·cases hc
 ·injection hv1 with hv2 hv3 hv4
  injection hv2 with hv2
  injection hv2 with hv2
  subst hv2 hv3 hv4;have hcap:els.length*sz<=c*sz:=Nat.mul_le_mul_right _ h4;have hB:Blk w b e cur.toList:=by unfold Blk;rw[hg]
  obtain⟨w',r1,r2,r3⟩:=CS (P:=P) (t:=t) (m:=m) fr hx' k1 hz (by omega) (vj k2.cells h1) hB (by simp;omega) ty;have hX:∀d,d∈[b]->own ρ id (h id) d:=λd hd=>by simp at hd;subst hd;rw[ho];exact⟨_,g1,rfl⟩
  have up:=La hr r3 hX;have hnew:∃q,VRel S w ρ (v0.over o v.cells) q∧q.cells.toList=z0.cells.toList.take o++z.cells.toList++z0.cells.toList.drop (o+m):=by
   rcases hv0 with⟨cs,rfl⟩|⟨e1,e2⟩
   ·refine⟨.agg (z0.cells.toList.take o++z.cells.toList++z0.cells.toList.drop (o+m)).toArray,?_,by simp[Value.cells]⟩;simp only[V.over,VRel];refine⟨_,I,?_⟩;unfold uD;rw[hv];exact((q1.cells.take o).append k2.cells).append<|q1.cells.drop _
   ·have :v0.over o v.cells=v:=by
     rw[e2];cases v0 with
     |agg cs=>
      simp only[V.cells]at e1;have hs:=congrArg SizeOf.sizeOf e1;simp at hs;omega
     |_=>rfl
    rw[this];refine⟨z,k2,?_⟩;rw[e1]at hm hl0;rw[e2]at hv;simp at hm hl0 hv;subst hv;obtain rfl:o=0:=by omega
    rw[List.drop_of_length_le (l:=z0.cells.toList)<|by simp[hl0]];simp
  obtain⟨q,hn1,hn2⟩:=hnew;have hsz':q.cells.size=sz:=by have :=congrArg List.length hn2;simp only[Array.length_toList,aac,aax,aaC]at this;rw[this];omega
  have hones:(z0.cells.toList.take o++z.cells.toList++z0.cells.toList.drop (o+m)).all (·.oneCell')=true:=by
   have hall:z0.cells.toList.all (·.oneCell')=true:=by
    have h0:∀j,j<sz->∃u,z0.cells.toList[j]?=some u∧u.oneCell'=true:=λj hj=>by
     have hq:=q3 j hj;have :i*sz+j<xs.length:=by omega
     refine⟨xs[i*sz+j],?_,g3.ones _<|List.getElem_mem _⟩;rw[<-hq];simp[this]
    rw[List.all_eq_true];intro u hu;obtain⟨j,hj,rfl⟩:=aaA hu;obtain⟨u',e1,e2⟩:=h0 j (by simp at hj;omega);rw[List.getElem?_eq_getElem hj]at e1;cases e1;exact e2
   have hall2:=vj k2.cells h1;rw[List.all_eq_true]at hall hall2⊢;intro u hu;simp only[aal]at hu;rcases hu with(hu|hu)|hu
   ·exact hall u<|List.mem_of_mem_take hu
   ·exact hall2 u hu
   ·exact hall u<|List.mem_of_mem_drop hu
  have hset:=CRel.set (i:=i) g3 hle hn1 hsz' (by rw[hn2];exact hones);rw[hn2]at hset;have hcur:cur.toList.take (els.length*sz)=xs:=h7;have e9:xs.take (i*sz)++(z0.cells.toList.take o++z.cells.toList++z0.cells.toList.drop (o+m))++xs.drop (i*sz+sz)=xs.take (i*sz+o)++z.cells.toList++xs.drop (i*sz+o+m):=by
   apply List.ext_getElem?;intro j;have hz0:∀j,j<sz->z0.cells.toList[j]?=xs[i*sz+j]?:=λj hj=>(q3 j hj).symm;have L1:(xs.take<|i*sz).length=i*sz:=by simp;omega
   have L2:(z0.cells.toList.take o).length=o:=by simp;omega
   have L3:z.cells.toList.length=m:=by simp;omega
   have L4:(z0.cells.toList.drop<|o+m).length=sz-(o+m):=by simp;omega
   have L5:(xs.take<|i*sz+o).length=i*sz+o:=by simp;omega
   simp only[List.getElem?_append,L1,L2,L3,L4,L5,aac,List.getElem?_take,List.getElem?_drop];by_cases c1:j<i*sz
   ·simp[c1,show j<i*sz+(o+m+(sz-(o+m))) by omega,show j<i*sz+o+m by omega,show j<i*sz+o by omega]
   ·by_cases c2:j<i*sz+o
    ·simp[c1,c2,show j<i*sz+(o+m+(sz-(o+m))) by omega,show j<i*sz+o+m by omega,show j-i*sz<o+m by omega,show j-i*sz<o by omega];have :=hz0 (j-i*sz) (by omega);simp at this;rw[this];congr 1;omega
    ·by_cases c3:j<i*sz+o+m
     ·simp[c1,c2,c3,show j<i*sz+(o+m+(sz-(o+m))) by omega,show j-i*sz<o+m by omega,show¬j-i*sz<o by omega]
      congr 1;omega
     ·by_cases c4:j<i*sz+sz
      ·simp[c1,c2,c3,show j<i*sz+(o+m+(sz-(o+m))) by omega,show¬j-i*sz<o+m by omega];rw[show o+m+(j-i*sz-(o+m))=j-i*sz by omega];have :=hz0 (j-i*sz) (by omega);simp at this;rw[this];congr 1;omega
      ·simp[c1,c2,c3,show¬j<i*sz+(o+m+(sz-(o+m))) by omega]
       congr 1;omega
  rw[e9]at hset;refine⟨_,w',ρ,r1,BN hr r3 hX ⟨_,_,g1,⟨?_,.inr ⟨b,c,(cur.toList.take (i*sz+o)++z.cells.toList++cur.toList.drop (i*sz+o+m)).toArray,?_,hb,r2,by simpa using h4,h5,?_,I⟩⟩,?_⟩ (λd hd=>by rw[ho];exact hd),I⟩
  ·simp;omega
  ·simp
  ·simp;omega
  ·have e10:List.take ((els.set i<|v0.over o v.cells).length*sz) (cur.toList.take (i*sz+o)++z.cells.toList++cur.toList.drop (i*sz+o+m)).toArray.toList=xs.take (i*sz+o)++z.cells.toList++xs.drop (i*sz+o+m):=by
    simp only[aay];rw[<-hcur];apply List.ext_getElem?;intro j;have K1:(cur.toList.take<|i*sz+o).length=i*sz+o:=by simp;omega
    have K2:(List.take (i*sz+o)<|List.take (els.length*sz) cur.toList).length=i*sz+o:=by simp;omega
    simp only[List.getElem?_take,List.getElem?_append,K1,K2,aac,Array.length_toList,List.getElem?_drop];by_cases c0:j<els.length*sz
    ·by_cases c1:j<i*sz+o
     ·simp[c0,c1,show j<i*sz+o+z.cells.size by omega]
     ·by_cases c2:j<i*sz+o+z.cells.size
      ·simp[c0,c1,c2]
      ·simp[c0,c1,c2,show i*sz+o+m+(j-(i*sz+o+z.cells.size))<els.length*sz by omega]
    ·simp[c0,show¬j<i*sz+o+z.cells.size by omega,show¬i*sz+o+m+(j-(i*sz+o+z.cells.size))<els.length*sz by omega]
   rw[e10];exact hset.up up
end
section
variable{P:Program}{S:Nat->Prop}{w w':World}{ρ ρ':Nat->Option Value}{h h':Nat->Ob}{a:Act}{n:Nat}{ty:TypeId}
def mS(sz:Nat):Nat->List (Nat×V)->Option (List V)
 |_,[]=>some []
 |i,(j,v)::r=>match Nat.beq i j&&Nat.beq v.cells.length sz&&v.cells.all V.one with
  |true=>match mS sz (i+1) r with
   |some vs=>some<|v::vs
   |none=>none
  |false=>none
theorem uW{sz:Nat}:∀{vs:List<|Nat×V} {ys:List<|Nat×Value} {i:Nat} {els:List V},jH S w ρ vs ys->mS sz i vs=some els->
  ys.map (·.1)=(List.range' i els.length)∧(ys.all λp=>p.2.cells.size==sz)=true∧CRel S w ρ sz els (ys.flatMap λp=>p.2.cells.toList)
 |[],ys,i,els,hp,hr=>by simp only[jH]at hp;subst hp;simp only[mS,aab]at hr;subst hr;simp[CRel]
 | (j,v)::r,ys,i,els,hp,hr=>by
  simp only[jH]at hp;obtain⟨x,zs,rfl,hx,hq⟩:=hp;simp only[mS]at hr;split at hr
  ·rename_i hc;simp only[aaa,Nat.beq_eq]at hc;split at hr
   ·rename_i vs hvs;simp only[aab]at hr;subst hr;obtain⟨h1,h2,h3⟩:=uW hq hvs;have hl:=hx.cells.length;simp only[Array.length_toList]at hl;refine⟨?_,?_,?_⟩
    ·simp[h1,hc.1.1,List.range'_succ]
    ·simp only[List.all_cons,h2,Bool.and_true,aaq];rw[hl,hc.1.2]
    ·simp only[List.flatMap_cons];exact⟨x,_,I,⟨by rw[hl,hc.1.2],vj hx.cells hc.2⟩,hx,h3⟩
   ·cases hr
  ·cases hr
theorem LB{vs:List<|Nat×V}{ys:List<|Nat×Value}{m:Nat}{z:List Value}{els:List V}(hr:HRel S w ρ h)(fr:Fr a n<|fA a)(hf:h nid=.free)(E:eL (fA a) ps=some ys)(O:jH S w ρ vs ys)(ht:P.underlying t=some (.slice e))(hz:dm P e=some sz)(hzero:nb P e=some z)
  (hp:mS sz 0 vs=some els) (U:els.length=m) (Z:Nat.ble (m*sz) 16777216=true) (hm:Nat.ble m 16777216=true):Does P S w ρ h a ty (.buildSlice t m ps.toArray) (some<|.sl nid) (bE h nid<|.row e sz els) (λ_=>False):=by
 obtain⟨h1,h2,h3⟩:=uW O hp;have G:ps.map (·.1)=List.range m:=by
  have :ps.map (·.1)=ys.map (·.1):=by rw[<-fr.parts E];simp
  rw[this,h1,U,List.range_eq_range']
 obtain⟨w',b,g1,g2,g3,g4,g5⟩:=sb (P:=P) (t:=t) (m:=m) fr E ht hz hzero G h2 Z rfl w ty;have J:=h3.length;have hmm:m<=16777216:=Nat.le_of_ble_eq_true hm;have own:=xf (base:=0) g2 (aar _) (m:=m) (size:=sz) (by rw[J,U]) (by simp only[Nat.ble_eq,maxLen];omega);refine⟨_,w',cz ρ nid<|.slice (some ⟨b,0,none⟩) m m,g1,eff_new hr hf g3 ⟨_,_,aU _ _ _,by rw[U];exact own,h3.up<|Bu hr hf g3⟩ λb' hb'=>?_,_,I,?_⟩
 ·obtain⟨v,e1,e2⟩:=hb';rw[aU]at e1;cases e1;simp[Value.ownBlock]at e2;omega
 ·simp only[VRel];exact⟨aU _ _ _,rfl⟩
theorem Dp{z:List Value}(hz:0<z.length):∀m,(madeCells z.toArray<|m*z.length).toList=(List.replicate m z).flatten:=by
 intro m;apply List.ext_getElem?;intro j;have hl:((List.replicate m z).flatten).length=m*z.length:=by simp
 by_cases hj:j<m*z.length
 ·have hlt:j%z.length<z.length:=Nat.mod_lt _ hz;have h1:(madeCells z.toArray<|m*z.length).toList[j]?=some z[j%z.length]:=by
   simp[madeCells,hj,hlt]
  rw[h1];have key:∀(m j:Nat),j<m*z.length->((List.replicate m z).flatten)[j]?=some (z[j%z.length]'(Nat.mod_lt _ hz)):=by
   intro m
   induction m with
   |zero=>intro j hj;simp at hj
   | succ m ih=>
    intro j hj;simp only[List.replicate_succ,List.flatten_cons];by_cases hc:j<z.length
    ·rw[List.getElem?_append_left hc];simp[Nat.mod_eq_of_lt hc,hc]
    ·rw[List.getElem?_append_right (by omega),ih (j-z.length) (by rw[Nat.add_mul]at hj;omega)]
     congr 1
     have :(j-z.length)%z.length=j%z.length:=by
      conv=>rhs;rw[show j=(j-z.length)+z.length by omega]
      simp
     simp[this]
  exact(key m j hj).symm
 ·rw[List.getElem?_eq_none (by simp[madeCells];omega),List.getElem?_eq_none (by rw[hl];omega)]
theorem EQ{sz:Nat}{zv:V}{z:Value}(hz:z.cells.size=sz)(h1:z.cells.toList.all (·.oneCell')=true)(hv:VRel S w ρ zv z):∀m,CRel S w ρ sz (List.replicate m zv) ((List.replicate m z.cells.toList).flatten)
 |0=>by simp[CRel]
 |m+1=>by simp only[List.replicate_succ,List.flatten_cons];exact⟨z,_,I,⟨hz,h1⟩,hv,EQ hz h1 hv m⟩
theorem JF{sz by_:Nat}{z:Value}{zv:V}(hr:HRel S w ρ h)(fr:Fr a n<|fA a)(hf:h nid=.free)(hx:Opd S w ρ a x<|.int .i64 (m:Int))(hy:Opd S w ρ a y<|.int .i64 (m:Int))(ht:P.underlying t=some (.slice e))
  (hi:(P.info? e).map (λi=>(i.zero,i.size,i.bytes))=some (some z,sz,by_)) (hzs:z.cells.size=sz) (hsz:0<sz) (h1:z.cells.toList.all (·.oneCell')=true) (J:∀S w ρ,VRel S w ρ zv z) (hb:by_*m<=281474976710656) (hm:m<=maxLen):
  Does P S w ρ h a ty (.makeSlice t x y) (some<|.sl nid) (bE h nid<|.row e sz<|List.replicate m zv) (λ_=>False):=by
 have O:m<=9223372036854775807:=by simp only[maxLen]at hm;omega
 have U:madeCells z.cells (m*sz)=(List.replicate m z.cells.toList).flatten.toArray:=by rw[<-Dp (by simp;omega)];simp[hzs]
 obtain⟨w',b,g1,g2,g3,g4,g5⟩:=OQ (P:=P) fr (aV hx) (aV hy) ht hi (by simpa using hb) (by simpa using O) U w ty;have G:=EQ (S:=S) (w:=w) (ρ:=ρ) hzs h1 (J _ _ _) m;have E:=G.length;simp only[List.length_replicate]at E;have own:=xf (base:=0) g2 (aar _) (m:=m) (size:=sz) E (by simpa using hm);refine⟨_,w',cz ρ nid<|.slice (some ⟨b,0,none⟩) m m,g1,eff_new hr hf g3 ⟨_,_,aU _ _ _,by simpa using own,G.up<|Bu hr hf g3⟩ λb' Z=>?_,_,I,?_⟩
 ·obtain⟨v,e1,e2⟩:=Z;rw[aU]at e1;cases e1;simp[Value.ownBlock]at e2;omega
 ·simp only[VRel];exact⟨aU _ _ _,rfl⟩
theorem Bd{c d:Nat}{B:Option Addr}(ht:P.underlying t=some (.slice e))(hz:dm P e=some sz)(G:k<=c):(Builtin.append_ #[t,t] ty #[.slice A k c,.slice B 0 d]).run P w=.ok (.slice A k c) w:=by
 obtain⟨inf,hi,hs⟩:=Option.map_eq_some_iff.1 (show(P.info? e).map (·.size)=some sz from hz);have E:(sizeOf e).run P w=.ok sz w:=by simp[sizeOf,typeInfo,hi,hs]
 cases A<;>cases B<;>simp[Builtin.append_,run_underlying ht,E,Builtin.lenOf,Builtin.firstCells,G,loadCells,loadCellsFrom,storeCells]
def tv(S:Nat->Prop)(w:World)(ρ:Nat->Option Value)(sz:Nat)(els:List V)(y:Value):Prop:=
 ∃A c xs,y=.slice A els.length c∧CRel S w ρ sz els xs∧(0<els.length->∃b off,A=some ⟨b,off,none⟩∧∀j,j<els.length*sz->w.cell? ⟨b,off+j,none⟩=xs[j]?)
theorem Oe{y:Value}(hy:VRel S w ρ (.row sz els) y):tv S w ρ sz els y:=by simp only[VRel]at hy;obtain⟨A,c,xs,rfl,O,U,E,G⟩:=hy;exact⟨A,c,xs,rfl,E.up up0,λhn=>by obtain⟨b,off,e,_,_,J⟩:=G.2 hn;exact⟨b,off,e,J⟩⟩
theorem MP{y:Value}(hy:VRel S w ρ .nils y):tv S w ρ sz [] y:=by simp only[VRel]at hy;subst hy;exact⟨none,0,[],rfl,by simp[CRel],λhn=>by simp at hn⟩
theorem Oy{id:Nat}{y:Value}(hr:HRel S w ρ h)(ho:h id=.row e sz els)(hy:VRel S w ρ (.sl id) y):tv S w ρ sz els y:=by
 simp only[VRel]at hy;obtain⟨v,xs,h1,h2,G⟩:=lG hr ho;rw[hy.1]at h1;cases h1;obtain⟨A,c,rfl,_⟩:=cq h2;refine⟨A,c,xs,I,G,λhn=>?_⟩;obtain⟨g,cap,hv,_⟩:=h2.form hn;injection hv with E _ J
 subst E;exact⟨g,0,I,λj O=>by rw[Nat.zero_add];exact ij h2 O⟩
theorem wF{by_:Nat}{z u v:Value}{news:List V}(fr:Fr a n<|fA a)(hx:aE (fA a) x=some u)(hy:aE (fA a) y=some v)(hu:w.ownsRow 0 e sz u els.length xs)(U:CRel S w ρ sz els xs)(hv:tv S w ρ sz news v)(ht:P.underlying t=some (.slice e))
  (hi:(P.info? e).map (λi=>(i.zero,i.size,i.bytes))=some (some z,sz,by_)) (hzs:z.cells.size=sz) (hsz:0<sz) (h63:els.length+news.length<=maxLen) (hby:(els.length+news.length)*by_<=140737488355328):
  ∃O w' ys,Runs P a ty (.call {callee:=.builtin .append,args:=#[x,y],argTypes:=#[t,t]}) w (.value O) w'∧w'.ownsRow 0 e sz O (els.length+news.length) ys∧CRel S w ρ sz (els++news) ys∧Chg u.ownBlock.toList w w'∧(O.ownBlock=u.ownBlock∨O.ownBlock=some w.heap.size):=by
 obtain⟨A,c,ns,rfl,E,hcell⟩:=hv;have hsize:dm P e=some sz:=by obtain⟨i0,J,G⟩:=Option.map_eq_some_iff.1 hi;simp only[Prod.mk.injEq]at G;simp[dm,J,G.2.1]
 by_cases hn:news=[]
 ·subst hn;simp only[CRel]at E;subst E;obtain⟨B,d,rfl,hd,_⟩:=cq hu;refine⟨.slice B els.length d,w,xs,λ_ _ _ _=>?_,by simpa using hu,by simpa using U,Chg.refl _ _,.inl I⟩;simp only[execOp,resolve,invoke,builtin,List.map_toArray,aah,aav,fr.eval hx,fr.eval hy];have :=Bd (P:=P) (w:=w) (ty:=ty) (A:=B) (B:=A) (d:=c) ht hsize hd;simp only[aae];simp[this]
 ·have Z:0<news.length:=List.length_pos_iff.2 hn;obtain⟨b,off,rfl,hc⟩:=hcell Z;obtain⟨i0,J,G⟩:=Option.map_eq_some_iff.1 hi;simp only[Prod.mk.injEq]at G;obtain⟨hz,hs,hbb⟩:=G;obtain⟨O,w',hrun,h2,h3,_,h5⟩:=run_append_own_at (P:=P) w 0 t ty e i0 z sz by_ ht J hz hs hbb hzs hsz u els.length xs hu ⟨b,off,none⟩ news.length c ns E.length
   (λj q hq=>by have hj:j<ns.length:=(List.getElem?_eq_some_iff.1 hq).1;rw[rr,hc j (by rw[<-E.length];exact hj)];exact hq) E.ones h63 hby (aar _)
  refine⟨O,w',xs++ns,λ_ _ _ _=>?_,h2,U.append E,Chg.grown h3,h5⟩;simp only[execOp,resolve,invoke,builtin,List.map_toArray,aah,aav,fr.eval hx,fr.eval hy];simp[hrun]
theorem vu{e:Nat}{v:Value}(hv:w.ownsRow base e sz v k xs):v.oneCell'=true:=by obtain⟨A,c,rfl,_⟩:=cq hv;rfl
section
variable{t e:TypeId}{x y:Operand}{sz by_ nid:Nat}{z v:Value}{els news:List V}(hr:HRel S w ρ h)(fr:Fr a n (fA a))(hf:h nid=.free)(hy:aE (fA a) y=some v)(hv:tv S w ρ sz news v)(ht:P.underlying t=some (.slice e))
    (hi:(P.info? e).map (λi=>(i.zero,i.size,i.bytes))=some (some z,sz,by_)) (hzs:z.cells.size=sz) (hsz:0<sz)
include hr fr hf hy hv ht hi hzs hsz
theorem Em{id:Nat}(hx:Opd S w ρ a x<|.sl id)(ho:h id=.row e sz els)(J:els.length+news.length<=maxLen)(O:(els.length+news.length)*by_<=140737488355328):
  Does P S w ρ h a ty (.call {callee:=.builtin .append,args:=#[x,y],argTypes:=#[t,t]}) (some<|.sl nid) (bE (bE h id .gone) nid<|.row e sz<|els++news) (·=id):=by
 obtain⟨u,k1,G⟩:=hx;simp only[VRel]at G;obtain⟨u',xs,h1,h2,h3⟩:=lG hr ho;rw[G.1]at h1;cases h1;obtain⟨U,w',ys,g1,g2,g3,g4,E⟩:=wF (P:=P) (ty:=ty) fr k1 hy h2 h3 hv ht hi hzs hsz J O;have hX:∀b,b∈u.ownBlock.toList->own ρ id (h id) b:=λb hb=>by simp at hb;rw[ho];exact⟨u,G.1,hb⟩
 have hn:ρ nid=none:=by have :=hr.ob nid;rw[hf]at this;exact this
 have up:Up S S w w' ρ (cz ρ nid U):=by
  refine⟨λ_ h=>h,λb hb Z=>g4.block b Z λhc=>hr.sep id b (hX b hc) hb,λi q hq=>?_⟩;have :i≠nid:=λe=>by subst e;rw[hn]at hq;cases hq
  rw[nc _ _ this];exact hq
 refine⟨_,w',cz ρ nid U,g1,Ao hr hf (by rw[ho];simp) g4 hX ⟨U,ys,aU _ _ _,by simpa using g2,g3.up up⟩ λb hb=>?_,_,rfl,?_⟩
 ·obtain⟨q,e1,e2⟩:=hb;rw[aU]at e1;cases e1;rcases E with E|E
  ·exact .inl (by rw[ho];exact⟨u,G.1,by rw[<-E];exact e2⟩)
  ·rw[E]at e2;simp at e2;exact .inr (by omega)
 ·simp only[VRel];exact⟨aU _ _ _,vu g2⟩
theorem KM(hx:Opd S w ρ a x .nils)(J:news.length<=maxLen)(O:news.length*by_<=140737488355328):
  Does P S w ρ h a ty (.call {callee:=.builtin .append,args:=#[x,y],argTypes:=#[t,t]}) (some<|.sl nid) (bE h nid<|.row e sz news) (λ_=>False):=by
 obtain⟨u,k1,Z⟩:=hx;simp only[VRel]at Z;subst Z;obtain⟨U,w',ys,g1,g2,g3,g4,E⟩:=wF (P:=P) (ty:=ty) (els:=[]) (xs:=[]) fr k1 hy (World.ownsRow_nil w 0 e sz) (by simp[CRel]) hv ht hi hzs hsz (by simpa using J) (by simpa using O);have up:=Bu (x:=U) hr hf g4;simp only[aae,Nat.zero_add,aaj]at g2 g3;refine⟨_,w',cz ρ nid U,g1,eff_new hr hf g4 ⟨U,ys,aU _ _ _,g2,g3.up up⟩ λb hb=>?_,_,I,?_⟩
 ·obtain⟨q,e1,G⟩:=hb;rw[aU]at e1;cases e1;rcases E with E|E
  ·rw[E]at G;cases G
  ·rw[E]at G;simp at G;omega
 ·simp only[VRel];exact⟨aU _ _ _,vu g2⟩
end
theorem GK{id:Nat}(hr:HRel S w ρ h)(fr:Fr a n<|fA a)(hf:h nid=.free)(hx:Opd S w ρ a x<|.sl id)(hy:Opd S w ρ a y<|.int .i64 (k:Int))(ho:h id=.row e sz els)(ht:P.underlying t=some (.slice e))(hz:dm P e=some sz)(hk:k<=els.length):
  Does P S w ρ h a ty (.slice t x none (some y) none) (some<|.sl nid) (bE (bE h id .gone) nid<|.row e sz<|els.take k) (·=id):=by
 obtain⟨u,k1,Z⟩:=hx;simp only[VRel]at Z;obtain⟨u',xs,h1,h2,h3⟩:=lG hr ho;rw[Z.1]at h1;cases h1;obtain⟨A,c,rfl,hc,hcm⟩:=cq h2;have E:=Jw (P:=P) (w:=w) (ty:=ty) (lo:=none) (hi:=some y) (i:=0) (j:=k) fr ht hz k1 (.inl ⟨rfl,rfl⟩) (.inr ⟨y,rfl,aV hy⟩) (aar _) hk hc;have eA:(if c=0 then A else A.map (·.add (0*sz)))=A:=by
  split
  ·rfl
  ·cases A with
   |none=>rfl
   |some ad=>simp[Addr.add]
 rw[eA]at E;simp only[Nat.sub_zero]at E;have hn:ρ nid=none:=by have :=hr.ob nid;rw[hf]at this;exact this
 have up:Up S S w w ρ (cz ρ nid<|.slice A k c):=by
  refine⟨λ_ h=>h,λb hb hlt=>I,λi q hq=>?_⟩;have :i≠nid:=λe=>by subst e;rw[hn]at hq;cases hq
  rw[nc _ _ this];exact hq
 have O:(els.take k).length=k:=by simp;omega
 have own':w.ownsRow 0 e sz (.slice A k c) k (xs.take<|k*sz):=by
  have G:k*sz<=els.length*sz:=Nat.mul_le_mul_right _ hk;refine⟨by rw[aax,h2.1,aaD G],?_⟩;rcases h2.2 with⟨h0,h0'⟩|⟨g,cap,cur,hv,q1,q2,q3,q4,q5,q6⟩
  ·injection h0 with J U e3
   subst J e3;exact .inl ⟨by rw[show k=0 by omega],by omega⟩
  ·injection hv with J U e3
   subst J e3;refine .inr ⟨g,c,cur,I,q1,q2,by omega,q4,q5,?_⟩;rw[<-q6,List.take_take,aaD G]
 refine⟨_,w,cz ρ nid<|.slice A k c,E,Ao (X:=[]) hr hf (by rw[ho];simp) (Chg.refl _ _) (by simp) ⟨_,_,aU _ _ _,by rw[O];exact own',(h3.take k).up up⟩ λb hb=>?_,_,rfl,?_⟩
 ·obtain⟨q,J,U⟩:=hb;rw[aU]at J;cases J;exact .inl (by rw[ho];exact⟨_,Z.1,by cases A<;>simp[Value.ownBlock]at U⊢;exact U⟩)
 ·simp only[VRel];exact⟨aU _ _ _,rfl⟩
theorem hU{id:Nat}(hr:HRel S w ρ h):HRel (λb=>S b∨own ρ id (h id) b) w ρ (bE h id .gone)∧Up S (λb=>S b∨own ρ id (h id) b) w w ρ ρ:=by
 have up:Up S (λb=>S b∨own ρ id (h id) b) w w ρ ρ:=⟨λ_ h=>.inl h,λ_ _ _=>rfl,λ_ _ h=>h⟩;have back:∀i b,own ρ i (bE h id .gone i) b->i≠id∧own ρ i (h i) b:=λi b hb=>by
  by_cases hi:i=id
  ·subst hi;rw[aY]at hb;exact hb.elim
  ·rw[bo _ _ hi]at hb;exact⟨hi,hb⟩
 refine⟨⟨λi=>?_,λi b hb=>?_,λi j b E G=>hr.dis i j b (back i b E).2 (back j b G).2,hr.slt.up up λb hb=>?_⟩,up⟩
 ·by_cases hi:i=id
  ·subst hi;rw[aY];trivial
  ·rw[bo _ _ hi];refine(hr.ob i).up up (λhf=>?_) λ_ _=>I;have :=hr.ob i;rw[hf]at this;exact this
 ·obtain⟨h1,h2⟩:=back i b hb;rintro(J|J)
  ·exact hr.sep i b h2 J
  ·exact h1<|hr.dis i id b h2 J
 ·rcases hb with hb|hb
  ·exact hr.slt b hb
  ·exact dd (hr.ob id) hb
theorem Bb{id:Nat}{x:Value}(hr:HRel S w ρ h)(ho:h id=.row e sz els)(hp:pureL els=true)(hx:VRel S w ρ (.sl id) x):VRel (λb=>S b∨own ρ id (h id) b) w ρ (.row sz els) x:=by
 simp only[VRel]at hx;obtain⟨v,xs,h1,h2,J⟩:=lG hr ho;rw[hx.1]at h1;cases h1;obtain⟨A,c,rfl,O,E⟩:=cq h2;simp only[VRel];refine⟨A,c,xs,I,O,E,(J.up (hU hr).2).pure hp,J.length,λhn=>?_⟩;obtain⟨g,cap,hv,_,G⟩:=h2.form hn;injection hv with U e2 Z
 subst U Z;exact⟨g,0,I,.inr (by rw[ho];exact⟨_,hx.1,I⟩),G,λj hj=>by rw[Nat.zero_add];exact ij h2 hj⟩
theorem Ii{id:Nat}{x:Value}(hr:HRel S w ρ h)(ho:h id=.var t cs)(hp:pureL cs=true)(hx:VRel S w ρ (.ptr id o) x):VRel (λb=>S b∨own ρ id (h id) b) w ρ (.box cs o) x:=by simp only[VRel]at hx;obtain⟨b,xs,h1,h2,G⟩:=sm hr ho;obtain⟨b',E,rfl⟩:=hx;rw[h1]at E;simp only[aab,Value.pointer.injEq,Addr.mk.injEq,and_true]at E;subst E;simp only[VRel];exact⟨b,0,xs,by simp,.inr (by rw[ho];exact h1),h2.lt,(G.up (hU hr).2).pure hp,λj J=>by rw[Nat.zero_add,h2.cell]⟩
end
abbrev Fm:=List (Option V)
def Fm.get:Fm->Nat->Option V
 |[],_=>none
 |x::_,0=>x
 |_::r,i+1=>Fm.get r i
def Fm.put{α:Type}:Fm->Nat->Option V->(Fm->α)->α
 |[],_,_,c=>c []
 |_::r,0,v,c=>c<|v::r
 |x::r,i+1,v,c=>Fm.put r i v λE=>c<|x::E
variable{α:Type}
def Fm.puto(F:Fm)(d:Option Tmp)(v:Option V)(c:Fm->α):α:=match d with
 |some d=>F.put d v c
 |none=>c F
def fX(n:Nat)(c:Nat->α):α:=match n with
 |0=>c 0
 |m+1=>c<|Nat.succ m
def Ij(n:Int)(c:Int->α):α:=match n with
 |.ofNat m=>fX m λm=>c<|.ofNat m
 |.negSucc m=>fX m λm=>c<|.negSucc m
def listK{α β:Type}:List β->(List β->α)->α
 |[],c=>c []
 |x::r,c=>listK r λE=>c<|x::E
theorem dI(n:Nat)(c:Nat->α):fX n c=c n:=by cases n<;>rfl
theorem Gx(n:Int)(c:Int->α):Ij n c=c n:=by cases n<;>simp[Ij,dI]
theorem cZ{α β:Type}:∀(l:List β) (c:List β->α),listK l c=c l
 |[],c=>rfl
 |x::r,c=>by simp[listK,cZ r]
theorem Fm.get_eq:∀(F:Fm) (i:Nat),F.get i=(F[i]?).bind id
 |[],i=>by simp[Fm.get]
 |x::r,0=>by simp[Fm.get]
 |x::r,i+1=>by simp[Fm.get,Fm.get_eq r i]
theorem Fm.put_eq{α:Type}:∀(F:Fm) (i:Nat) (v:Option V) (c:Fm->α),F.put i v c=c (F.set i v)
 |[],i,v,c=>by simp[Fm.put]
 |x::r,0,v,c=>by simp[Fm.put]
 |x::r,i+1,v,c=>by simp[Fm.put,Fm.put_eq r i]
def Fm.seto(F:Fm)(d:Option Tmp)(v:Option V):Fm:=match d with
 |some d=>F.set d v
 |none=>F
theorem Fm.puto_eq(F:Fm)(d:Option Tmp)(v:Option V)(c:Fm->α):F.puto d v c=c (F.seto d v):=by
 cases d with
 |none=>rfl
 |some d=>exact Fm.put_eq F d v c
inductive TK where
 |sc
 |bool
 |str
 |sl (e:TypeId)
 |struct (fs:List (Nat×Nat×Bool))
 |arr (len:Nat) (e:TypeId)
structure TD where
 size:Nat
 bytes:Nat
 zero:V
 kind:TK
structure Tab where
 frc:Bool
 ty:TypeId->Option TD
 fn:FuncId->Option Func
 nat:FuncId->List V->Option V
 keep:FuncId->Bool
def II:Value->V->Bool
 |.int k n,.int k' m=>k==k'&&n==m
 |.bool b,.bool c=>b==c
 |.string s,.str l=>s.data.toList==l
 |.pointer none,.nilp=>true
 |.slice none 0 0,.nils=>true
 |.map none,.raw (.map none)=>true
 |_,_=>false
def Il:List Value->List V->Bool
 |[],[]=>true
 |x::r,v::q=>II x v&&Il r q
 |_,_=>false
def zEq:Value->V->Bool
 |.agg cs,.agg vs=>Il cs.toList vs
 |x,v=>II x v
def wq(P:Program)(t:TypeId):Nat->List (Nat×Nat×Bool)->Bool
 |_,[]=>true
 |i,(o,s,b)::r=>(match b with
  |true=>tq P t i==some o
  |false=>sR P t i==some (o,s))&&io P t i==some o&&wq P t (i+1) r
def oR(P:Program)(t:TypeId)(size:Nat):TK->Bool
 |.sc=>cU P t
 |.bool=>cU P t&&match P.underlying t with|some .bool=>true|_=>false
 |.str=>cU P t&&match P.underlying t with|some .string=>true|_=>false
 |.sl e=>cU P t&&match P.underlying t with|some (.slice E)=>e==E|_=>false
 |.struct fs=>nW P t==some size&&zc P t==some (fs.map λp=>(p.1,p.2.1))&&wq P t 0 fs
 |.arr len e=>nW P t==some size&&match P.underlying t with|some (.array len' E)=>len==len'&&e==E|_=>false
def tdB(P:Program)(t:TypeId)(d:TD):Bool:=
 match P.info? t with
 |some inf=>match inf.zero with
  |some z=>inf.size==d.size&&inf.bytes==d.bytes&&zEq z d.zero&&z.cells.size==d.size&&oR P t d.size d.kind&&z.cells.toList.all (·.oneCell')
  |none=>false
 |none=>false
structure TdOk (P:Program) (t:TypeId) (d:TD):Prop where
 size:dm P t=some d.size
 info:∃z:Value,(P.info? t).map (λi=>(i.zero,i.size,i.bytes))=some (some z,d.size,d.bytes)∧(∀S w ρ,VRel S w ρ d.zero z)∧z.cells.size=d.size∧z.cells.toList.all (·.oneCell')=true
 kind:oR P t d.size d.kind=true
theorem GZ{S:Nat->Prop}{w:World}{x:Value}(h:II x v=true):VRel S w ρ v x:=by
 unfold II at h;split at h
 ·simp only[aaa,aaq]at h;simp only[VRel];rw[h.1,h.2]
 ·simp only[aaq]at h;simp only[VRel];rw[h]
 ·simp only[aaq]at h;simp only[VRel];rw[<-h]
 ·simp only[VRel]
 ·simp only[VRel]
 ·simp only[VRel];exact⟨trivial,rfl⟩
 ·cases h
theorem GV{S:Nat->Prop}{w:World}{ρ:Nat->Option Value}:∀{xs:List Value} {vs:List V},Il xs vs=true->LRel S w ρ vs xs
 |[],[],h=>by simp[LRel]
 |x::r,v::q,h=>by simp only[Il,aaa]at h;exact⟨x,r,I,GZ h.1,GV h.2⟩
 |[],_::_,h=>by cases h
 |_::_,[],h=>by cases h
theorem Ee{S:Nat->Prop}{w:World}{x:Value}(h:zEq x v=true):VRel S w ρ v x:=by
 unfold zEq at h;split at h
 ·simp only[VRel];exact⟨_,rfl,GV h⟩
 ·exact GZ h
variable{P:Program}{d:TD}
theorem Qv(h:tdB P t d=true):TdOk P t d:=by
 unfold tdB at h;split at h
 ·rename_i inf hi;split at h
  ·rename_i z hz;simp only[aaa,aaq]at h;obtain⟨⟨⟨⟨⟨h1,h2⟩,E⟩,G⟩,J⟩,O⟩:=h;exact⟨by simp[dm,hi,h1],⟨z,by simp[hi,hz,h1,h2],λS w ρ=>Ee E,G,O⟩,J⟩
  ·cases h
 ·cases h
theorem TdOk.zeroT(h:TdOk P t d):∃z,nb P t=some z∧∀S w ρ,LRel S w ρ d.zero.cells z:=by obtain⟨z,h1,h2,_⟩:=h.info;obtain⟨J,G,E⟩:=Option.map_eq_some_iff.1 h1;simp only[Prod.mk.injEq]at E;exact⟨z.cells.toList,by unfold Go.Proofs.YtehhanlhfdoiaaaGreat.nb;simp[G,E.1],λS w ρ=>(h2 S w ρ).cells⟩
def TD.agg(d:TD):Bool:=match d.kind with
 |.struct _=>true
 |.arr _ _=>true
 |_=>false
theorem TdOk.sc(h:TdOk P t d)(J:d.agg=false):cU P t=true:=by
 have E:=h.kind;unfold TD.agg at J;cases G:d.kind with
 |sc=>rw[G]at E;exact E
 |bool=>rw[G]at E;simp only[oR,aaa]at E;exact E.1
 |str=>rw[G]at E;simp only[oR,aaa]at E;exact E.1
 |sl e=>rw[G]at E;simp only[oR,aaa]at E;exact E.1
 |struct fs=>rw[G]at J;cases J
 |arr _ _=>rw[G]at J;cases J
theorem TdOk.ag(h:TdOk P t d)(G:d.agg=true):nW P t=some d.size:=by
 have E:=h.kind;unfold TD.agg at G;cases J:d.kind with
 |struct fs=>rw[J]at E;simp only[oR,aaa,aaq]at E;exact E.1.1
 |arr _ _=>rw[J]at E;simp only[oR,aaa,aaq]at E;exact E.1
 |_=>rw[J]at G;cases G
theorem TdOk.bool(h:TdOk P t d)(G:d.kind=.bool):P.underlying t=some .bool:=by
 have E:=h.kind;rw[G]at E;simp only[oR,aaa]at E;have :=E.2;split at this
 ·assumption
 ·cases this
theorem TdOk.str(h:TdOk P t d)(G:d.kind=.str):P.underlying t=some .string:=by
 have E:=h.kind;rw[G]at E;simp only[oR,aaa]at E;have :=E.2;split at this
 ·assumption
 ·cases this
theorem TdOk.sl(h:TdOk P t d)(G:d.kind=.sl e):P.underlying t=some (.slice e):=by
 have E:=h.kind;rw[G]at E;simp only[oR,aaa]at E;have :=E.2;split at this
 ·rename_i O J;simp only[aaq]at this;rw[this];exact J
 ·cases this
theorem TdOk.arr(h:TdOk P t d)(G:d.kind=.arr n e):P.underlying t=some (.array n e):=by
 have E:=h.kind;rw[G]at E;simp only[oR,aaa]at E;have :=E.2;split at this
 ·rename_i O U J;simp only[aaa,aaq]at this;rw[this.1,this.2];exact J
 ·cases this
theorem Bw{P:Program}{t:TypeId}:∀{fs:List<|Nat×Nat×Bool} {k:Nat},wq P t k fs=true->∀i o s b,fs[i]?=some (o,s,b)->io P t (k+i)=some o∧(b=true->tq P t (k+i)=some o)∧(b=false->sR P t (k+i)=some (o,s))
 |[],k,h,i,o,s,b,hi=>by simp at hi
 |(o',s',b')::r,k,h,0,o,s,b,hi=>by
  simp only[List.getElem?_cons_zero,aab,Prod.mk.injEq]at hi;obtain⟨rfl,rfl,rfl⟩:=hi;simp only[wq,aaa,aaq]at h;refine⟨h.1.2,λhb=>?_,λhb=>?_⟩
  ·subst hb;have :=h.1.1;simpa using this
  ·subst hb;have :=h.1.1;simpa using this
 |(o',s',b')::r,k,h,i+1,o,s,b,hi=>by simp only[wq,aaa]at h;have :=Bw h.2 i o s b (by simpa using hi);rw[show k+1+i=k+(i+1) by omega]at this;exact this
theorem TdOk.fields{fs:List<|Nat×Nat×Bool}(h:TdOk P t d)(G:d.kind=.struct fs):zc P t=some (fs.map λp=>(p.1,p.2.1))∧∀i o s b,fs[i]?=some (o,s,b)->io P t i=some o∧(b=true->tq P t i=some o)∧(b=false->sR P t i=some (o,s)):=by
 have E:=h.kind;rw[G]at E;simp only[oR,aaa,aaq]at E;refine⟨E.1.2,λi o s b hi=>?_⟩;have :=Bw E.2 i o s b hi
 rwa [Nat.zero_add]at this
structure TabOk (P:Program) (T:Tab):Prop where
 ty:∀t d,T.ty t=some d->TdOk P t d
 fn:∀i f,T.fn i=some f->P.funcs[i]?=some f∧cf P i=true
 nat:∀i vs v,T.nat i vs=some v->cf P i=true∧∀S w ρ xs,LRel S w ρ vs xs->∃x,VRel S w ρ v x∧Calls P i xs.toArray w λe w'=>e=.returned x∧w=w'
structure FRel (S:Nat->Prop) (w:World) (ρ:Nat->Option Value) (a:Act) (n:Nat) (F:Fm):Prop where
 size:a.tmps.size=n
 defers:a.defers=[]
 gl:∀p∈Dz,VRel S w ρ0 (.box p.2 0) (.pointer (some ⟨p.1,0,none⟩))
 len:F.length<=n
 get:∀i v,F.get i=some v->∃x,a.tmps[i]?=some x∧VRel S w ρ v x
section
variable{S S':Nat->Prop}{w w':World}{ρ ρ':Nat->Option Value}{a:Act}{n:Nat}{F:Fm}
theorem FRel.fr(h:FRel S w ρ a n F):Fr a n (fA a):=⟨h.size,h.defers,λ_ _ h=>h⟩
theorem FRel.up(u:Up S S' w w' ρ ρ')(h:FRel S w ρ a n F):FRel S' w' ρ' a n F:=
 ⟨h.size,h.defers,λp hp=>(h.gl p hp).up u.z,h.len,λi v hv=>by obtain⟨x,h1,h2⟩:=h.get i v hv;exact⟨x,h1,h2.up u⟩⟩
theorem FRel.set(h:FRel S w ρ a n F)(d:Option Tmp){v:Option V}{x:Value}(hx:∀u,v=some u->VRel S w ρ u x):FRel S w ρ (a.put d x) n (F.seto d v):=by
 cases d with
 |none=>exact h
 | some d=>
  refine⟨by simp[Act.put,h.size],h.defers,h.gl,by simp[Fm.seto];exact h.len,λi u hu=>?_⟩;simp only[Fm.seto,Fm.get_eq,List.getElem?_set]at hu;simp only[Act.put,Array.getElem?_setIfInBounds,h.size];by_cases hid:d=i
  ·subst hid;simp only[if_true]at hu⊢;split at hu
   ·rename_i hlt;simp only[Option.bind_some,id_eq]at hu;exact⟨x,by simp[aaw hlt h.len],hx u hu⟩
   ·cases hu
  ·simp only[if_neg hid]at hu⊢;exact h.get i u (by rw[Fm.get_eq];exact hu)
end
def Jc:Value->Option V
 |.int k n=>some<|.int k n
 |.bool b=>some<|.bool b
 |.string s=>some<|.str s.data.toList
 |.pointer none=>some .nilp
 |.slice none 0 0=>some .nils
 |_=>none
def FE:List Value->Option (List V)
 |[]=>some []
 |v::r=>match Jc v with
  |some x=>match FE r with
   |some xs=>some<|x::xs
   |none=>none
  |none=>none
def ofV:Value->Option V
 |.agg cs=>match FE cs.toList with
  |some l=>some<|.agg l
  |none=>none
 |v=>Jc v
def Br:List (Nat×List V)->Nat->Option (List V)
 |[],_=>none
 |(i,cs)::r,j=>match Nat.beq i j with
  |true=>some cs
  |false=>Br r j
theorem BB:∀{l:List<|Nat×List V} {j:Nat} {cs:List V},Br l j=some cs->(j,cs)∈l
 |[],j,cs,h=>by cases h
 | (i,c)::r,j,cs,h=>by
  simp only[Br]at h;split at h
  ·rename_i hb;have :=aag hb;injection h with h;subst this h;exact List.mem_cons_self
  ·exact List.mem_cons_of_mem _<|BB h
def aJ(F:Fm):Operand->Option V
 |.tmp t=>F.get t
 |.const v=>ofV v
 |.global g=>match Br Dz g with
  |some cs=>some<|.box cs 0
  |none=>none
 |.func g=>some<|.clo g []
def fF(F:Fm):List Operand->Option (List V)
 |[]=>some []
 |x::r=>match aJ F x with
  |some v=>match fF F r with
   |some vs=>some<|v::vs
   |none=>none
  |none=>none
def oA(F:Fm):List (Nat×Operand)->Option (List<|Nat×V)
 |[]=>some []
 |(i,x)::r=>match aJ F x with
  |some v=>match oA F r with
   |some vs=>some<|(i,v)::vs
   |none=>none
  |none=>none
section
variable{S S':Nat->Prop}{w w':World}{ρ ρ':Nat->Option Value}{a:Act}{n:Nat}{F:Fm}
theorem Hk{x:Value}(h:Jc x=some v):VRel S w ρ v x:=by
 unfold Jc at h;split at h<;>first|(simp only[aab]at h;subst h;simp only[VRel];done)|cases h
theorem Hf:∀{xs:List Value} {vs:List V},FE xs=some vs->LRel S w ρ vs xs
 |[],vs,h=>by simp only[FE,aab]at h;subst h;simp[LRel]
 | x::r,vs,h=>by
  simp only[FE]at h;split at h
  ·rename_i v hv;split at h
   ·rename_i us hu;simp only[aab]at h;subst h;exact⟨x,r,I,Hk hv,Hf hu⟩
   ·cases h
  ·cases h
theorem Px{x:Value}(h:ofV x=some v):VRel S w ρ v x:=by
 unfold ofV at h;split at h
 ·split at h
  ·rename_i l E;simp only[aab]at h;subst h;simp only[VRel];exact⟨_,rfl,Hf E⟩
  ·cases h
 ·exact Hk h
theorem aq(E:FRel S w ρ a n F)(h:aJ F x=some v):Opd S w ρ a x v:=by
 unfold aJ at h;split at h
 ·rename_i t;obtain⟨y,h1,h2⟩:=E.get t v h;exact⟨y,h1,h2⟩
 ·rename_i c;exact⟨c,I,Px h⟩
 ·rename_i g;split at h
  ·rename_i cs G;injection h with h;subst h
   exact⟨_,I,(E.gl _<|BB G).pure<|by rfl⟩
  ·cases h
 ·rename_i g;injection h with h;subst h
  exact⟨_,rfl,by simp only[VRel,LRel];exact⟨[],rfl,rfl⟩⟩
theorem rA(hF:FRel S w ρ a n F):∀{l:List Operand} {vs:List V},fF F l=some vs->∃xs,sE (fA a) l=some xs∧LRel S w ρ vs xs
 |[],vs,h=>by simp only[fF,aab]at h;subst h;exact⟨[],rfl,by simp[LRel]⟩
 | x::r,vs,h=>by
  simp only[fF]at h;split at h
  ·rename_i v hv;split at h
   ·rename_i us hu;simp only[aab]at h;subst h;obtain⟨y,h1,h2⟩:=aq hF hv;obtain⟨ys,h3,h4⟩:=rA hF hu;exact⟨y::ys,by simp only[sE,h1,h3],⟨y,ys,rfl,h2,h4⟩⟩
   ·cases h
  ·cases h
theorem sk(hF:FRel S w ρ a n F):∀{l:List<|Nat×Operand} {vs:List<|Nat×V},oA F l=some vs->∃ys,eL (fA a) l=some ys∧jH S w ρ vs ys
 |[],vs,h=>by simp only[oA,aab]at h;subst h;exact⟨[],rfl,by simp[jH]⟩
 | (i,x)::r,vs,h=>by
  simp only[oA]at h;split at h
  ·rename_i v hv;split at h
   ·rename_i us hu;simp only[aab]at h;subst h;obtain⟨y,h1,h2⟩:=aq hF hv;obtain⟨ys,h3,h4⟩:=sk hF hu;exact⟨(i,y)::ys,by simp only[eL,h1,h3],⟨y,ys,rfl,h2,h4⟩⟩
   ·cases h
  ·cases h
end
def iEq:Int->Int->Bool
 |.ofNat a,.ofNat b=>Nat.beq a b
 |.negSucc a,.negSucc b=>Nat.beq a b
 |_,_=>false
def iLt:Int->Int->Bool
 |.ofNat a,.ofNat b=>Nat.blt a b
 |.negSucc a,.negSucc b=>Nat.blt b a
 |.negSucc _,.ofNat _=>true
 |.ofNat _,.negSucc _=>false
def inR:Int->Bool
 |.ofNat a=>Nat.ble a 9223372036854775807
 |.negSucc a=>Nat.ble a 9223372036854775807
def lEq:YB->YB->Bool
 |[],[]=>true
 |a::r,b::q=>match Nat.beq a.toNat b.toNat with
  |true=>lEq r q
  |false=>false
 |_,_=>false
def kEq:IntKind->IntKind->Bool
 |.i64,.i64=>true
 |.u8,.u8=>true
 |_,_=>false
theorem yA(m l:Int):iEq m l=(m==l):=by rw[Bool.eq_iff_iff];cases m<;>cases l<;>simp[iEq]<;>omega
theorem vo(m l:Int):iLt m l=decide (m<l):=by rw[Bool.eq_iff_iff];cases m<;>cases l<;>simp[iLt]<;>omega
theorem PU{n:Int}(h:inR n=true):-9223372036854775808<=n∧n<=9223372036854775807:=by
 cases n with
 |ofNat a=>simp only[inR,Nat.ble_eq]at h;simp only[Int.ofNat_eq_natCast];omega
 |negSucc a=>simp only[inR,Nat.ble_eq]at h;omega
theorem vW:∀(m l:YB),lEq m l=(m==l)
 |[],[]=>rfl
 |[],_::_=>rfl
 |_::_,[]=>rfl
 | a::r,b::q=>by
  simp only[lEq];split
  ·rename_i hb;have :a=b:=UInt8.toNat_inj.1 (aag hb);subst this;simp[vW r q]
  ·rename_i hb;have :a≠b:=λe=>by subst e;simp at hb
   simp[this]
theorem PP{k k':IntKind}(h:kEq k k'=true):k=k':=by
 unfold kEq at h;split at h<;>first|rfl|cases h
def mkB(b:Bool):Option V:=match b with
 |true=>some<|.bool true
 |false=>some<|.bool false
theorem QQ(b:Bool):mkB b=some (.bool b):=by cases b<;>rfl
def rx(f:Bool)(fast slow:Bool):Option V:=match f with
 |true=>mkB fast
 |false=>some<|.bool slow
theorem kD{f fast slow:Bool}(E:fast=slow)(h:rx f fast slow=some v):v=.bool slow:=by
 subst E;unfold rx at h;split at h
 ·rw[QQ]at h;simpa using h.symm
 ·simpa using h.symm
def Jl(f:Bool)(k:IntKind)(n:Int):Option V:=match f with
 |true=>match k with
  |.i64=>Ij n λn=>match inR n with
   |true=>some<|.int .i64 n
   |false=>none
  |_=>none
 |false=>some<|.int k<|k.wrap n
theorem Hg{f:Bool}{k:IntKind}{n:Int}(h:Jl f k n=some v):v=.int k (k.wrap n):=by
 unfold Jl at h;split at h
 ·split at h
  ·rw[Gx]at h;split at h
   ·rename_i hr;have e:IntKind.i64.wrap n=n:=IntWalk.i64_in _ (by have :=PU hr;omega);rw[e];simpa using h.symm
   ·cases h
  ·cases h
 ·simpa using h.symm
def MQ (T:Tab) (op:BinOp) (t:TypeId):V->V->Option V
 |.int k m,.int k' l=>match kEq k k' with
  |false=>none
  |true=>match op with
   |.eql=>rx T.frc (iEq m l)<|m==l
   |.neq=>rx T.frc (!iEq m l)<|m !=l
   |.lss=>rx T.frc (iLt m l)<|decide<|m<l
   |.gtr=>rx T.frc (iLt l m)<|decide<|l<m
   |.leq=>rx T.frc (!iLt l m)<|decide<|m<=l
   |.geq=>rx T.frc (!iLt m l)<|decide<|l<=m
   |.add=>Jl T.frc k<|m+l
   |.sub=>Jl T.frc k<|m-l
   |_=>none
 |.str m,.str l=>match op with
  |.eql=>rx T.frc (lEq m l)<|m==l
  |.neq=>rx T.frc (!lEq m l)<|m !=l
  |.add=>match T.frc with
   |true=>match Nat.ble (m.length+l.length) 9223372036854775807 with
    |true=>listK (m++l) λr=>some<|.str r
    |false=>none
   |false=>none
  |_=>none
 |.bool m,.bool l=>match T.ty t with
  |some ⟨_,_,_,.bool⟩=>match op with
   |.eql=>rx T.frc (m==l)<|m==l
   |.neq=>rx T.frc (m !=l)<|m !=l
   |_=>none
  |_=>none
 |_,_=>none
def atV:List V->Nat->Option V
 |[],_=>none
 |x::_,0=>some x
 |_::r,i+1=>atV r i
theorem qD:∀(l:List V) (i:Nat),atV l i=l[i]?
 |[],i=>by simp[atV]
 |x::r,0=>by simp[atV]
 |x::r,i+1=>by simp[atV,qD r i]
def atB:YB->Nat->Option UInt8
 |[],_=>none
 |x::_,0=>some x
 |_::r,i+1=>atB r i
theorem Kq:∀(l:YB) (i:Nat),atB l i=l[i]?
 |[],i=>by simp[atB]
 |x::r,0=>by simp[atB]
 |x::r,i+1=>by simp[atB,Kq r i]
def atF:List (Nat×Nat×Bool)->Nat->Option (Nat×Nat×Bool)
 |[],_=>none
 |x::_,0=>some x
 |_::r,i+1=>atF r i
theorem FL:∀(l:List<|Nat×Nat×Bool) (i:Nat),atF l i=l[i]?
 |[],i=>by simp[atF]
 |x::r,0=>by simp[atF]
 |x::r,i+1=>by simp[atF,FL r i]
def Iq(T:Tab)(t:TypeId)(i:Nat):Option (Nat×Nat×Bool):=match T.ty t with
 |some ⟨_,_,_,.struct fs⟩=>atF fs i
 |_=>none
def zj:List V->Nat->List V
 |l,0=>l
 |[],_+1=>[]
 |_::r,i+1=>zj r i
theorem wN:∀(l:List V) (i:Nat),zj l i=l.drop i
 |[],0=>rfl
 |_::_,0=>rfl
 |[],i+1=>by simp[zj]
 |_::r,i+1=>by simp[zj,wN r i]
def xv{α:Type}:List V->Nat->(List V->Option α)->Option α
 |_,0,c=>c []
 |[],_+1,_=>none
 |x::r,i+1,c=>xv r i λE=>c<|x::E
theorem wM{α:Type}:∀{l:List V} {i:Nat} {c:List V->Option α} {v:α},xv l i c=some v->i<=l.length∧c (l.take i)=some v
 |l,0,c,v,h=>by simpa[xv]using h
 |[],i+1,c,v,h=>by simp[xv]at h
 |x::r,i+1,c,v,h=>by simp only[xv]at h;have :=wM h;simpa using this
def rH(d:TD)(cs:List V)(o:Nat):Option V:=match d.agg with
 |true=>match Nat.blt 0 d.size with
  |true=>xv (zj cs o) d.size λl=>some<|.agg l
  |false=>none
 |false=>atV cs o
def MX(f:Bool)(m l:Int):Option V:=match f with
 |true=>match iLt m l with
  |true=>some<|.int .i64 l
  |false=>some<|.int .i64 m
 |false=>some<|.int .i64<|max m l
theorem On{f:Bool}{m l:Int}(h:MX f m l=some v):v=.int .i64 (max m l):=by
 unfold MX at h;split at h
 ·split at h
  ·rename_i hb;rw[vo]at hb;simp only[aat]at hb;injection h with h;rw[<-h,Int.max_eq_right<|by omega]
  ·rename_i hb;rw[vo]at hb;simp only[decide_eq_false_iff_not]at hb;injection h with h;rw[<-h,Int.max_eq_left<|by omega]
 ·injection h with h;exact h.symm
def qf (T:Tab) (h:Nat->Ob) (F:Fm) (op:Op):Option V:=
 match op with
 |.move x=>aJ F x
 |.assign x=>aJ F x
 |.pick c x y=>match aJ F c with
  |some (.bool true)=>aJ F x
  |some (.bool false)=>aJ F y
  |_=>none
 |.nilCheck x=>match aJ F x with
  |some (.ptr id o)=>some<|.ptr id o
  |some (.el id sz i o)=>some<|.el id sz i o
  |some (.box cs o)=>some<|.box cs o
  |_=>none
 |.extract x i=>match aJ F x with
  |some (.tup vs)=>atV vs i
  |_=>none
 |.unOp .not _ x=>match aJ F x with
  |some (.bool b)=>rx T.frc (!b)<|!b
  |_=>none
 |.fieldAddr t x i=>match Iq T t i with
  |some (k,_,_)=>match aJ F x with
   |some (.ptr id o)=>fX (o+k) λr=>some<|.ptr id r
   |some (.el id sz j o)=>fX (o+k) λr=>some<|.el id sz j r
   |some (.box cs o)=>fX (o+k) λr=>some<|.box cs r
   |_=>none
  |none=>none
 |.field t x i=>match aJ F x with
  |some (.agg cs)=>match Iq T t i with
   |some (k,_,true)=>atV cs k
   |some (k,m,false)=>xv (zj cs k) m λl=>some<|.agg l
   |none=>none
  |_=>none
 |.binOp op t x y _=>match aJ F x with
  |some a=>match aJ F y with
   |some b=>MQ T op t a b
   |none=>none
  |none=>none
 |.call ⟨.builtin .len,⟨[x]⟩,⟨[t]⟩⟩=>match T.ty t with
  |some ⟨_,_,_,.sl _⟩=>match aJ F x with
   |some .nils=>some<|.int .i64 0
   |some (.row _ els)=>match T.frc with
    |true=>fX els.length λn=>some<|.int .i64<|.ofNat n
    |false=>some<|.int .i64 els.length
   |some (.sl id)=>match h id with
    |.row _ _ els=>match T.frc with
     |true=>fX els.length λn=>some<|.int .i64<|.ofNat n
     |false=>some<|.int .i64 els.length
    |_=>none
   |_=>none
  |some ⟨_,_,_,.str⟩=>match aJ F x with
   |some (.str l)=>match T.frc with
    |true=>fX l.length λn=>some<|.int .i64<|.ofNat n
    |false=>some<|.int .i64 l.length
   |_=>none
  |_=>none
 |.call ⟨.builtin .max,⟨[x,y]⟩,⟨[t,u]⟩⟩=>match aJ F x with
  |some (.int .i64 m)=>match aJ F y with
   |some (.int .i64 l)=>MX T.frc m l
   |_=>none
  |_=>none
 |.index t x y=>match T.ty t with
  |some ⟨_,_,_,.str⟩=>match aJ F x with
   |some (.str l)=>match aJ F y with
    |some (.int .i64 (.ofNat i))=>match atB l i with
     |some c=>fX c.toNat λc=>some<|.int .u8<|.ofNat c
     |none=>none
    |_=>none
   |_=>none
  |_=>none
 |.indexAddr t x y=>match T.ty t with
  |some ⟨_,_,_,.sl e⟩=>match T.ty e with
   |some d=>match aJ F x with
    |some (.row sz els)=>match aJ F y with
     |some (.int .i64 (.ofNat i))=>match Nat.beq sz d.size with
      |true=>match atV els i with
       |some v=>listK v.cells λcs=>some<|.box cs 0
       |none=>none
      |false=>none
     |_=>none
    |some (.sl id)=>match h id with
     |.row _ sz els=>match aJ F y with
      |some (.int .i64 (.ofNat i))=>match Nat.beq sz d.size&&Nat.blt i els.length with
       |true=>some<|.el id sz i 0
       |false=>none
      |_=>none
     |_=>none
    |_=>none
   |none=>none
  |_=>none
 |.build t ⟨ps⟩=>match T.ty t with
  |some ⟨_,_,z,.struct fs⟩=>match oA F ps with
   |some vs=>match um (λi=>match atF fs i with|some (o,s,_)=>some (o,s)|none=>none) z.cells vs with
    |some cs=>listK cs λcs=>some<|.agg cs
    |none=>none
   |none=>none
  |some ⟨_,_,z,.arr _ e⟩=>match T.ty e with
   |some d=>match oA F ps with
    |some vs=>match um (λi=>some (i*d.size,d.size)) z.cells vs with
     |some cs=>listK cs λcs=>some<|.agg cs
     |none=>none
    |none=>none
   |none=>none
  |_=>none
 |.slice t x lo hi none=>match T.ty t with
  |some ⟨_,_,_,.str⟩=>match aJ F x with
   |some (.str l)=>match(match lo with|none=>some (V.int .i64<|.ofNat 0)|some y=>aJ F y)with
    |some (.int .i64 (.ofNat i))=>match(match hi with|none=>some (V.int .i64<|.ofNat l.length)|some y=>aJ F y)with
     |some (.int .i64 (.ofNat j))=>match Nat.ble i j&&Nat.ble j l.length with
      |true=>listK ((l.drop i).take<|j-i) λr=>some<|.str r
      |false=>none
     |_=>none
    |_=>none
   |_=>none
  |some ⟨_,_,_,.sl e⟩=>match T.ty e with
   |some d=>match aJ F x with
    |some (.row sz els)=>match(match lo with|none=>some (V.int .i64<|.ofNat 0)|some y=>aJ F y)with
     |some (.int .i64 (.ofNat i))=>match(match hi with|none=>some (V.int .i64<|.ofNat els.length)|some y=>aJ F y)with
      |some (.int .i64 (.ofNat j))=>match Nat.ble i j&&Nat.ble j els.length&&Nat.beq sz d.size with
       |true=>listK ((els.drop i).take<|j-i) λr=>some<|.row sz r
       |false=>none
      |_=>none
     |_=>none
    |_=>none
   |none=>none
  |_=>none
 |.load t x=>match aJ F x with
  |some (.box cs o)=>match T.ty t with
   |some d=>rH d cs o
   |none=>none
  |_=>none
 |_=>none
section
variable{P:Program}{T:Tab}{S:Nat->Prop}{w:World}{ρ:Nat->Option Value}{h:Nat->Ob}{a:Act}{n:Nat}{F:Fm}{ty:TypeId}
theorem QV{k:IntKind}{m l:Int}(fr:Fr a n<|fA a)(hx:Opd S w ρ a x<|.int k m)(hy:Opd S w ρ a y<|.int k l):Yld P S w ρ a ty (.binOp .add t x y u) (.int k<|k.wrap<|m+l):=
 ⟨.int k<|k.wrap<|m+l,by simp only[VRel],λw' _ _ _ _ _=>by simp only[execOp,fr.eval<|aV hx,fr.eval<|aV hy];simp[go_sem,eqGuard]⟩
theorem Qc{k:IntKind}{m l:Int}(fr:Fr a n<|fA a)(hx:Opd S w ρ a x<|.int k m)(hy:Opd S w ρ a y<|.int k l):Yld P S w ρ a ty (.binOp .sub t x y u) (.int k<|k.wrap<|m-l):=
 ⟨.int k<|k.wrap<|m-l,by simp only[VRel],λw' _ _ _ _ _=>by simp only[execOp,fr.eval<|aV hx,fr.eval<|aV hy];simp[go_sem,eqGuard]⟩
theorem JS(m l:YB):(ByteArray.mk m.toArray++ByteArray.mk l.toArray)=⟨(m++l).toArray⟩:=by apply ByteArray.ext;simp[ByteArray.data_append]
theorem PI{m:YB}(fr:Fr a n<|fA a)(hx:Opd S w ρ a x<|.str m)(hy:Opd S w ρ a y<|.str l)(E:m.length+l.length<=9223372036854775807):Yld P S w ρ a ty (.binOp .add t x y u) (.str<|m++l):=
 ⟨.string ⟨(m++l).toArray⟩,by simp only[VRel],λw' _ _ _ _ _=>by simp only[execOp,fr.eval<|km hx,fr.eval<|km hy];simp[go_sem,eqGuard,JS,show¬9223372036854775807<m.length+l.length by omega]⟩
theorem OR(E:TabOk P T){op:BinOp}{c d:V}(fr:Fr a n<|fA a)(hx:Opd S w ρ a x c)(hy:Opd S w ρ a y d)(hv:MQ T op t c d=some v):Yld P S w ρ a ty (.binOp op t x y u) v:=by
 unfold MQ at hv;split at hv
 ·split at hv
  ·cases hv
  ·rename_i G;have :=PP G;subst this;split at hv
   ·rw[kD (yA _ _) hv];exact Rq fr hx hy
   ·rw[kD (by rw[yA];rfl) hv];exact RC fr hx hy
   ·rw[kD (vo _ _) hv];exact RF fr hx hy
   ·rw[kD (vo _ _) hv];exact RM fr hx hy
   ·rw[kD (by rw[vo,Bool.eq_iff_iff];simp) hv];exact RL fr hx hy
   ·rw[kD (by rw[vo,Bool.eq_iff_iff];simp) hv];exact Rc fr hx hy
   ·rw[Hg hv];exact QV fr hx hy
   ·rw[Hg hv];exact Qc fr hx hy
   ·cases hv
 ·split at hv
  ·rw[kD (vW _ _) hv];exact RN fr hx hy
  ·rw[kD (by rw[vW];rfl) hv];exact Rj fr hx hy
  ·split at hv
   ·split at hv
    ·rename_i hb;rw[cZ]at hv;simp only[aab]at hv;subst hv;exact PI fr hx hy (by simpa using hb)
    ·cases hv
   ·cases hv
  ·cases hv
 ·split at hv
  ·rename_i J;have ht:=(E.ty _ _ J).bool rfl;split at hv
   ·rw[kD rfl hv];exact RA fr ht hx hy
   ·rw[kD rfl hv];exact RP fr ht hx hy
   ·cases hv
  ·cases hv
 ·cases hv
theorem BY(E:TabOk P T){s:Nat}{b:Bool}(hf:Iq T t i=some (o,s,b)):io P t i=some o∧(b=true->tq P t i=some o)∧(b=false->sR P t i=some (o,s)):=by
 unfold Iq at hf;split at hf
 ·rename_i G;rw[FL]at hf;exact((E.ty _ _ G).fields I).2 i o s b hf
 ·cases hf
theorem wv (hT:TabOk P T) (hr:HRel S w ρ h) (hF:FRel S w ρ a n F) {op:Op} {v:V} (hv:qf T h F op=some v):Yld P S w ρ a ty op v:=by
 have fr:=hF.fr;unfold qf at hv;split at hv
 ·exact Pg fr<|aq hF hv
 ·exact Ni fr<|aq hF hv
 ·split at hv
  ·exact Oz fr (aq hF ‹_›)<|aq hF hv
  ·exact Ow fr (aq hF ‹_›)<|aq hF hv
  ·cases hv
 ·split at hv
  ·injection hv with hv;subst hv;exact PG fr<|aq hF ‹_›
  ·injection hv with hv;subst hv;exact Qd fr<|aq hF ‹_›
  ·injection hv with hv;subst hv;exact QL fr<|aq hF ‹_›
  ·cases hv
 ·split at hv
  ·rw[qD]at hv;exact Rt fr (aq hF ‹_›) hv
  ·cases hv
 ·split at hv
  ·rw[kD rfl hv];exact Rd fr<|aq hF ‹_›
  ·cases hv
 ·split at hv
  ·rename_i hfl;have hfo:=(BY hT hfl).1;split at hv
   ·rw[dI]at hv;injection hv with hv;subst hv;exact RI fr (aq hF ‹_›) hfo
   ·rw[dI]at hv;injection hv with hv;subst hv;exact RO fr (aq hF ‹_›) hfo
   ·rw[dI]at hv;injection hv with hv;subst hv;exact Rv fr (aq hF ‹_›) hfo
   ·cases hv
  ·cases hv
 ·split at hv
  ·split at hv
   ·rename_i hfl;rw[qD]at hv;exact Sn fr (aq hF ‹_›) ((BY hT hfl).2.1 I) hv
   ·rename_i hfl;obtain⟨_,hv⟩:=wM hv;rw[wN]at hv;injection hv with hv;subst hv
    exact RQ fr (aq hF ‹_›)<|(BY hT hfl).2.2 I
   ·cases hv
  ·cases hv
 ·split at hv
  ·split at hv
   ·exact OR hT fr (aq hF ‹_›) (aq hF ‹_›) hv
   ·cases hv
  ·cases hv
 ·split at hv
  ·rename_i hd;have ht:=(hT.ty _ _ hd).sl rfl;split at hv
   ·injection hv with hv;subst hv;exact QB fr ht<|aq hF ‹_›
   ·split at hv
    ·rw[dI]at hv;injection hv with hv;subst hv;exact Lk fr ht<|aq hF ‹_›
    ·injection hv with hv;subst hv;exact Lk fr ht<|aq hF ‹_›
   ·split at hv
    ·split at hv
     ·rw[dI]at hv;injection hv with hv;subst hv;exact JH hr ‹_› fr ht (aq hF ‹_›)
     ·injection hv with hv;subst hv;exact JH hr ‹_› fr ht (aq hF ‹_›)
    ·cases hv
   ·cases hv
  ·rename_i hd;have ht:=(hT.ty _ _ hd).str rfl;split at hv
   ·split at hv
    ·rw[dI]at hv;injection hv with hv;subst hv;exact KC fr ht<|aq hF ‹_›
    ·injection hv with hv;subst hv;exact KC fr ht<|aq hF ‹_›
   ·cases hv
  ·cases hv
 ·split at hv
  ·split at hv
   ·rw[On hv];exact PZ fr (aq hF ‹_›)<|aq hF ‹_›
   ·cases hv
  ·cases hv
 ·split at hv
  ·rename_i hd;have ht:=(hT.ty _ _ hd).str rfl;split at hv
   ·split at hv
    ·split at hv
     ·rename_i hb;rw[Kq]at hb;rw[dI]at hv;injection hv with hv;subst hv
      exact p_idxS fr ht (aq hF ‹_›) (aq hF ‹_›) hb
     ·cases hv
    ·cases hv
   ·cases hv
  ·cases hv
 ·split at hv
  ·rename_i hd;have ht:=(hT.ty _ _ hd).sl rfl;split at hv
   ·rename_i d he;have hz:=(hT.ty _ _ he).size;split at hv
    ·split at hv
     ·split at hv
      ·rename_i hb;have :=aag hb;subst this;split at hv
       ·rename_i hi;rw[qD]at hi;rw[cZ]at hv;injection hv with hv;subst hv
        exact p_idxR fr ht hz (aq hF ‹_›) (aq hF ‹_›) hi
       ·cases hv
      ·cases hv
     ·cases hv
    ·split at hv
     ·split at hv
      ·split at hv
       ·rename_i hb;simp only[aaa,Nat.beq_eq,Nat.blt_eq]at hb;obtain⟨rfl,hlt⟩:=hb;injection hv with hv;subst hv
        exact p_idxO hr ‹_› fr ht hz (aq hF ‹_›) (aq hF ‹_›) hlt
       ·cases hv
      ·cases hv
     ·cases hv
    ·cases hv
   ·cases hv
  ·cases hv
 ·split at hv
  ·rename_i fs hd;have hf:=(hT.ty _ _ hd).fields rfl;obtain⟨z,hz1,hz2⟩:=(hT.ty _ _ hd).zeroT;split at hv
   ·rename_i vs hps;obtain⟨ys,g1,g2⟩:=sk hF hps;split at hv
    ·rename_i cs hfl;rw[cZ]at hv;injection hv with hv;subst hv
     refine Gv fr g1 g2 hz1 (hz2 _ _ _) hf.1 (λi p hp=>?_) hfl;rw[FL]at hp;split at hp
     ·rename_i o s b hi;simp only[aab]at hp;subst hp;simp[hi]
     ·cases hp
    ·cases hv
   ·cases hv
  ·rename_i e hd;have ht:=(hT.ty _ _ hd).arr rfl;obtain⟨z,hz1,hz2⟩:=(hT.ty _ _ hd).zeroT;split at hv
   ·rename_i d he;have hz:=(hT.ty _ _ he).size;split at hv
    ·rename_i vs hps;obtain⟨ys,g1,g2⟩:=sk hF hps;split at hv
     ·rename_i cs hfl;rw[cZ]at hv;injection hv with hv;subst hv
      exact Mg fr g1 g2 hz1 (hz2 _ _ _) ht hz hfl
     ·cases hv
    ·cases hv
   ·cases hv
  ·cases hv
 ·rename_i t x lo hi;split at hv
  ·rename_i hd;have ht:=(hT.ty _ _ hd).str rfl;split at hv
   ·split at hv
    ·rename_i i hi1;split at hv
     ·rename_i j hj1;split at hv
      ·rename_i hb;simp only[aaa,Nat.ble_eq]at hb;rw[cZ]at hv;injection hv with hv;subst hv
       refine NK fr ht (aq hF ‹_›) ?_ ?_ hb.1 hb.2
       ·cases lo with
        |none=>injection hi1 with hi1;injection hi1 with _ hi1;injection hi1 with hi1;exact .inl ⟨rfl,hi1.symm⟩
        |some y=>exact .inr ⟨y,rfl,aq hF hi1⟩
       ·cases hi with
        |none=>injection hj1 with hj1;injection hj1 with _ hj1;injection hj1 with hj1;exact .inl ⟨rfl,hj1.symm⟩
        |some y=>exact .inr ⟨y,rfl,aq hF hj1⟩
      ·cases hv
     ·cases hv
    ·cases hv
   ·cases hv
  ·rename_i hd;have ht:=(hT.ty _ _ hd).sl rfl;split at hv
   ·rename_i d he;have hz:=(hT.ty _ _ he).size;split at hv
    ·split at hv
     ·rename_i i hi1;split at hv
      ·rename_i j hj1;split at hv
       ·rename_i hb;simp only[aaa,Nat.ble_eq,Nat.beq_eq]at hb;obtain⟨⟨hb1,hb2⟩,rfl⟩:=hb;rw[cZ]at hv;injection hv with hv;subst hv
        refine ND fr ht hz (aq hF ‹_›) ?_ ?_ hb1 hb2
        ·cases lo with
         |none=>injection hi1 with hi1;injection hi1 with _ hi1;injection hi1 with hi1;exact .inl ⟨rfl,hi1.symm⟩
         |some y=>exact .inr ⟨y,rfl,aq hF hi1⟩
        ·cases hi with
         |none=>injection hj1 with hj1;injection hj1 with _ hj1;injection hj1 with hj1;exact .inl ⟨rfl,hj1.symm⟩
         |some y=>exact .inr ⟨y,rfl,aq hF hj1⟩
       ·cases hv
      ·cases hv
     ·cases hv
    ·cases hv
   ·cases hv
  ·cases hv
 ·split at hv
  ·rename_i cs o hx;split at hv
   ·rename_i d hd;have td:=hT.ty _ _ hd;unfold rH at hv;split at hv
    ·rename_i ha;split at hv
     ·rename_i h0;obtain⟨hl,hv⟩:=wM hv;rw[wN]at hv hl;injection hv with hv;subst hv
      have h0':0<d.size:=by simpa using h0
      exact MI fr (td.ag ha) (aq hF hx) (by simp at hl;omega)
     ·cases hv
    ·rename_i ha;rw[qD]at hv;exact OD fr (td.sc ha) (aq hF hx) hv
   ·cases hv
  ·cases hv
 ·cases hv
end
inductive ED where
 |nop
 |new (o:Ob)
 |set (id:Nat) (o:Ob)
 |repl (id:Nat) (o:Ob)
 |repl2 (id id2:Nat) (o:Ob)
def ED.app(h:Nat->Ob)(nid:Nat):ED->Nat->Ob
 |.nop=>h
 |.new o=>bE h nid o
 |.set id o=>bE h id o
 |.repl id o=>bE (bE h id .gone) nid o
 |.repl2 id E o=>bE (bE (bE h id .gone) E .gone) nid o
def ED.tch:ED->Nat->Prop
 |.nop,_=>False
 |.new _,_=>False
 |.set id _,i=>i=id
 |.repl id _,i=>i=id
 |.repl2 id E _,i=>i=id∨i=E
def Ey(h:Nat->Ob)(sz:Nat):V->Option (List V)
 |.nils=>some []
 |.row sz' els=>match Nat.beq sz sz' with
  |true=>some els
  |false=>none
 |.sl g=>match h g with
  |.row _ sz' els=>match Nat.beq sz sz' with
   |true=>some els
   |false=>none
  |_=>none
 |_=>none
def pb (T :Tab) (h:Nat->Ob) (F:Fm) (nid:Nat) (op:Op):Option (Option V×ED):=
 match op with
 |.load t x=>match aJ F x with
  |some (.ptr id o)=>match T.ty t with
   |some d=>match h id with
    |.var _ cs=>match rH d cs o with
     |some v=>some (some v,.nop)
     |none=>none
    |_=>none
   |none=>none
  |some (.el id sz i o)=>match T.ty t with
   |some d=>match h id with
    |.row _ sz' els=>match Nat.beq sz sz' with
     |true=>match atV els i with
      |some v0=>match rH d v0.cells o with
       |some v=>some (some v,.nop)
       |none=>none
      |none=>none
     |false=>none
    |_=>none
   |none=>none
  |_=>none
 |.alloc t=>match T.ty t with
  |some d=>listK d.zero.cells λcs=>some (some<|.ptr nid 0,.new<|.var t cs)
  |none=>none
 |.box t x=>match aJ F x with
  |some v=>listK v.cells λcs=>some (some<|.ptr nid 0,.new<|.var t cs)
  |none=>none
 |.store t x y=>match T.ty t with
  |some d =>match aJ F y with
   |some v =>match Nat.beq v.cells.length d.size&&v.cells.all V.one with
    |true =>match aJ F x with
     |some (.ptr id o)=>match h id with
      |.var tb cs=>match Nat.ble (o+d.size) cs.length with
       |true=>listK (uD cs o v.cells) λcs=>some (none,.set id<|.var tb cs)
       |false=>none
      |_=>none
     |some (.el id sz i o)=>match h id with
      |.row e sz' els=>match Nat.beq sz sz' with
       |true=>match atV els i with
        |some v0=>match Nat.ble (o+d.size) v0.cells.length with
         |true=>match v0 with
          |.agg cs=>listK (els.set i<|V.over (.agg cs) o v.cells) λels=>some (none,.set id<|.row e sz els)
          |v0=>match v.one with
           |true=>listK (els.set i<|v0.over o v.cells) λels=>some (none,.set id<|.row e sz els)
           |false=>none
         |false=>none
        |none=>none
       |false=>none
      |_=>none
     |_=>none
    |false=>none
   |none=>none
  |none=>none
 |.buildSlice t m ⟨ps⟩=>match T.ty t with
  |some ⟨_,_,_,.sl e⟩=>match T.ty e with
   |some d=>match oA F ps with
    |some vs=>match mS d.size 0 vs with
     |some els=>match Nat.beq els.length m&&Nat.ble (m*d.size) 16777216&&Nat.ble m 16777216 with
      |true=>fX d.size λsz=>some (some<|.sl nid,.new<|.row e sz els)
      |false=>none
     |none=>none
    |none=>none
   |none=>none
  |_=>none
 |.makeSlice t x y=>match T.ty t with
  |some ⟨_,_,_,.sl e⟩=>match T.ty e with
   |some d=>match aJ F x with
    |some (.int .i64 (.ofNat m))=>match aJ F y with
     |some (.int .i64 (.ofNat m'))=>match Nat.beq m m'&&Nat.ble (d.bytes*m) 1000000&&Nat.ble m 1000000&&Nat.blt 0 d.size with
      |true=>listK (List.replicate m d.zero) λels=>fX d.size λsz=>some (some<|.sl nid,.new<|.row e sz els)
      |false=>none
     |_=>none
    |_=>none
   |none=>none
  |_=>none
 |.call ⟨.builtin .append,⟨[x,y]⟩,⟨[t,t']⟩⟩=>match T.frc&&Nat.beq t t' with
  |true =>match T.ty t with
   |some ⟨_,_,_,.sl e⟩=>match T.ty e with
    |some d=>match aJ F y with
     |some v=>match Ey h d.size v with
      |some news=>match aJ F x with
       |some .nils=>match Nat.ble news.length 100000&&Nat.ble d.bytes 100000&&Nat.blt 0 d.size with
        |true=>fX d.size λsz=>some (some<|.sl nid,.new<|.row e sz news)
        |false=>none
       |some (.sl id)=>match h id with
        |.row e' sz els=>match Nat.beq e e'&&Nat.beq sz d.size&&Nat.ble (els.length+news.length) 100000&&Nat.ble d.bytes 100000&&Nat.blt 0 d.size with
         |true=>listK (els++news) λels=>some (some<|.sl nid,.repl id<|.row e sz els)
         |false=>none
        |_=>none
       |_=>none
      |none=>none
     |none=>none
    |none=>none
   |_=>none
  |false=>none
 |.slice t x none (some y) none=>match T.ty t with
  |some ⟨_,_,_,.sl e⟩=>match T.ty e with
   |some d=>match aJ F x with
    |some (.sl id)=>match h id with
     |.row e' sz els=>match aJ F y with
      |some (.int .i64 (.ofNat k))=>match Nat.beq e e'&&Nat.beq sz d.size&&Nat.ble k els.length with
       |true=>listK (els.take k) λels=>some (some<|.sl nid,.repl id<|.row e sz els)
       |false=>none
      |_=>none
     |_=>none
    |_=>none
   |none=>none
  |_=>none
 |_=>none
section
variable{P:Program}{T:Tab}{S:Nat->Prop}{w:World}{ρ:Nat->Option Value}{h:Nat->Ob}{a:Act}{n:Nat}{F:Fm}{ty:TypeId}
theorem ro(td:TdOk P t d)(hv:rH d cs o=some v):(cU P t=true∧cs[o]?=some v)∨(nW P t=some d.size∧o+d.size<=cs.length∧v=.agg ((cs.drop o).take d.size)):=by
 unfold rH at hv;split at hv
 ·rename_i E;split at hv
  ·rename_i J;obtain⟨G,hv⟩:=wM hv;rw[wN]at hv G;injection hv with hv;subst hv
   have O:0<d.size:=by simpa using J
   exact .inr ⟨td.ag E,by simp at G;omega,rfl⟩
  ·cases hv
 ·rename_i E;rw[qD]at hv;exact .inl ⟨td.sc E,hv⟩
theorem wI(h:v.one=true):v.cells=[v]:=by cases v<;>first|rfl|cases h
theorem Hu(hr:HRel S w ρ h)(E:FRel S w ρ a n F){news:List V}(hy:aJ F y=some v)(hs:Ey h sz v=some news):∃u,aE (fA a) y=some u∧tv S w ρ sz news u:=by
 obtain⟨u,h1,h2⟩:=aq E hy;refine⟨u,h1,?_⟩;unfold Ey at hs;split at hs
 ·injection hs with hs;subst hs;exact MP h2
 ·split at hs
  ·rename_i hb;have :=aag hb;subst this;injection hs with hs;subst hs;exact Oe h2
  ·cases hs
 ·split at hs
  ·split at hs
   ·rename_i ho _ hb;have :=aag hb;subst this;injection hs with hs;subst hs;exact Oy hr ho h2
   ·cases hs
  ·cases hs
 ·cases hs
theorem zh (hT:TabOk P T) (hr:HRel S w ρ h) (hF:FRel S w ρ a n F) {nid:Nat} (hn:h nid=.free) {op:Op} {v:Option V} {ed:ED} (hv:pb T h F nid op=some (v,ed)):Does P S w ρ h a ty op v (ed.app h nid) ed.tch:=by
 have fr:=hF.fr;unfold pb at hv;split at hv
 ·split at hv
  ·split at hv
   ·rename_i d hd;split at hv
    ·rename_i ho;split at hv
     ·rename_i u hu;simp only[aab,Prod.mk.injEq]at hv;obtain⟨rfl,rfl⟩:=hv;rcases ro (hT.ty _ _ hd) hu with⟨h1,h2⟩|⟨h1,h2,rfl⟩
      ·exact QX hr fr (aq hF ‹_›) ho h1 h2
      ·exact OI hr fr (aq hF ‹_›) ho h1 h2
     ·cases hv
    ·cases hv
   ·cases hv
  ·split at hv
   ·rename_i d hd;split at hv
    ·rename_i ho;split at hv
     ·rename_i hb;have :=aag hb;subst this;split at hv
      ·rename_i v0 hi;rw[qD]at hi;split at hv
       ·rename_i u hu;simp only[aab,Prod.mk.injEq]at hv;obtain⟨rfl,rfl⟩:=hv;rcases ro (hT.ty _ _ hd) hu with⟨h1,h2⟩|⟨h1,h2,rfl⟩
        ·exact Hm hr fr (aq hF ‹_›) ho h1 hi h2
        ·exact FN hr fr (aq hF ‹_›) ho h1 hi h2
       ·cases hv
      ·cases hv
     ·cases hv
    ·cases hv
   ·cases hv
  ·cases hv
 ·split at hv
  ·rename_i d hd;rw[cZ]at hv;simp only[aab,Prod.mk.injEq]at hv;obtain⟨rfl,rfl⟩:=hv;obtain⟨z,h1,h2⟩:=(hT.ty _ _ hd).zeroT;exact OO hr hn h1 h2
  ·cases hv
 ·split at hv
  ·rw[cZ]at hv;simp only[aab,Prod.mk.injEq]at hv;obtain⟨rfl,rfl⟩:=hv;exact Rb hr fr hn<|aq hF ‹_›
  ·cases hv
 ·split at hv
  ·rename_i d hd;have hz:=(hT.ty _ _ hd).size;split at hv
   ·rename_i u hu;split at hv
    ·rename_i hb;simp only[aaa,Nat.beq_eq]at hb;split at hv
     ·split at hv
      ·split at hv
       ·rename_i ho _ hle;rw[cZ]at hv;simp only[aab,Prod.mk.injEq]at hv;obtain⟨rfl,rfl⟩:=hv;exact Pc hr fr (aq hF ‹_›) (aq hF hu) ho hz hb.1 hb.2 (Nat.le_of_ble_eq_true hle)
       ·cases hv
      ·cases hv
     ·split at hv
      ·rename_i ho;split at hv
       ·rename_i hq;have :=aag hq;subst this;split at hv
        ·rename_i v0 hi;rw[qD]at hi;split at hv
         ·rename_i hle;split at hv
          ·rename_i cs;rw[cZ]at hv;simp only[aab,Prod.mk.injEq]at hv;obtain⟨rfl,rfl⟩:=hv;exact Ar hr fr (aq hF ‹_›) (aq hF hu) ho hz hi hb.1 hb.2 (Nat.le_of_ble_eq_true hle) (.inl ⟨cs,I⟩)
          ·rename_i hna;split at hv
           ·rename_i h1;rw[cZ]at hv;simp only[aab,Prod.mk.injEq]at hv;obtain⟨rfl,rfl⟩:=hv;refine Ar hr fr (aq hF ‹_›) (aq hF hu) ho hz hi hb.1 hb.2 (Nat.le_of_ble_eq_true hle) (.inr ⟨?_,wI h1⟩);cases v0 with
            |agg cs=>exact absurd rfl<|hna cs
            |_=>rfl
           ·cases hv
         ·cases hv
        ·cases hv
       ·cases hv
      ·cases hv
     ·cases hv
    ·cases hv
   ·cases hv
  ·cases hv
 ·split at hv
  ·rename_i e ht;split at hv
   ·rename_i d hd;split at hv
    ·rename_i vs hps;split at hv
     ·rename_i els hrp;split at hv
      ·rename_i hb;simp only[aaa,Nat.beq_eq]at hb;rw[dI]at hv;simp only[aab,Prod.mk.injEq]at hv;obtain⟨rfl,rfl⟩:=hv;obtain⟨ys,g1,g2⟩:=sk hF hps;obtain⟨z,h1,h2⟩:=(hT.ty _ _ hd).zeroT;exact LB hr fr hn g1 g2 ((hT.ty _ _ ht).sl I) (hT.ty _ _ hd).size h1 hrp hb.1.1 hb.1.2 hb.2
      ·cases hv
     ·cases hv
    ·cases hv
   ·cases hv
  ·cases hv
 ·split at hv
  ·rename_i e ht;split at hv
   ·rename_i d hd;split at hv
    ·split at hv
     ·split at hv
      ·rename_i hb;simp only[aaa,Nat.beq_eq,Nat.ble_eq,Nat.blt_eq]at hb;obtain⟨⟨⟨rfl,hb1⟩,hb2⟩,hb3⟩:=hb;rw[cZ,dI]at hv;simp only[aab,Prod.mk.injEq]at hv;obtain⟨rfl,rfl⟩:=hv;obtain⟨z,h1,h2,h3,h4⟩:=(hT.ty _ _ hd).info;exact JF hr fr hn (aq hF ‹_›) (aq hF ‹_›) ((hT.ty _ _ ht).sl rfl) h1 h3 hb3 h4 h2 (by omega) (by simp only[maxLen];omega)
      ·cases hv
     ·cases hv
    ·cases hv
   ·cases hv
  ·cases hv
 ·split at hv
  ·rename_i hb0;simp only[aaa,Nat.beq_eq]at hb0;obtain⟨_,rfl⟩:=hb0;split at hv
   ·rename_i e ht;split at hv
    ·rename_i d hd;obtain⟨z,h1,h2,h3,h4⟩:=(hT.ty _ _ hd).info;split at hv
     ·rename_i u hu;split at hv
      ·rename_i news hs;obtain⟨y',g1,g2⟩:=Hu hr hF hu hs;split at hv
       ·split at hv
        ·rename_i hb;simp only[aaa,Nat.ble_eq,Nat.blt_eq]at hb;obtain⟨⟨hb1,hb2⟩,hb3⟩:=hb;rw[dI]at hv;simp only[aab,Prod.mk.injEq]at hv;obtain⟨rfl,rfl⟩:=hv;refine KM hr fr hn g1 g2 ((hT.ty _ _ ht).sl rfl) h1 h3 hb3 (aq hF ‹_›) (by simp only[maxLen];omega) ?_;exact aap (Nat.mul_le_mul hb1 hb2) (by decide)
        ·cases hv
       ·split at hv
        ·rename_i ho;split at hv
         ·rename_i hb;simp only[aaa,Nat.ble_eq,Nat.blt_eq,Nat.beq_eq]at hb;obtain⟨⟨⟨⟨rfl,rfl⟩,hb1⟩,hb2⟩,hb3⟩:=hb;rw[cZ]at hv;simp only[aab,Prod.mk.injEq]at hv;obtain⟨rfl,rfl⟩:=hv;refine Em hr fr hn g1 g2 ((hT.ty _ _ ht).sl rfl) h1 h3 hb3 (aq hF ‹_›) ho (by simp only[maxLen];omega) ?_;exact aap (Nat.mul_le_mul hb1 hb2) (by decide)
         ·cases hv
        ·cases hv
       ·cases hv
      ·cases hv
     ·cases hv
    ·cases hv
   ·cases hv
  ·cases hv
 ·split at hv
  ·rename_i e ht;split at hv
   ·rename_i d hd;split at hv
    ·split at hv
     ·rename_i ho;split at hv
      ·split at hv
       ·rename_i hb;simp only[aaa,Nat.ble_eq,Nat.beq_eq]at hb;obtain⟨⟨rfl,rfl⟩,hb1⟩:=hb;rw[cZ]at hv;simp only[aab,Prod.mk.injEq]at hv;obtain⟨rfl,rfl⟩:=hv;exact GK hr fr hn (aq hF ‹_›) (aq hF ‹_›) ho ((hT.ty _ _ ht).sl I) (hT.ty _ _ hd).size hb1
       ·cases hv
      ·cases hv
     ·cases hv
    ·cases hv
   ·cases hv
  ·cases hv
 ·cases hv
def ED.ok(h:Nat->Ob):ED->Prop
 |.nop=>True
 |.new o=>True
 |.set id o=>h id≠.gone∧h id≠.free
 |.repl id o=>h id≠.gone∧h id≠.free
 |.repl2 id E o=>(h id≠.gone∧h id≠.free)∧h E≠.gone∧h E≠.free
theorem uJ{op:Op}{v:Option V}{ed:ED}(hv:pb T h F nid op=some (v,ed)):ed.ok h:=by
 unfold pb at hv
 repeat' (split at hv)
 all_goals first
  |(cases hv;done)
  |(simp only[cZ,dI,aab,Prod.mk.injEq]at hv;obtain⟨_,rfl⟩:=hv;first|exact trivial|(constructor<;>simp_all))
end
section
variable{P:Program}{ops:Array Oper}{Q:Exit->Act->World->Prop}{B S:World->Prop}
def wpB(P:Program)(ops:Array Oper)(Q:Exit->Act->World->Prop)(B S:World->Prop)(m:Nat):Nat->Array Bool->Act->World->Prop
 |0,listed,a,w=>Region.ready .any ops listed=[]∧Q .normal a w
 |fuel+1,listed,a,w=>
  (Region.ready .any ops listed=[]->Q .normal a w)∧
  ∀i∈Region.ready .any ops listed,wpOp P ops Q i (λa' w'=>B w'∧(S w'∨(listed.setIfInBounds i true).getD m false=true)∧wpB P ops Q B S m fuel (listed.setIfInBounds i true) a' w') a w
theorem Be{m:Nat}:∀(fuel:Nat) (listed:Array Bool) (a:Act) (w:World),wpB P ops Q B S m fuel listed a w->wpAny P .any ops Q fuel listed a w
 |0,_,_,_,h=>h
 |fuel+1,_,_,_,h=>⟨h.1,λi hi=>wpOp_mono (λa' w' h'=>Be fuel _ a' w' h'.2.2)<|h.2 i hi⟩
theorem AC{B' S':World->Prop}{m:Nat}(hB:∀w,B' w->B w)(E:∀w,B' w->S' w->S w):∀(fuel:Nat) (listed:Array Bool) (a:Act) (w:World),wpB P ops Q B' S' m fuel listed a w->wpB P ops Q B S m fuel listed a w
 |0,_,_,_,h=>h
 |fuel+1,_,_,_,h=>⟨h.1,λi hi=>wpOp_mono (λa' w' h'=>⟨hB _ h'.1,h'.2.1.imp (E _ h'.1) id,AC hB E fuel _ a' w' h'.2.2⟩)<|h.2 i hi⟩
theorem wpB_pure {m:Nat} {i:Nat} {oi:Oper} {v:Value} (him:i≠m) (hi:ops[i]?=some oi) (hsel:∀(j:Nat) (o:Oper) cs b,ops[j]?=some o->o.op≠.select cs b)
    (hQ:∀c a w,Q (.panic c) (a.put oi.dst v) w->Q (.panic c) a w):
    ∀ (fuel:Nat) (listed:Array Bool) (a:Act) (w:World),
      (∀j oj,ops[j]?=some oj->j≠i->listed.getD j true=false->(∀e∈oj.after,Region.binds .any e=true->e.on≠i)->oi.apart ops oj=true)->
      i∈Region.ready .any ops listed->YieldsIf P ops B oi v a->B w->(S w∨listed.getD m false=true)->
      wpB P ops Q B S m fuel (listed.setIfInBounds i true) (a.put oi.dst v) w->wpB P ops Q B S m (fuel+1) listed a w:=by
  intro fuel
  induction fuel with
  | zero=>
    intro listed a w _ hr hy hB hS H;refine⟨λh=>(by rw[h]at hr;cases hr),λj hj=>?_⟩;by_cases hji:j=i
    ·subst hji;exact hy.wpOp hi hB ⟨hB,hS.imp id oO,H⟩
    · have :=ready_mono hj hji;rw[H.1]at this;cases this
  | succ fuel ih=>
    intro listed a w hfree hr hy hB hS H;refine⟨λh=>(by rw[h]at hr;cases hr),λj hj=>?_⟩;by_cases hji:j=i
    ·subst hji;exact hy.wpOp hi hB ⟨hB,hS.imp id oO,H⟩
    · have h1:=H.2 j (ready_mono hj hji);obtain⟨hjun,oj,hoj,hall⟩:=mem_ready.1 hj;have hnot:=Dg (j:=j) hr hall;have h2:=wpOp_putIf hoj (hfree j oj hoj hji hjun hnot) (λcs b=>hsel i oi cs b hi) (λcs b=>hsel j oj cs b hoj) hQ hy h1;have hfree':∀k ok,ops[k]?=some ok->k≠i->(listed.setIfInBounds j true).getD k true=false->
          (∀e∈ok.after,Region.binds .any e=true->e.on≠i)->oi.apart ops ok=true:=λk ok hk hki hun hno=>by
        refine hfree k ok hk hki ?_ hno;by_cases hjk:j=k
        ·subst hjk;exact hjun
        ·rw[getD_set_ne true hjk]at hun;exact hun
      refine wpOp_mono (λa' w' h3=>?_) h2;have hS3:S w'∨(listed.setIfInBounds j true).getD m false=true:=h3.2.2.1.imp id λh=>by rw[Array.setIfInBounds_comm _ _ λe=>hji e.symm,getD_set_ne false him]at h;exact h
      refine⟨h3.2.1,hS3,ih (listed.setIfInBounds j true) a' w' hfree' (ready_mono hr<|Ne.symm hji) h3.1 h3.2.1 hS3 ?_⟩;rw[Array.setIfInBounds_comm _ _ hji];exact h3.2.2.2
theorem FS {m:Nat} {i:Nat} {oi:Oper} {v:Value} (him:i≠m) (hwt:zx .any ops m i=true) (hi:ops[i]?=some oi) (hsel:∀(j:Nat) (o:Oper) cs b,ops[j]?=some o->o.op≠.select cs b)
    (hQ:∀c a w,Q (.panic c) (a.put oi.dst v) w->Q (.panic c) a w):
    ∀ (fuel:Nat) (listed:Array Bool) (a:Act) (w:World),
      (∀j oj,ops[j]?=some oj->j≠i->listed.getD j true=false->(∀e∈oj.after,Region.binds .any e=true->e.on≠i)->oi.apart ops oj=true)->
      i∈Region.ready .any ops listed->YieldsIf P ops (λw=>B w∧S w) oi v a->B w->S w->listed.getD m false=false->
      wpB P ops Q B S m fuel (listed.setIfInBounds i true) (a.put oi.dst v) w->wpB P ops Q B S m (fuel+1) listed a w:=by
  intro fuel
  induction fuel with
  | zero=>
    intro listed a w _ hr hy hB hS _ H;refine⟨λh=>(by rw[h]at hr;cases hr),λj hj=>?_⟩;by_cases hji:j=i
    ·subst hji;exact hy.wpOp hi ⟨hB,hS⟩ ⟨hB,.inl hS,H⟩
    · have :=ready_mono hj hji;rw[H.1]at this;cases this
  | succ fuel ih=>
    intro listed a w hfree hr hy hB hS hlm H;refine⟨λh=>(by rw[h]at hr;cases hr),λj hj=>?_⟩;by_cases hji:j=i
    ·subst hji;exact hy.wpOp hi ⟨hB,hS⟩ ⟨hB,.inl hS,H⟩
    · have h1:=H.2 j (ready_mono hj hji);obtain⟨hjun,oj,hoj,hall⟩:=mem_ready.1 hj;have hnot:=Dg (j:=j) hr hall;have hjm:j≠m:=by
        rintro rfl;unfold zx at hwt;rw[hoj]at hwt;obtain⟨e,he,hb⟩:=Array.any_eq_true'.1 hwt;simp only[aaa,aaq]at hb;exact hnot e he hb.1 hb.2
      have h2:=wpOp_putIf hoj (hfree j oj hoj hji hjun hnot) (λcs b=>hsel i oi cs b hi) (λcs b=>hsel j oj cs b hoj) hQ hy h1;have hfree':∀k ok,ops[k]?=some ok->k≠i->(listed.setIfInBounds j true).getD k true=false->
          (∀e∈ok.after,Region.binds .any e=true->e.on≠i)->oi.apart ops ok=true:=λk ok hk hki hun hno=>by
        refine hfree k ok hk hki ?_ hno;by_cases hjk:j=k
        ·subst hjk;exact hjun
        ·rw[getD_set_ne true hjk]at hun;exact hun
      refine wpOp_mono (λa' w' h3=>?_) h2;have hlm':(listed.setIfInBounds j true).getD m false=false:=by rw[getD_set_ne false hjm];exact hlm
      have hS':S w':=by
        rcases h3.2.2.1 with h|h
        ·exact h
        · rw[Array.setIfInBounds_comm _ _ λe=>hji e.symm,getD_set_ne false him,hlm']at h;cases h
      refine⟨h3.2.1,.inl hS',ih (listed.setIfInBounds j true) a' w' hfree' (ready_mono hr<|Ne.symm hji) h3.1 h3.2.1 hS' hlm' ?_⟩;rw[Array.setIfInBounds_comm _ _ hji];exact h3.2.2.2
end
inductive EI where
 |seq (c:Code)
 |blk (id:Nat)
 |loop (c:Code) (j:Nat)
 |scp
inductive EP where
 |code (c:Code)
 |ops (all:Array Oper) (rest:List Oper)
 |ex (e:Exit)
 |drw (all:Array Oper) (L:List Nat) (m left:Nat) (listed:Array Bool)
def dR(P:Program)(Q:Exit->Act->World->Prop):List EI->Exit->Act->World->Prop
 |[]=>Q
 |.seq c::s=>Exit.then (c.wp P<|dR P Q s)<|dR P Q s
 |.blk id::s=>Exit.inBlock id<|dR P Q s
 |.loop c j::s=>Exit.then (Code.rounds P c (dR P Q s) j)<|dR P Q s
 |.scp::s=>Exit.noGoto<|dR P Q s
def tp:Value->Option Nat
 |.pointer (some a)=>some a.block
 |.slice (some a) _ _=>some a.block
 |.tuple xs=>match(xs[0]?:Option Value)with
  |some (Value.slice (some a) _ _)=>some a.block
  |_=>none
 |_=>none
def Ls(ρ:Nat->Option Value)(L:YN)(w w':World):Prop:=∀id,id∈L->∀x b,ρ id=some x->tp x=some b->w'.heap[b]?=w.heap[b]?
def EP.wp(P:Program)(Q:Exit->Act->World->Prop)(p:EP)(s:List EI)(S:Nat->Prop)(w:World)(ρ:Nat->Option Value)(a:Act):Prop:=
 match p with
 |.code c=>c.wp P (dR P Q s) a w
 |.ops all rest=>wpList P all (dR P Q s) rest a w
 |.ex e=>dR P Q s e a w
 |.drw all L m left listed=>Region.noSelect all=true->wpB P all (NoPanic<|dR P Q s) (Agree S w) (Ls ρ L w) m left listed a w
structure Hp where
 nx:Nat
 es:List (Nat×Ob)
def aB:List (Nat×Ob)->Nat->Ob
 |[],_=>.gone
 |(i,o)::r,j=>match Nat.beq i j with
  |true=>o
  |false=>aB r j
def Hp.get(H:Hp)(i:Nat):Ob:=match Nat.blt i H.nx with
 |true=>aB H.es i
 |false=>.free
def Jn{α:Type}(id:Nat)(o:Ob):List (Nat×Ob)->(List (Nat×Ob)->α)->α
 |[],c=>c []
 |(i,p)::r,c=>match Nat.beq i id with
  |true=>c<|(i,o)::r
  |false=>Jn id o r λE=>c<|(i,p)::E
def yV{α:Type}(id:Nat):List (Nat×Ob)->(List (Nat×Ob)->α)->α
 |[],c=>c []
 |(i,p)::r,c=>match Nat.beq i id with
  |true=>yV id r c
  |false=>yV id r λE=>c<|(i,p)::E
def Hp.ap(H:Hp)(e:ED)(c:Hp->α):α:=match e with
 |.nop=>c H
 |.new o=>fX H.nx λk=>fX (k+1) λn=>c ⟨n,(k,o)::H.es⟩
 |.set id o=>Jn id o H.es λes=>fX H.nx λk=>c ⟨k,es⟩
 |.repl id o=>yV id H.es λes=>fX H.nx λk=>fX (k+1) λn=>c ⟨n,(k,o)::es⟩
 |.repl2 id E o=>yV id H.es λes=>yV E es λes=>fX H.nx λk=>fX (k+1) λn=>c ⟨n,(k,o)::es⟩
def uG(id:Nat)(o:Ob):List (Nat×Ob)->List (Nat×Ob)
 |[]=>[]
 |(i,p)::r=>match Nat.beq i id with
  |true=>(i,o)::r
  |false=>(i,p)::uG id o r
def oS(id:Nat):List (Nat×Ob)->List (Nat×Ob)
 |[]=>[]
 |(i,p)::r=>match Nat.beq i id with
  |true=>oS id r
  |false=>(i,p)::oS id r
theorem Hv{α:Type}{id:Nat}{o:Ob}:∀(l:List<|Nat×Ob) (c:List (Nat×Ob)->α),Jn id o l c=c (uG id o l)
 |[],c=>rfl
 |(i,p)::r,c=>by
  simp only[Jn,uG];split
  ·rfl
  ·rw[Hv r]
theorem zB{α:Type}{id:Nat}:∀(l:List<|Nat×Ob) (c:List (Nat×Ob)->α),yV id l c=c (oS id l)
 |[],c=>rfl
 |(i,p)::r,c=>by
  simp only[yV,oS];split
  ·rw[zB r]
  ·rw[zB r]
theorem nbF{a:Nat}(h:a≠b):Nat.beq a b=false:=by
 cases hb:Nat.beq a b
 ·rfl
 ·exact absurd (aag hb) h
theorem nbT(a:Nat):Nat.beq a a=true:=by simp
theorem nlT{a:Nat}(h:a<b):Nat.blt a b=true:=by simpa[Nat.blt_eq]using h
theorem zO{id i:Nat}{o:Ob}(hi:i≠id):∀{l:List<|Nat×Ob},aB (uG id o l) i=aB l i
 |[]=>rfl
 | (j,p)::r=>by
  simp only[uG];split
  ·rename_i hb;have e1:=aag hb;subst e1;simp only[aB,nbF<|Ne.symm hi]
  ·simp only[aB];rw[zO hi]
theorem xX{id:Nat}{o:Ob}:∀{l:List<|Nat×Ob},aB l id≠.gone->aB (uG id o l) id=o
 |[],h=>absurd rfl h
 | (j,p)::r,h=>by
  simp only[uG];split
  ·rename_i hb;simp only[aB,hb]
  ·rename_i hb;simp only[aB,hb]at h⊢;exact xX h
theorem kS{id i:Nat}:∀{l:List<|Nat×Ob},aB (oS id l) i=if i=id then .gone else aB l i
 |[]=>by simp[aB,oS]
 | (j,p)::r=>by
  simp only[oS,aB];split
  ·rename_i hb;have e1:=aag hb;subst e1;rw[kS];by_cases hi:i=j
   ·simp[hi]
   ·simp[hi,nbF<|Ne.symm hi]
  ·rename_i hb;have hne:=Nat.ne_of_beq_eq_false hb;simp only[aB];split
   ·rename_i hb2;have e2:=aag hb2;subst e2;rw[if_neg hne]
   ·exact kS
def Hp.app(H:Hp):ED->Hp
 |.nop=>H
 |.new o=>⟨H.nx+1,(H.nx,o)::H.es⟩
 |.set id o=>⟨H.nx,uG id o H.es⟩
 |.repl id o=>⟨H.nx+1,(H.nx,o)::oS id H.es⟩
 |.repl2 id E o=>⟨H.nx+1,(H.nx,o)::oS E (oS id H.es)⟩
theorem Hp.ap_eq(H:Hp)(e:ED)(c:Hp->α):H.ap e c=c (H.app e):=by cases e<;>simp[Hp.ap,Hp.app,dI,Hv,zB]
theorem Hp.get_free(H:Hp):H.get H.nx=.free:=by
 unfold Hp.get;have :Nat.blt H.nx H.nx=false:=by simp[Bool.eq_false_iff]
 rw[this]
theorem Hp.get_app{H:Hp}{e:ED}(he:e.ok H.get):(H.app e).get=e.app H.get H.nx:=by
 funext i
 cases e with
 |nop=>rfl
 | new o=>
  simp only[Hp.app,ED.app];by_cases hi:i=H.nx
  ·subst hi;rw[aY];simp only[Hp.get,aB,nlT<|Nat.lt_succ_self H.nx,nbT]
  ·rw[bo _ _ hi];have hb:Nat.beq H.nx i=false:=nbF<|Ne.symm hi;have :Nat.blt i (H.nx+1)=Nat.blt i H.nx:=by rw[Bool.eq_iff_iff];simp[Nat.blt_eq];omega
   simp[Hp.get,aB,hb,this]
 | set id o=>
  simp only[Hp.app,ED.app];have h1:aB H.es id≠.gone:=by
   have :=he.1;unfold Hp.get at this;split at this
   ·exact this
   ·rename_i hc;exact absurd (by unfold Hp.get;rw[hc]) he.2
  by_cases hi:i=id
  ·subst hi;rw[aY];have h2:=he.2;unfold Hp.get at h2⊢;split at h2
   ·rename_i hc;simp only[hc];exact xX h1
   ·exact absurd I h2
  ·rw[bo _ _ hi];unfold Hp.get;simp only[];rw[zO hi]
 | repl id o=>
  simp only[Hp.app,ED.app];have hid:id<H.nx:=by
   have h2:=he.2;unfold Hp.get at h2;split at h2
   ·rename_i hc;simpa[Nat.blt_eq]using hc
   ·exact absurd I h2
  by_cases hi:i=H.nx
  ·subst hi;rw[aY];simp only[Hp.get,aB,nlT<|Nat.lt_succ_self H.nx,nbT]
  ·rw[bo _ _ hi];have hb:Nat.beq H.nx i=false:=nbF<|Ne.symm hi;have hlt:Nat.blt i (H.nx+1)=Nat.blt i H.nx:=by rw[Bool.eq_iff_iff];simp[Nat.blt_eq];omega
   by_cases hii:i=id
   ·subst hii;rw[aY];have :Nat.blt i H.nx=true:=by simpa[Nat.blt_eq]using hid
    simp[Hp.get,aB,hb,hlt,this,kS]
   ·rw[bo _ _ hii];simp[Hp.get,aB,hb,hlt,kS,hii]
 | repl2 id id2 o=>
  simp only[Hp.app,ED.app];have lt:∀{k},H.get k≠.free->k<H.nx:=λ{k} h2=>by
   unfold Hp.get at h2;split at h2
   ·rename_i hc;simpa[Nat.blt_eq]using hc
   ·exact absurd I h2
  have hid:=lt he.1.2;have hid2:=lt he.2.2;by_cases hi:i=H.nx
  ·subst hi;rw[aY];simp only[Hp.get,aB,nlT<|Nat.lt_succ_self H.nx,nbT]
  ·rw[bo _ _ hi];have hb:Nat.beq H.nx i=false:=nbF<|Ne.symm hi;have hlt:Nat.blt i (H.nx+1)=Nat.blt i H.nx:=by rw[Bool.eq_iff_iff];simp[Nat.blt_eq];omega
   by_cases hi2:i=id2
   ·subst hi2;rw[aY];have :Nat.blt i H.nx=true:=by simpa[Nat.blt_eq]using hid2
    simp[Hp.get,aB,hb,hlt,this,kS]
   ·rw[bo _ _ hi2];by_cases hii:i=id
    ·subst hii;rw[aY];have :Nat.blt i H.nx=true:=by simpa[Nat.blt_eq]using hid
     simp[Hp.get,aB,hb,hlt,this,kS]
    ·rw[bo _ _ hii];simp[Hp.get,aB,hb,hlt,kS,hii,hi2]
theorem Ec(a b:List<|Nat×Ob)(i:Nat):aB (a++b) i=aB a i∨(aB a i=.gone∧aB (a++b) i=aB b i):=by
 induction a with
 |nil=>exact .inr ⟨rfl,rfl⟩
 |cons p r ih=>
  obtain⟨j,o⟩:=p;simp only[aas,aB];split
  ·exact .inl I
  ·exact ih
end Go.Proofs.YtehhanlhfdoiaaaGreat
