/- Contracts of the functions that the law reaches, part 1. -/
import Derived.Test.YtehhanlhfdoiaaaGreatProg
import Derived.WalkKit
import Derived.WalkMore
import Derived.Lib.Hide
import Derived.Below
import Derived.Laws.OwnMore
import Derived.Deep.AppendLies
import Derived.Deep.Draws
import Derived.Maps.AppendAt
import Derived.OrdersHeld
import Derived.Deep.RegionHeld3
import Derived.Deep.LoopGhost
import Derived.Laws.MakeOwn
import Derived.LoopN
import Derived.Scope
import Derived.WalkLawsBesides
import Derived.WalkSpells
import Derived.Outline
import Derived.Deep.Light
import Derived.Lib.Bytealg
import Derived.Lib.Walk
import Derived.BigQuiet
import Derived.Deep.QuietTactic
import Derived.Laws.StructEq
import Derived.Maps.Keyed
import Derived.WideKeyRuns
import Derived.Laws.Pointers
import Derived.ChangeKeysEq
import Derived.Laws.BytesArg
import Derived.Laws.BitsLemmas
import Derived.Lib.Builder
import Derived.Lib.AppendStr
import Derived.Lib.UnsafeStr
import Derived.Laws.Externs
import Derived.RegionTactic
import Derived.ProofKit
import Derived.ChangeSlices
import Derived.Deep.Slices
import Derived.OpenShut
import Derived.ShutString
import Derived.SizedLaws
import Derived.JoinedCond
import Derived.Deep.CondSized
set_option linter.unusedVariables false
set_option linter.unusedSimpArgs false
namespace Go.Proofs.YtehhanlhfdoiaaaGreat
open _root_.Go.Proofs.Tryz
open Go.RowKit
abbrev aaa:= @Option.some.injEq
abbrev aab:= @Bool.and_eq_true
abbrev aac:= @List.length_append
abbrev aad:= @List.length_cons
abbrev aae:= @List.length_nil
abbrev aaf:= @Nat.eq_of_beq_eq_true
abbrev aag:= @Nat.le_refl
abbrev aah:= @List.map_cons
abbrev aai:= @List.mem_cons
abbrev aaj:= @List.mem_append
abbrev aak:= @List.append_assoc
abbrev aal:= @List.nil_append
abbrev aam:= @List.length_map
abbrev aan:= @List.drop_eq_getElem_cons
abbrev aao:= @Nat.le_trans
abbrev aap:= @List.cons_append
abbrev aaq:= @List.map_append
abbrev aar:= @beq_iff_eq
abbrev aas:= @decide_eq_true_eq
abbrev aat:= @Nat.zero_le
abbrev aau:= @List.map_nil
abbrev aav:= @Nat.add_assoc
abbrev aaw:= @Nat.lt_of_lt_of_le
abbrev aax:= @List.foldl_cons
abbrev aay:= @List.length_set
abbrev aaz:= @List.append_nil
abbrev aaA:= @decide_eq_false_iff_not
abbrev aaB:= @List.length_take
abbrev aaC:= @List.getElem_of_mem
abbrev aaD:= @Bool.false_eq_true
abbrev aaE:= @List.length_drop
abbrev aaF:= @Nat.min_eq_left
theorem I{α:Sort _}{a:α}:a=a:=rfl
abbrev YB:=List UInt8
abbrev YN:=List Nat
abbrev YI:=List Int
structure Fr (a:Act) (n:Nat) (f:Nat->Option Value):Prop where
 size:a.tmps.size=n
 defers:a.defers=[]
 get:∀i v,f i=some v->a.tmps[i]?=some v
def up(f:Nat->Option Value)(d:Nat)(v:Value):Nat->Option Value:=λi=>match Nat.beq i d with|true=>some v|false=>f i
def sL(f:Nat->Option Value)(ops:Array Oper)(j:Nat):Option Value:=((ops[j]?).bind (·.dst)).bind f
def pe(f:Nat->Option Value)(ops:Array Oper)(g:Option<|Nat×Bool):Bool:=
 match g with
 |none=>true
 |some (j,b)=>match sL f ops j with
  |some (.bool c)=>c==b
  |_=>false
def wI(f:Nat->Option Value)(ops:Array Oper)(g:Option<|Nat×Bool):Bool:=
 match g with
 |none=>false
 |some (j,b)=>match sL f ops j with
  |some (.bool c)=>c !=b
  |some (.tuple _)=>true
  |_=>false
def aD(f:Nat->Option Value):Operand->Option Value
 |.tmp t=>f t
 |.const v=>some v
 |.global g=>some<|.pointer<|some ⟨g,0,none⟩
 |.func g=>some<|.func (.func g) #[] #[]
variable{x:Operand}
variable{j:Nat}
section
variable{P:Program}{ops:Array Oper}{Q:Exit->Act->World->Prop}{a:Act}{w:World}{rest:List Oper}{n:Nat}{f:Nat->Option Value}
theorem Fr.eval(h:Fr a n f){v:Value}(hx:aD f x=some v):a.eval x=v:=by
 cases x with
 |tmp t=>
  have :=h.get t v hx;simp[Act.eval,Array.getD_eq_getD_getElem?,this]
 |const u=>simpa[aD,Act.eval]using hx
 |global g=>simpa[aD,Act.eval]using hx
 |func g=>simpa[aD,Act.eval]using hx
theorem Fr.put(h:Fr a n f){d:Nat}(G:Nat.blt d n=true)(v:Value):Fr (a.put (some d) v) n (up f d v):=by
 have E:d<n:=by simpa using G
 refine⟨by simp[Act.put,h.size],h.defers,λi u hi=>?_⟩;simp only[up]at hi;simp only[Act.put];split at hi
 ·rename_i hb;have :i=d:=aaf hb;subst this;rw[Array.getElem?_setIfInBounds];simp[h.size,E];simpa using hi
 ·rename_i hb;have :¬i=d:=λe=>by subst e;simp at hb
  rw[Array.getElem?_setIfInBounds,if_neg λe=>this e.symm];exact h.get i u hi
theorem Fr.le(h:Fr a n f){g:Nat->Option Value}(E:∀i v,g i=some v->f i=some v):Fr a n g:=⟨h.size,h.defers,λi v hi=>h.get i v<|E i v hi⟩
theorem Gp(h:Fr a n f){b:Bool}(hl:sL f ops j=some (.bool b)):yielded ops a.tmps j=some b:=by
 unfold sL at hl;unfold yielded;cases E:(ops[j]?).bind (·.dst)with
 |none=>rw[E]at hl;cases hl
 |some d=>
  rw[E]at hl;have :=h.get d _ hl;simp[this]
theorem JM(h:Fr a n f){vs:Array Value}(hl:sL f ops j=some (.tuple vs)):yielded ops a.tmps j=none:=by
 unfold sL at hl;unfold yielded;cases E:(ops[j]?).bind (·.dst)with
 |none=>rw[E]at hl;cases hl
 |some d=>
  rw[E]at hl;have :=h.get d _ hl;simp[this]
theorem sd(h:Fr a n f){o:Oper}(E:pe f ops o.guard=true):Region.wanted o (yielded ops a.tmps)=true:=by
 unfold Region.wanted;unfold pe at E;split at E
 ·rename_i G;rw[G]
 ·rename_i j b G;rw[G];split at E
  ·rename_i c hl;show(yielded ops a.tmps j==some b)=true;rw[Gp h hl];simpa using E
  ·cases E
theorem zk(h:Fr a n f){o:Oper}(E:wI f ops o.guard=true):Region.wanted o (yielded ops a.tmps)=false:=by
 unfold Region.wanted;unfold wI at E;split at E
 ·cases E
 ·rename_i j b G;rw[G];split at E
  ·rename_i c hl;show(yielded ops a.tmps j==some b)=false;rw[Gp h hl];cases c<;>cases b<;>first|rfl|cases E
  ·rename_i vs hl;show(yielded ops a.tmps j==some b)=false;rw[JM h hl];rfl
  ·cases E
variable{d:Nat}{ty:TypeId}{ps:String}{af:Array Edge}{g:Option (Nat×Bool)}
end
def Ext(w w':World):Prop:=Below w.heap.size w w'
variable{p:Addr}
variable{k:Nat}
section
variable{w w1 w2:World}
theorem Ext.refl(w:World):Ext w w:=Below.refl _ _
theorem Ext.size(h:Ext w w1):w.heap.size<=w1.heap.size:=Below.size h
theorem Ext.trans(h:Ext w w1)(k:Ext w1 w2):Ext w w2:=Below.trans h<|Below.mono k h.size
theorem Ext.drew(h:Ext w w1):Ext w w1.drew:=Below.drew h
theorem Ext.drewN(h:Ext w w1)(n:Nat):Ext w (w1.drewN n):=
 have h':Below w.heap.size w w1:=h
 ⟨h'.os,h'.tape,h'.output,h'.size,h'.block⟩
theorem Ext.alloc(h:Ext w w1)(o:Obj):Ext w (w1.alloc o):=Below.alloc h h.size o
theorem Ext.setCell(h:Ext w w1)(hp:w.heap.size<=p.block)(u:Value):Ext w (w1.setCell p u):=Below.setCell h hp u
theorem Ext.grown(h:Ext w w1){row:Option Nat}(E:w1.grownBy w2 row)(hr:∀k,row=some k->w.heap.size<=k):Ext w w2:=Below.grown h E h.size hr
theorem Ext.cell(h:Ext w w1)(hp:p.block<w.heap.size):w1.cell? p=w.cell? p:=Below.cell h hp
theorem Ext.frozen(h:Ext w w1)(hp:p.block<w.heap.size):w1.frozen? p=w.frozen? p:=Below.frozen h hp
theorem Ext.block(h:Ext w w1)(E:k<w.heap.size):w1.heap[k]?=w.heap[k]?:=Below.block h k E
end
def Row(w:World)(size:Nat)(A:Option Addr)(n:Nat)(xs:List Value):Prop:=
 xs.length=n*size∧(0<n->∃b off,A=some ⟨b,off,none⟩∧b<w.heap.size∧∀j,j<n*size->w.cell? ⟨b,off+j,none⟩=xs[j]?)
variable{base:Nat}{e:TypeId}
section
variable{w w':World}{size n:Nat}{A:Option Addr}{xs:List Value}
theorem Row.none_:Row w size A 0 []:=⟨by simp,λh=>absurd h<|by omega⟩
theorem Row.of_own{c:Nat}(h:w.ownsRow base e size (.slice A n c) n xs):Row w size A n xs:=by
 refine⟨h.1,λhn=>?_⟩;obtain⟨g,cap,hv,_,G⟩:=h.form hn;have J:A=some ⟨g,0,none⟩:=by injection hv
 subst J;refine⟨g,0,I,G,λj U=>?_⟩;have E:j<xs.length:=by rw[h.1];exact U
 have :=h.cells (g:=g) rfl j xs[j]<|List.getElem?_eq_getElem E;rw[List.getElem?_eq_getElem E,Nat.zero_add,<-this];unfold Addr.add;split<;>simp_all
end
variable{n:Nat}{xs:List Value}
theorem Ld{w:World}{size:Nat}{v:Value}(h:w.ownsRow base e size v n xs):∃A c,v=.slice A n c∧n<=c∧c<=maxLen:=by
 rcases h.2 with⟨rfl,rfl⟩|⟨g,cap,cur,rfl,_,_,E,G,_,_⟩
 ·exact⟨none,0,I,aag _,aat _⟩
 ·exact⟨_,cap,I,E,G⟩
theorem PD{w w':World}{size:Nat}{v:Value}(h:w.ownsRow base e size v n xs)(U:Ext w w'):w'.ownsRow base e size v n xs:=by
 refine⟨h.1,?_⟩;rcases h.2 with Z|⟨g,cap,cur,rfl,hb,G,h4⟩
 ·exact .inl Z
 ·refine .inr ⟨g,cap,cur,I,hb,?_,h4⟩;have E:g<w.heap.size:=by
   rcases Nat.lt_or_ge g w.heap.size with E|J
   ·exact E
   ·rw[Array.getElem?_eq_none J]at G;cases G
  rw[U.block E,G]
variable{P:Program}{t:TypeId}{b:Nat}
theorem ve{z:Value}{s:Nat}(h:(P.info? t).map (λi=>(i.zero,i.size,i.bytes))=some (some z,s,b)):∃i,P.info? t=some i∧i.zero=some z∧i.size=s∧i.bytes=b:=by obtain⟨E,hi,hx⟩:=Option.map_eq_some_iff.1 h;simp only[Prod.mk.injEq]at hx;exact⟨E,hi,hx.1,hx.2.1,hx.2.2⟩
structure Chg (X:List Nat) (w w':World):Prop where
 os:w'.os=w.os
 tape:w'.tape=w.tape
 output:w'.output=w.output
 size:w.heap.size<=w'.heap.size
 block:∀k,k<w.heap.size->k∉X->w'.heap[k]?=w.heap[k]?
section
variable{X Y:YN}{w w1 w2:World}
theorem Chg.refl(X:YN)(w:World):Chg X w w:=⟨rfl,rfl,rfl,aag _,λ_ _ _=>rfl⟩
theorem Chg.trans(h:Chg X w w1)(k:Chg Y w1 w2)(G:∀b,b∈Y->b∈X∨w.heap.size<=b):Chg X w w2:=
 ⟨k.os.trans h.os,k.tape.trans h.tape,k.output.trans h.output,aao h.size k.size,λb hb E=>by
  rw[k.block b (aaw hb h.size) (λJ=>by rcases G b J with h1|h1;exact E h1;omega),h.block b hb E]⟩
theorem Chg.of_ext(h:Ext w w1)(X:YN):Chg X w w1:=
 have h':Below w.heap.size w w1:=h
 ⟨h'.os,h'.tape,h'.output,h'.size,λb hb _=>h'.block b hb⟩
theorem Chg.ext(h:Chg [] w w1):Ext w w1:=(⟨h.os,h.tape,h.output,h.size,λb hb=>h.block b hb<|by simp⟩:Below w.heap.size w w1)
theorem Chg.alloc(w:World)(o:Obj):Chg [] w (w.alloc o):=Chg.of_ext ((Ext.refl w).alloc o) []
theorem Chg.drew(w:World):Chg [] w {w with drawn:=w.drawn+1}:=⟨rfl,rfl,rfl,aag _,λ_ _ _=>rfl⟩
theorem Chg.set(w:World)(b o:Nat)(v:Value):Chg [b] w (w.setCell ⟨b,o,none⟩ v):=
 ⟨rfl,rfl,rfl,by simp[World.setCell],λk G E=>Below.heap_setCell w ⟨b,o,none⟩ v k<|by simpa using E⟩
theorem Chg.grown{row:Option Nat}(h:w.grownBy w1 row):Chg row.toList w w1:=
 ⟨h.os,h.tape,h.output,h.size,λk E G=>h.block k E λe=>G (by rw[<-e];simp)⟩
def Blk(w:World)(b:Nat)(t:TypeId)(cs:List Value):Prop:=w.heap[b]?=some (.cells cs.toArray t (0,0))
variable{b:Nat}{t:TypeId}{cs:List Value}
theorem Blk.lt(h:Blk w b t cs):b<w.heap.size:=by
 rcases Nat.lt_or_ge b w.heap.size with E|G
 ·exact E
 ·unfold Blk at h;rw[Array.getElem?_eq_none G]at h;cases h
theorem Blk.cell(h:Blk w b t cs)(i:Nat):w.cell? ⟨b,i,none⟩=cs[i]?:=by unfold Blk at h;simp[World.cell?,h]
theorem Blk.frozen(h:Blk w b t cs)(i:Nat):w.frozen? ⟨b,i,none⟩=false:=by unfold Blk at h;simp[World.frozen?,h]
theorem Blk.chg(h:Blk w b t cs)(hx:Chg X w w1)(hb:b∉X):Blk w1 b t cs:=(hx.block b h.lt hb).trans h
theorem Blk.new(w:World)(t:TypeId)(cs:List Value):Blk (w.alloc<|.cells cs.toArray t) w.heap.size t cs:=heap_alloc_new w _
theorem Blk.set(h:Blk w b t cs)(i:Nat)(u:Value):Blk (w.setCell ⟨b,i,none⟩ u) b t (cs.set i u):=by unfold Blk at h⊢;simp[World.setCell,Array.getElem?_modify,h]
end
def Runs(P:Program)(a:Act)(ty:TypeId)(op:Op)(w:World)(x:Next)(w':World):Prop:=∀d ps af g,(execOp a.eval ⟨d,op,ty,ps,af,g⟩).run P w=.ok x w'
def upo(f:Nat->Option Value)(d:Option Tmp)(v:Value):Nat->Option Value:=match d with|some d=>up f d v|none=>f
def oN(d:Option Tmp)(n:Nat):Bool:=match d with|some d=>Nat.blt d n|none=>true
def rK(f:Nat->Option Value):List Operand->Option (List Value)
 |[]=>some []
 |x::r=>match aD f x with
  |some v=>match rK f r with
   |some vs=>some<|v::vs
   |none=>none
  |none=>none
def eb(f:Nat->Option Value):List (Nat×Operand)->Option (List<|Nat×Value)
 |[]=>some []
 |(i,x)::r=>match aD f x with
  |some v=>match eb f r with
   |some vs=>some<|(i,v)::vs
   |none=>none
  |none=>none
variable{y:Operand}
variable{u:TypeId}
variable{A:Option Addr}{m:Nat}
variable{i:Nat}
variable{o:Nat}
variable{sz:Nat}
variable{ps:List (Nat×Operand)}
variable{tb:TypeId}
variable{vs:List Value}
section
variable{P:Program}{ops:Array Oper}{Q:Exit->Act->World->Prop}{a:Act}{w w':World}{rest:List Oper}{n:Nat}{f:Nat->Option Value}{ty:TypeId}
theorem Fr.puto(h:Fr a n f){d:Option Tmp}(E:oN d n=true)(v:Value):Fr (a.put d v) n (upo f d v):=by
 cases d with
 |none=>exact h
 |some d=>exact h.put E v
theorem Fr.vals(h:Fr a n f):∀{l:List Operand} {vs:List Value},rK f l=some vs->l.map a.eval=vs
 |[],vs,e=>by simp[rK]at e;simp[e]
 | x::r,vs,e=>by
  simp only[rK]at e;split at e
  ·rename_i v hv;split at e
   ·rename_i us hu;have :=h.vals hu;simp only[aaa]at e;rw[aah,h.eval hv,this,e]
   ·cases e
  ·cases e
theorem Fr.parts(h:Fr a n f):∀{l:List<|Nat×Operand} {vs:List<|Nat×Value},eb f l=some vs->l.map (λp=>(p.1,a.eval p.2))=vs
 |[],vs,e=>by simp[eb]at e;simp[e]
 | (i,x)::r,vs,e=>by
  simp only[eb]at e;split at e
  ·rename_i v hv;split at e
   ·rename_i us hu;have :=h.parts hu;simp only[aaa]at e;rw[aah,h.eval hv,this,e]
   ·cases e
  ·cases e
theorem qz(b o j:Nat):(⟨b,o,none⟩:Addr).add j=⟨b,o+j,none⟩:=by unfold Addr.add;split<;>simp_all
theorem Ib{v:Value}(h:Fr a n f)(hx:aD f x=some v):Runs P a ty (.move x) w (.value v) w:=λ_ _ _ _=>by rw[<-h.eval hx];rfl
theorem CQ{v:Value}(h:Fr a n f)(hx:aD f x=some v):Runs P a ty (.assign x) w (.value v) w:=λ_ _ _ _=>by rw[<-h.eval hx];rfl
theorem Gl{c:Operand}{v:Value}(h:Fr a n f)(E:aD f c=some (.bool true))(hx:aD f x=some v):Runs P a ty (.pick c x y) w (.value v) w:=λ_ _ _ _=>by simp[execOp,h.eval E,h.eval hx,asBool]
theorem Ee{c:Operand}{v:Value}(h:Fr a n f)(E:aD f c=some (.bool false))(hy:aD f y=some v):Runs P a ty (.pick c x y) w (.value v) w:=λ_ _ _ _=>by simp[execOp,h.eval E,h.eval hy,asBool]
theorem Lw{b c:Bool}(h:Fr a n f)(hx:aD f x=some (.bool b))(E:(!b)=c):Runs P a ty (.unOp .not t x) w (.value<|.bool c) w:=λ_ _ _ _=>by subst E;simp only[execOp,h.eval hx];simp[go_sem]
section
variable{t u:TypeId}{x y:Operand}{k1:IntKind}{m l:Int}{c:Bool}
theorem Lu(h:Fr a n f)(hx:aD f x=some (.int k1 m))(hy:aD f y=some (.int k1 l))(E:(m==l)=c):Runs P a ty (.binOp .eql t x y u) w (.value<|.bool c) w:=λ_ _ _ _=>by subst E;simp only[execOp,h.eval hx,h.eval hy];simp[go_sem,eqGuard]
theorem Li(h:Fr a n f)(hx:aD f x=some (.int k1 m))(hy:aD f y=some (.int k1 l))(E:(m !=l)=c):Runs P a ty (.binOp .neq t x y u) w (.value<|.bool c) w:=λ_ _ _ _=>by subst E;simp only[execOp,h.eval hx,h.eval hy];simp[go_sem,eqGuard]
theorem DS(h:Fr a n f)(hx:aD f x=some (.int k1 m))(hy:aD f y=some (.int k1 l))(E:decide (m<l)=c):Runs P a ty (.binOp .lss t x y u) w (.value<|.bool c) w:=λ_ _ _ _=>by subst E;simp only[execOp,h.eval hx,h.eval hy];simp[go_sem,eqGuard]
theorem RF(h:Fr a n f)(hx:aD f x=some (.int k1 m))(hy:aD f y=some (.int k1 l))(E:decide (m<=l)=c):Runs P a ty (.binOp .leq t x y u) w (.value<|.bool c) w:=λ_ _ _ _=>by subst E;simp only[execOp,h.eval hx,h.eval hy];simp[go_sem,eqGuard]
theorem RJ(h:Fr a n f)(hx:aD f x=some (.int k1 m))(hy:aD f y=some (.int k1 l))(E:decide (l<m)=c):Runs P a ty (.binOp .gtr t x y u) w (.value<|.bool c) w:=λ_ _ _ _=>by subst E;simp only[execOp,h.eval hx,h.eval hy];simp[go_sem,eqGuard]
theorem QK(h:Fr a n f)(hx:aD f x=some (.int k1 m))(hy:aD f y=some (.int k1 l))(E:decide (l<=m)=c):Runs P a ty (.binOp .geq t x y u) w (.value<|.bool c) w:=λ_ _ _ _=>by subst E;simp only[execOp,h.eval hx,h.eval hy];simp[go_sem,eqGuard]
theorem PE{r:Int}(h:Fr a n f)(hx:aD f x=some (.int .i64 m))(hy:aD f y=some (.int .i64 l))(hr:m+l=r)(h1:-9223372036854775808<=r∧r<=9223372036854775807):Runs P a ty (.binOp .add t x y u) w (.value<|.int .i64 r) w:=λ_ _ _ _=>by have e:IntKind.i64.wrap r=r:=IntWalk.i64_in _ (by omega);subst hr;simp only[execOp,h.eval hx,h.eval hy];simp[go_sem,eqGuard,e]
end
theorem Ru{m l c:Bool}(ht:P.underlying t=some .bool)(h:Fr a n f)(hx:aD f x=some (.bool m))(hy:aD f y=some (.bool l))(E:(m==l)=c):Runs P a ty (.binOp .eql t x y u) w (.value<|.bool c) w:=λ_ _ _ _=>by subst E;simp only[execOp,h.eval hx,h.eval hy];simp[go_sem,eqGuard,ht]
section
variable{t u:TypeId}{x y:Operand}{m l:YB}{c:Bool}
theorem Qs(h:Fr a n f)(hx:aD f x=some (.string ⟨m.toArray⟩))(hy:aD f y=some (.string ⟨l.toArray⟩))(E:(m==l)=c):Runs P a ty (.binOp .eql t x y u) w (.value<|.bool c) w:=λ_ _ _ _=>by subst E;simp only[execOp,h.eval hx,h.eval hy];simp[go_sem,eqGuard]
theorem Qz(h:Fr a n f)(hx:aD f x=some (.string ⟨m.toArray⟩))(hy:aD f y=some (.string ⟨l.toArray⟩))(E:(m !=l)=c):Runs P a ty (.binOp .neq t x y u) w (.value<|.bool c) w:=λ_ _ _ _=>by subst E;simp only[execOp,h.eval hx,h.eval hy];simp[go_sem,eqGuard,bne]
theorem PQ(h:Fr a n f)(ht:P.underlying t=some .string)(hx:aD f x=some (.string ⟨m.toArray⟩)):Runs P a ty (.call {callee:=.builtin .len,args:=#[x],argTypes:=#[t]}) w (.value<|.int .i64 m.length) w:=λ_ _ _ _=>by simp only[execOp,resolve,List.map_toArray,aah,aau,h.eval hx];simp[go_sem,resolve,invoke,builtin,ht]
end
theorem wf{c:Nat}(h:Fr a n f)(ht:P.underlying t=some (.slice e))(hx:aD f x=some (.slice A m c)):Runs P a ty (.call {callee:=.builtin .len,args:=#[x],argTypes:=#[t]}) w (.value<|.int .i64 m) w:=λ_ _ _ _=>by simp only[execOp,resolve,List.map_toArray,aah,aau,h.eval hx];simp[go_sem,resolve,invoke,builtin,ht]
theorem AN(h:Fr a n f)(hx:aD f x=some (.pointer<|some p)):Runs P a ty (.nilCheck x) w (.value<|.pointer<|some p) w:=λ_ _ _ _=>by simp only[execOp,h.eval hx];rfl
theorem AV{vs:Array Value}{v:Value}(h:Fr a n f)(hx:aD f x=some (.tuple vs))(hi:vs[i]?=some v):Runs P a ty (.extract x i) w (.value v) w:=λ_ _ _ _=>by simp only[execOp,h.eval hx];simp[Instr.extract,hi]
theorem JK{v:Value}(h:Fr a n f)(hx:aD f x=some (.pointer<|some ⟨b,o,none⟩))(hv:∀w,(Instr.fieldAt t (.pointer<|some ⟨b,o,none⟩) i).run P w=.ok v w):Runs P a ty (.fieldAddr t x i) w (.value v) w:=λ_ _ _ _=>by simp only[execOp,h.eval hx];simp[hv]
theorem EC{cs:Array Value}{v:Value}(h:Fr a n f)(hx:aD f x=some (.agg cs))(hv:∀w,(Instr.field t (.agg cs) i).run P w=.ok v w):Runs P a ty (.field t x i) w (.value v) w:=λ_ _ _ _=>by simp only[execOp,h.eval hx];simp[hv]
theorem pT{c r:Nat}{i:Int}{k:Nat}(h:Fr a n f)(ht:P.underlying t=some (.slice e))(hz:(P.info? e).map (·.size)=some sz)(hx:aD f x=some (.slice (some ⟨b,o,none⟩) m c))(hy:aD f y=some (.int .i64 i))
  (G:i=(k:Int)) (E:k<m) (hr:o+k*sz=r):Runs P a ty (.indexAddr t x y) w (.value<|.pointer<|some ⟨b,r,none⟩) w:=λ_ _ _ _=>by
 obtain⟨J,hi,hs⟩:=Option.map_eq_some_iff.1 hz;subst G hs hr;simp only[execOp,h.eval hx,h.eval hy];simp[Instr.indexAt,asIntOf,run_underlying ht,sizeOf,typeInfo,hi,E,qz]
theorem Eh{vs:List<|Nat×Value}{v:Value}(h:Fr a n f)(hx:eb f ps=some vs)(hv:∀w,(Instr.build t vs.toArray).run P w=.ok v w):Runs P a ty (.build t ps.toArray) w (.value v) w:=λ_ _ _ _=>by
 have e:(ps.toArray.map λ(i,x)=>(i,a.eval x))=vs.toArray:=by rw[<-h.parts hx];simp
 simp only[execOp];rw[e];simp[hv]
def cM(P:Program)(t:TypeId):Bool:=match P.underlying t with
 |some (.struct _)=>false
 |some (.array _ _)=>false
 |some _=>true
 |none=>false
def mK(P:Program)(t:TypeId):Option Nat:=match P.underlying t with
 |some (.struct _)=>(P.info? t).map (·.size)
 |some (.array _ _)=>(P.info? t).map (·.size)
 |_=>none
def dr(P:Program)(t:TypeId):Option Nat:=(P.info? t).map (·.size)
def lY(P:Program)(t:TypeId):Option (List Value):=((P.info? t).bind (·.zero)).map (·.cells.toList)
theorem CD{v:Value}(ht:cM P t=true)(G:w.cell? p=some v):(Instr.loadAt t<|.pointer<|some p).run P w=.ok v w:=by
 unfold cM at ht;cases E:P.underlying t with
 |none=>rw[E]at ht;cases ht
 |some d=>
  rw[E]at ht;cases d<;>first|(simp[Instr.loadAt,Instr.sureAddr,loadVar,isAgg,run_underlying E,G];done)|cases ht
theorem xv(b:Nat):∀(m i o:Nat) (acc:List Value) (cs:List Value),cs.length=m->(∀j,j<m->w.cell? ⟨b,o+i+j,none⟩=cs[j]?)->(loadCellsFrom ⟨b,o,none⟩ i m acc.toArray).run P w=.ok (acc++cs).toArray w
 |0,i,o,acc,cs,hl,hc=>by have :cs=[]:=List.eq_nil_of_length_eq_zero hl;subst this;simp[loadCellsFrom]
 | m+1,i,o,acc,cs,hl,hc=>by
  cases cs with
  |nil=>cases hl
  |cons c r=>
   have h0:=hc 0 (by omega);simp only[Nat.add_zero,List.getElem?_cons_zero]at h0;have ih:=xv b m (i+1) o (acc++[c]) r (by simpa using hl) (λj hj=>by have :=hc (j+1) (by omega);simpa[aav,Nat.add_comm 1 j]using this);have ha:(⟨b,o,none⟩:Addr).add i=⟨b,o+i,none⟩:=by unfold Addr.add;split<;>simp_all
   simp only[loadCellsFrom,ha];simp[go_sem,h0];simpa using ih
theorem yK{cs:List Value}(ht:mK P t=some m)(hl:cs.length=m)(J:∀j,j<m->w.cell? ⟨b,o+j,none⟩=cs[j]?):(Instr.loadAt t<|.pointer<|some ⟨b,o,none⟩).run P w=.ok (.agg cs.toArray) w:=by
 have G:(isAgg t).run P w=.ok true w∧(sizeOf t).run P w=.ok m w:=by
  unfold mK at ht;cases E:P.underlying t with
  |none=>rw[E]at ht;cases ht
  |some d=>
   rw[E]at ht;cases d<;>first|cases ht|(obtain⟨i,hi,hs⟩:=Option.map_eq_some_iff.1 ht;simp[isAgg,run_underlying E,sizeOf,typeInfo,hi,hs])
 have U:=xv (P:=P) (w:=w) b m 0 o [] cs hl (by simpa using J);simp only[Instr.loadAt,Instr.sureAddr,loadVar,loadCells];simp[G.1,G.2,U]
theorem ex_load{v:Value}(h:Fr a n f)(hx:aD f x=some (.pointer<|some p))(ht:cM P t=true)(E:w.cell? p=some v):Runs P a ty (.load t x) w (.value v) w:=λ_ _ _ _=>by simp only[execOp,h.eval hx];simp[CD ht E]
theorem NJ{cs:List Value}{v:Value}(h:Fr a n f)(hx:aD f x=some (.pointer<|some ⟨b,o,none⟩))(ht:cM P t=true)(hb:Blk w b tb cs)(hv:cs[o]?=some v):Runs P a ty (.load t x) w (.value v) w:=
 ex_load h hx ht (by rw[hb.cell,hv])
theorem ex_loadN{cs:List Value}(h:Fr a n f)(hx:aD f x=some (.pointer<|some ⟨b,o,none⟩))(ht:mK P t=some m)(hl:cs.length=m)(E:∀j,j<m->w.cell? ⟨b,o+j,none⟩=cs[j]?):Runs P a ty (.load t x) w (.value<|.agg cs.toArray) w:=λ_ _ _ _=>by simp only[execOp,h.eval hx];simp[yK ht hl E]
theorem CE{cs:List Value}(h:Fr a n f)(hx:aD f x=some (.pointer<|some ⟨b,0,none⟩))(ht:mK P t=some m)(hb:Blk w b tb cs)(hl:cs.length=m):Runs P a ty (.load t x) w (.value<|.agg cs.toArray) w:=
 ex_loadN h hx ht hl (λj E=>by rw[hb.cell];simp)
theorem oB{v:Value}(h:v.oneCell'=true):v.cells=#[v]:=by cases v<;>first|rfl|cases h
theorem DZ(cs:List Value)(hz:lY P t=some cs)(a:Act)(w:World)(ty:TypeId):∃w' b,Runs P a ty (.alloc t) w (.value<|.pointer<|some ⟨b,0,none⟩) w'∧Blk w' b t cs∧Chg [] w w'∧b=w.heap.size∧b<w'.heap.size:=by
 refine⟨w.alloc<|.cells cs.toArray t,w.heap.size,λ_ _ _ _=>?_,Blk.new w t cs,Chg.alloc _ _,rfl,by simp⟩;unfold lY at hz;obtain⟨z,E,G⟩:=Option.map_eq_some_iff.1 hz;obtain⟨i,hi,J⟩:=Option.bind_eq_some_iff.1 E;have e:z.cells=cs.toArray:=by rw[<-G]
 simp[execOp,Instr.alloc,zeroValue,typeInfo,hi,J,newVar,newRow,e]
theorem KY{v:Value}{cs:List Value}(h:Fr a n f)(hx:aD f x=some v)(hv:v.cells=cs.toArray)(w:World)(ty:TypeId):∃w' b,Runs P a ty (.box t x) w (.value<|.pointer<|some ⟨b,0,none⟩) w'∧Blk w' b t cs∧Chg [] w w'∧b=w.heap.size∧b<w'.heap.size:=by
 refine⟨w.alloc<|.cells cs.toArray t,w.heap.size,λ_ _ _ _=>?_,Blk.new w t cs,Chg.alloc _ _,rfl,by simp⟩;simp only[execOp,h.eval hx];simp[Instr.box,newVar,newRow,hv]
theorem NQ{v:Value}{cs:List Value}(h:Fr a n f)(hx:aD f x=some (.pointer<|some ⟨b,o,none⟩))(hy:aD f y=some v)(hz:dr P t=some 1)(h1:v.oneCell'=true)(hb:Blk w b tb cs)(ho:o<cs.length)(ty:TypeId):
  ∃w',Runs P a ty (.store t x y) w .skip w'∧Blk w' b tb (cs.set o v)∧Chg [b] w w':=by
 refine⟨w.setCell ⟨b,o,none⟩ v,λ_ _ _ _=>?_,hb.set o v,Chg.set w b o v⟩;obtain⟨i,hi,hs⟩:=Option.map_eq_some_iff.1 (show(P.info? t).map (·.size)=some 1 from hz);have J:w.cell? ⟨b,o,none⟩=some cs[o]:=by rw[hb.cell];simp[ho]
 have E:=hb.frozen o;have U:(⟨b,o,none⟩:Addr).add 0=⟨b,o,none⟩:=by unfold Addr.add;split<;>simp_all
 simp only[execOp,h.eval hx,h.eval hy];have hv:v.cells=#[v]:=oB h1;have G:=run_store P w ⟨b,o,none⟩ v .plain h1;simp[Instr.storeAt,Instr.sureAddr,storeVar,sizeOf,typeInfo,hi,hs,hv,storeCells,U,G,stored,J,E]
theorem Lj{cs:List Value}(h:Fr a n f)(hx:aD f x=some (.pointer<|some ⟨b,0,none⟩))(hy:aD f y=some (.agg vs.toArray))(hz:dr P t=some m)(hv:vs.length=m)(hone:vs.all (·.oneCell')=true)(hb:Blk w b tb cs)(hm:cs.length=m)(ty:TypeId):
  ∃w',Runs P a ty (.store t x y) w .skip w'∧Blk w' b tb vs∧Chg [b] w w':=by
 obtain⟨i,hi,hs⟩:=Option.map_eq_some_iff.1 (show(P.info? t).map (·.size)=some m from hz);have key:∀(l:List Value) (j:Nat) (w:World) (cs:List Value),Blk w b tb cs->j+l.length=cs.length->l.all (·.oneCell')=true->∃w',(storeCells ⟨b,0,none⟩ l j).run P w=.ok () w'∧Blk w' b tb (cs.take j++l)∧Chg [b] w w':=by
  intro l
  induction l with
  |nil=>intro j w cs hb hj _;exact⟨w,by simp[storeCells],by simp at hj;subst hj;simpa using hb,Chg.refl _ _⟩
  | cons c r ih=>
   intro j w cs hb hj hone;simp only[List.all_cons,aab]at hone;simp only[aad]at hj;have ho:j<cs.length:=by omega
   have hc:w.cell? ⟨b,j,none⟩=some cs[j]:=by rw[hb.cell];simp[ho]
   have hfz:=hb.frozen j;have ha:(⟨b,0,none⟩:Addr).add j=⟨b,j,none⟩:=by unfold Addr.add;split<;>simp_all
   obtain⟨w2,h1,h2,h3⟩:=ih (j+1) (w.setCell ⟨b,j,none⟩ c) (cs.set j c) (hb.set j c) (by simp;omega) hone.2;refine⟨w2,?_,?_,(Chg.set w b j c).trans h3 λx hx=>.inl hx⟩
   ·simp only[storeCells,ha];have hst:=run_store P w ⟨b,j,none⟩ c .plain hone.1;simp[hst,stored,hc,hfz];exact h1
   ·have :(cs.set j c).take (j+1)++r=cs.take j++c::r:=by
     rw[List.take_succ_eq_append_getElem<|by simpa using ho];have e:List.take j (cs.set j c)=List.take j cs:=List.take_set_of_le<|aag _;simp[e]
    rw[<-this];exact h2
 obtain⟨w1,h1,h2,h3⟩:=key vs 0 w cs hb (by omega) hone;refine⟨w1,λ_ _ _ _=>?_,by simpa using h2,h3⟩;simp only[execOp,h.eval hx,h.eval hy];simp[Instr.storeAt,Instr.sureAddr,storeVar,sizeOf,typeInfo,hi,hs,hv,Value.cells,h1]
end
def bZ(P:Program)(fid:FuncId):Bool:=match P.funcs[fid]? with
 |some fn=>!(fn.name== "runtime.NumGoroutine")&&fn.body.isSome
 |none=>false
variable{fid:FuncId}
theorem lx(E:bZ P fid=true)(args:Array Value)(w:World):(callFunc fid args).run P w=.ok (.enter fid args) w:=by
 unfold bZ at E;split at E
 ·rename_i fn hf;simp only[aab,Bool.not_eq_true',beq_eq_false_iff_ne,ne_eq]at E;have hb:fn.body.isNone=false:=by cases hx:fn.body<;>simp_all
  simp[callFunc,hf,E.1,hb];intro G;simp[G]at hb
 ·cases E
section
variable{P:Program}{ops:Array Oper}{Q:Exit->Act->World->Prop}{a:Act}{w w':World}{rest:List Oper}{n:Nat}{f:Nat->Option Value}{ty:TypeId}
variable{d:Option Tmp}{op:Op}{ps:String}{af:Array Edge}{g:Option (Nat×Bool)}{v:Value}
theorem Js{args:List Operand}{tys:Array TypeId}{R:Ending->World->Prop}{K:Act->World->Prop}(h:Fr a n f)(Z:oN d n=true)(hv:rK f args=some vs)(E:bZ P fid=true)
  (G:Calls P fid vs.toArray w R) (k:∀e w',R e w'->∃v,e=.returned v∧K (a.put d v) w'):
  Oper.wp P ⟨d,.call {callee:=.value<|.func fid,args:=args.toArray,argTypes:=tys},ty,ps,af,g⟩ a w K Q:=by
 have hx:(execOp a.eval ⟨d,.call {callee:=.value<|.func fid,args:=args.toArray,argTypes:=tys},ty,ps,af,g⟩).run P w=.ok (.enter fid vs.toArray) w:=by
  have e:args.toArray.map a.eval=vs.toArray:=by rw[<-h.vals hv];simp
  simp only[execOp,resolve,e];simp[Act.eval,Deferred.ofValue,invoke,lx E]
 unfold Oper.wp;rw[hx,Oper.upon_enter];refine G.mono λe w1 J=>?_;obtain⟨v,rfl,U⟩:=k e w1 J;exact U
theorem Rr(h:Fr a n f)(E:pe f ops g=true)(G:oN d n=true)(J:Runs P a ty op w (.value v) w')
  (k:∀a',Fr a' n (upo f d v)->wpList P ops Q rest a' w'):wpList P ops Q (⟨d,op,ty,ps,af,g⟩::rest) a w:=by
 unfold wpList;rw[if_pos<|sd h (o:=⟨d,op,ty,ps,af,g⟩) E];refine .inl ?_;unfold Oper.wp;rw[J];exact k _<|h.puto G v
theorem To(h:Fr a n f)(E:pe f ops g=true)(G:oN d n=true)(J:Runs P a ty op w .skip w')
  (k:∀a',Fr a' n (upo f d undef)->wpList P ops Q rest a' w'):wpList P ops Q (⟨d,op,ty,ps,af,g⟩::rest) a w:=by
 unfold wpList;rw[if_pos<|sd h (o:=⟨d,op,ty,ps,af,g⟩) E];refine .inl ?_;unfold Oper.wp;rw[J];exact k _<|h.puto G undef
theorem TG(h:Fr a n f)(E:wI f ops g=true)(G:oN d n=true)(k:∀a',Fr a' n (upo f d undef)->wpList P ops Q rest a' w):wpList P ops Q (⟨d,op,ty,ps,af,g⟩::rest) a w:=by
 unfold wpList;rw[if_neg (by rw[zk h (o:=⟨d,op,ty,ps,af,g⟩) E];simp)];exact k _<|h.puto G undef
theorem Ty{args:List Operand}{tys:Array TypeId}{R:Ending->World->Prop}(h:Fr a n f)(G:pe f ops g=true)(E:oN d n=true)(hv:rK f args=some vs)(J:bZ P fid=true)
  (U:Calls P fid vs.toArray w R) (k:∀e w',R e w'->∃v,e=.returned v∧∀a',Fr a' n (upo f d v)->wpList P ops Q rest a' w'):
  wpList P ops Q (⟨d,.call {callee:=.value<|.func fid,args:=args.toArray,argTypes:=tys},ty,ps,af,g⟩::rest) a w:=by
 unfold wpList;rw[if_pos<|sd h (o:=⟨d,_,ty,ps,af,g⟩) G];refine .inl<|Js h E hv J U λe w1 Z=>?_;obtain⟨v,hv,hk⟩:=k e w1 Z;exact⟨v,hv,hk _<|h.puto E v⟩
theorem QT(k:Q .normal a w):wpList P ops Q [] a w:=k
theorem Fs{c:Operand}{E G:Code}(h:Fr a n f)(J:aD f c=some (.bool true))(k:E.wp P Q a w):(Code.cond c E G).wp P Q a w:=
 wp_cond_true (h.eval J) k
theorem Ff{c:Operand}{G E:Code}(h:Fr a n f)(J:aD f c=some (.bool false))(k:E.wp P Q a w):(Code.cond c G E).wp P Q a w:=
 wp_cond_false (h.eval J) k
end
section
variable{P:Program}{Q:Exit->Act->World->Prop}{a:Act}{w:World}{n:Nat}{f:Nat->Option Value}
def fm:List (Nat×Value)->Nat->Option Value
 |[],_=>none
 |(j,v)::r,i=>match Nat.beq i j with|true=>some v|false=>fm r i
def MM(f:Nat->Option Value):List (Nat×Value)->Prop
 |[]=>True
 |(j,v)::r=>f j=some v∧MM f r
theorem OK:∀{l:List<|Nat×Value},MM f l->∀i v,fm l i=some v->f i=some v
 |[],_,i,v,h=>by cases h
 | (j,u)::r,hA,i,v,h=>by
  simp only[fm]at h;split at h
  ·rename_i hb;have :=aaf hb;subst this;rw[<-h];exact hA.1
  ·exact OK hA.2 i v h
theorem Fr.pick(h:Fr a n f){l:List<|Nat×Value}(hl:MM f l):Fr a n (fm l):=h.le<|OK hl
def tP(P:Program)(f:Nat->Option Value)(w:World):List ResultVar->List Value->Prop
 |[],vs=>vs=[]
 |.tmp t::r,vs=>∃v us,vs=v::us∧f t=some v∧tP P f w r us
 |.cell t ty::r,vs=>∃cs us b tb m,vs=.agg cs.toArray::us∧f t=some (.pointer<|some ⟨b,0,none⟩)∧mK P ty=some m∧Blk w b tb cs∧cs.length=m∧tP P f w r us
def pd(a:Act):ResultVar->Sem Value
 |.tmp t=>pure<|a.tmps.getD t undef
 |.cell x t=>do loadVar t (<-asAddr (a.tmps.getD x undef))
theorem BI(h:Fr a n f):∀{l:List ResultVar} {vs:List Value},tP P f w l vs->(l.mapM<|pd a).run P w=.ok vs w
 |[],vs,e=>by simp only[tP]at e;simp[e]
 | .tmp t::r,vs,e=>by
  simp only[tP]at e;obtain⟨v,us,rfl,h1,h2⟩:=e;have ih:=BI h h2;have h3:(pd a<|.tmp t).run P w=.ok v w:=by have :=h.get t v h1;simp[pd,Array.getD_eq_getD_getElem?,this]
  simp[List.mapM_cons,h3,ih]
 | .cell t ty::r,vs,e=>by
  simp only[tP]at e;obtain⟨cs,us,b,tb,m,rfl,h1,h2,h3,h4,h5⟩:=e;have ih:=BI h h5;have hL:=yK (P:=P) (w:=w) (b:=b) (o:=0) h2 h4 (λj hj=>by rw[h3.cell];simp);have h6:(pd a<|.cell t ty).run P w=.ok (.agg cs.toArray) w:=by have :=h.get t _ h1;simp only[Instr.loadAt,Instr.sureAddr]at hL;simp at hL;simp[pd,Array.getD_eq_getD_getElem?,this,asAddr,hL]
  simp[List.mapM_cons,h6,ih]
def rt:List Value->Value
 |[v]=>v
 |vs=>.tuple vs.toArray
theorem Sa{fn:Func}{R:Ending->World->Prop}{rs:List ResultVar}(h:Fr a n f)(hr:fn.results=rs.toArray)(hv:tP P f w rs vs)(E:R (.returned<|rt vs) w):bodyPost P fn R .ret a w:=by
 refine bodyPost_ret (v:=rt vs) ?_ h.defers E;have G:=BI h hv;have e:(Array.mapM (pd a) rs.toArray).run P w=.ok vs.toArray w:=by rw[List.mapM_toArray];simp[G]
 unfold results;rw[hr];change ((Array.mapM (pd a) rs.toArray)>>=λvs=>pure (if h:vs.size=1 then vs[0]else .tuple vs)).run P w=_;simp only[Sem.run_bind,e,Result.andThen_ok,Sem.run_pure]
 match vs with
 |[]=>rfl
 |[v]=>rfl
 |v::u::r=>simp[rt]
theorem Ns{fn:Func}{c:Code}{args:List Value}{R:Ending->World->Prop}(N:Nat)(hf:P.funcs[fid]?=some fn)(hb:fn.body=some c)(hN:fn.ntmps=N)(hl:Nat.ble args.length N=true)
  (k:∀a,Fr a N (λi=>args[i]?)->c.wp P (bodyPost P fn R) a w):Calls P fid args.toArray w R:=by
 refine calls_of_wp hf hb<|k _ ⟨?_,I,λi v hi=>?_⟩
 ·have :args.length<=N:=by simpa using hl
  simp[hN];omega
 ·have E:i<args.length:=by
   rcases Nat.lt_or_ge i args.length with h|h
   ·exact h
   ·rw[List.getElem?_eq_none h]at hi;cases hi
  rw[Array.getElem?_append_left<|by simpa using E];simpa using hi
end
section
variable{P:Program}{ops:Array Oper}{Q:Exit->Act->World->Prop}{md:Region.Mode}{S:World->Prop}
def zf(md:Region.Mode)(ops:Array Oper)(m i:Nat):Bool:=match ops[m]? with
 |none=>true
 |some o=>o.after.any λe=>Region.binds md e&&e.on==i
theorem nQ{listed:Array Bool}(h:listed.getD m false=true):(listed.setIfInBounds i true).getD m false=true:=by
 rw[Array.getD_eq_getD_getElem?]at *;rw[Array.getElem?_setIfInBounds];split
 ·rename_i E;subst E;split
  ·rfl
  ·rename_i hs;rw[Array.getElem?_eq_none<|by omega]at h;cases h
 ·exact h
theorem CJ{listed:Array Bool}{j:Nat}{oj:Oper}(hr:i∈Region.ready md ops listed)(G:∀e∈oj.after,Region.binds md e=true->listed.getD e.on false=true):∀e∈oj.after,Region.binds md e=true->e.on≠i:=λe U hb J=>by
 have E:=(mem_ready.1 hr).1;have h1:=G e U hb;rw[J]at h1;rcases Nat.lt_or_ge i listed.size with h'|h'
 ·simp[h']at E h1;rw[E]at h1;cases h1
 ·simp[Array.getElem?_eq_none h']at h1
variable{a:Act}{w w':World}{n:Nat}{f:Nat->Option Value}{ty:TypeId}{d:Option Tmp}{op:Op}{ps:String}{af:Array Edge}{g:Option (Nat×Bool)}{v:Value}{m fuel:Nat}{listed:Array Bool}
variable{K:Act->World->Prop}
end
def gv(P:Program)(t:TypeId)(i:Nat):Option Nat:=match P.underlying t with
 |some (.struct fs)=>match fs[i]? with
  |some fl=>match P.info? fl.type with
   |some inf=>if inf.size=0 then none else some fl.offset
   |none=>none
  |none=>none
 |_=>none
def sA(P:Program)(t:TypeId)(i:Nat):Option Nat:=match P.underlying t with
 |some (.struct fs)=>match fs[i]? with
  |some fl=>if cM P fl.type=true then some fl.offset else none
  |none=>none
 |_=>none
section
variable{P:Program}{a:Act}{w w':World}{n:Nat}{f:Nat->Option Value}{ty:TypeId}
theorem DI{r:Nat}(h:Fr a n f)(hx:aD f x=some (.pointer<|some ⟨b,o,none⟩))(ho:gv P t i=some k)(hr:o+k=r):Runs P a ty (.fieldAddr t x i) w (.value<|.pointer<|some ⟨b,r,none⟩) w:=by
 refine JK h hx λw=>?_;subst hr;unfold gv at ho;split at ho
 ·rename_i fs J;split at ho
  ·rename_i fl G;split at ho
   ·rename_i inf E;split at ho
    ·cases ho
    ·rename_i hz;simp only[aaa]at ho;subst ho;simp[Instr.fieldAt,run_underlying J,G,Instr.sureAddr,fieldPlace,sizeOf,typeInfo,E,hz,qz]
   ·cases ho
  ·cases ho
 ·cases ho
theorem Sj{cs:List Value}{v:Value}(h:Fr a n f)(hx:aD f x=some (.agg cs.toArray))(ho:sA P t i=some k)(hv:cs[k]?=some v):Runs P a ty (.field t x i) w (.value v) w:=by
 refine EC h hx λw=>?_;unfold sA at ho;split at ho
 ·rename_i fs J;split at ho
  ·rename_i fl G;split at ho
   ·rename_i hs;simp only[aaa]at ho;subst ho;have U:(isAgg fl.type).run P w=.ok false w:=by
     unfold cM at hs;cases E:P.underlying fl.type with
     |none=>rw[E]at hs;cases hs
     |some d=>
      rw[E]at hs;cases d<;>first|(simp[isAgg,run_underlying E];done)|cases hs
    simp[Instr.field,run_underlying J,G,part,U,asAgg,hv]
   ·cases ho
  ·cases ho
 ·cases ho
theorem yo(off:Nat):∀(l:List Value) (j:Nat) (c:List Value),off+j+l.length<=c.length->
  (l.zipIdx j).foldl (λ(cs:Array Value) (p:Value×Nat)=>cs.setIfInBounds (off+p.2) p.1) c.toArray=(c.take (off+j)++l++c.drop (off+j+l.length)).toArray
 |[],j,c,h=>by simp
 | x::r,j,c,h=>by
  simp only[aad]at h;have ih:=yo off r (j+1) (c.set (off+j) x) (by simp;omega);simp only[List.zipIdx_cons,aax,List.setIfInBounds_toArray];rw[ih]
  congr 1
  have e1:(c.set (off+j) x).take (off+(j+1))=c.take (off+j)++[x]:=by
   rw[<-aav,List.take_succ_eq_append_getElem (by simp;omega),List.take_set_of_le<|aag _];simp
  have e2:(c.set (off+j) x).drop (off+(j+1)+r.length)=c.drop (off+j+(r.length+1)):=by
   rw[List.drop_set_of_lt<|by omega];congr 1;omega
  rw[e1,e2];simp
theorem Gj(sz:Nat):∀(vs:List<|Nat×Value) (k:Nat) (c:List Value),vs.map (·.1)=(List.range vs.length).map (·+k)->(∀p∈vs,p.2.cells.size=sz)->(k+vs.length)*sz=c.length->
  Instr.fill (λi=>some (i*sz,sz)) c.toArray vs=some (c.take (k*sz)++vs.flatMap λp=>p.2.cells.toList).toArray
 |[],k,c,_,_,hl=>by simp[Instr.fill];simp at hl;rw[hl];simp
 | (i,v)::r,k,c,hi,hc,hl=>by
  have hv:v.cells.size=sz:=hc (i,v) (by simp);have hi0:i=k:=by have :=congrArg (λl=>l.head?) hi;simpa[List.range_succ_eq_map]using this
  subst hi0;simp only[aad]at hl;have hle:(i+1)*sz<=c.length:=by rw[<-hl];exact Nat.mul_le_mul_right _ (by omega)
  rw[Nat.add_mul,Nat.one_mul]at hle;have hf:=yo (i*sz) v.cells.toList 0 c (by simpa[hv]using hle);have hr:r.map (·.1)=(List.range r.length).map (·+(i+1)):=by have :=congrArg List.tail hi;simp only[aah,List.tail_cons,aad,List.range_succ_eq_map,List.map_map]at this;rw[this];apply List.map_congr_left;intro x _;simp;omega
  have ih:=Gj sz r (i+1) (c.take (i*sz)++v.cells.toList++c.drop (i*sz+sz)) hr (λp hp=>hc p (by simp[hp])) (by
   have e:(i+(r.length+1))*sz=(i+1+r.length)*sz:=by congr 1;omega
   simp[hv];rw[<-hl]at hle⊢;omega)
  simp only[Instr.fill];rw[if_neg (by simp[hv];omega)];have e0:(v.cells.zipIdx.foldl (λcs (x:Value×Nat)=>match x with|(c,j)=>cs.setIfInBounds (i*sz+j) c) c.toArray)=(c.take (i*sz)++v.cells.toList++c.drop (i*sz+sz)).toArray:=by rw[<-Array.foldl_toList,Array.toList_zipIdx];simp only[Nat.add_zero,Array.length_toList,hv]at hf;exact hf
  rw[e0,ih]
  congr 1
  have e3:(c.take (i*sz)++v.cells.toList++c.drop (i*sz+sz)).take ((i+1)*sz)=c.take (i*sz)++v.cells.toList:=by rw[Nat.add_mul,Nat.one_mul,List.take_append_of_le_length (by simp[hv];omega)];apply List.take_of_length_le;simp[hv];omega
  rw[e3];simp
theorem ra{vs:List<|Nat×Value}{m:Nat}{z cs:List Value}(h:Fr a n f)(hx:eb f ps=some vs)(ht:P.underlying t=some (.slice e))(hz:dr P e=some sz)(hzero:lY P e=some z)
  (G:ps.map (·.1)=List.range m) (hc:vs.all (λp=>p.2.cells.size==sz)=true) (Z:Nat.ble (m*sz) 16777216=true) (hcs:(vs.flatMap λp=>p.2.cells.toList)=cs) (w:World) (ty:TypeId):
  ∃w' b,Runs P a ty (.buildSlice t m ps.toArray) w (.value<|.slice (some ⟨b,0,none⟩) m m) w'∧Blk w' b e cs∧Chg [] w w'∧b=w.heap.size∧b<w'.heap.size:=by
 subst hcs;refine⟨w.alloc<|.cells (vs.flatMap λp=>p.2.cells.toList).toArray e,w.heap.size,λ_ _ _ _=>?_,Blk.new w e _,Chg.alloc _ _,rfl,by simp⟩;obtain⟨inf,hi,hs⟩:=Option.map_eq_some_iff.1 (show(P.info? e).map (·.size)=some sz from hz);unfold lY at hzero;obtain⟨z0,hz1,hz2⟩:=Option.map_eq_some_iff.1 hzero;obtain⟨inf',J,hiz⟩:=Option.bind_eq_some_iff.1 hz1;rw[hi]at J;cases J;have U:vs.map (·.1)=List.range m:=by rw[<-G,<-h.parts hx];simp
 have hm:vs.length=m:=by have :=congrArg List.length U;simpa using this
 have e:(ps.toArray.map λ(i,x)=>(i,a.eval x))=vs.toArray:=by rw[<-h.parts hx];simp
 have hsm':m*sz<=16777216:=by simpa using Z
 have hfill:∀c:Array Value,c.size=m*sz->Instr.fill (λi=>some (i*sz,sz)) c vs=some (vs.flatMap λp=>p.2.cells.toList).toArray:=λc hcz=>by have :=Gj sz vs 0 c.toList (by rw[U,hm];simp) (λp hp=>by simpa using List.all_eq_true.1 hc p hp) (by simp[hm,hcz]);simpa using this
 simp only[execOp];rw[e];simp only[Instr.buildSlice];by_cases h0:m*sz=0
 ·have E:=hfill ((Array.range 0).map λx=>(default:Value)) (by simp[h0]);simp[run_underlying ht,sizeOf,typeInfo,hi,hs,h0,newRow];rw[E];simp
 ·have E:=hfill ((Array.range<|m*sz).map (z0.cells[·%z0.cells.size]!)) (by simp)
  try simp at E
  simp[run_underlying ht,sizeOf,typeInfo,hi,hs,h0,newRow,zeroValue,hiz,show¬16777216<m*sz by omega,E]
theorem PO{z:Value}{sz by_:Nat}{cs:List Value}(h:Fr a n f)(hx:aD f x=some (.int .i64 (m:Int)))(hy:aD f y=some (.int .i64 (m:Int)))(ht:P.underlying t=some (.slice e))
  (hi:(P.info? e).map (λi=>(i.zero,i.size,i.bytes))=some (some z,sz,by_)) (hb:Nat.ble (by_*m) 281474976710656=true) (J:Nat.ble m 9223372036854775807=true) (U:madeCells z.cells (m*sz)=cs.toArray) (w:World) (ty:TypeId):
  ∃w' b,Runs P a ty (.makeSlice t x y) w (.value<|.slice (some ⟨b,0,none⟩) m m) w'∧Blk w' b e cs∧Chg [] w w'∧b=w.heap.size∧b<w'.heap.size:=by
 obtain⟨G,Z,E⟩:=Option.map_eq_some_iff.1 hi;simp only[Prod.mk.injEq]at E;obtain⟨hz,hs,hby⟩:=E;refine⟨w.alloc<|.cells cs.toArray e,w.heap.size,λ_ _ _ _=>?_,Blk.new w e _,Chg.alloc _ _,rfl,by simp⟩;have hb':(G.bytes:Int)*(m:Int)<=281474976710656:=by
  have h9:G.bytes*m<=281474976710656:=by rw[hby];exact Nat.le_of_ble_eq_true hb
  have h8:((G.bytes*m:Nat):Int)<=281474976710656:=by omega
  rwa [Int.natCast_mul]at h8
 have h63':m<=9223372036854775807:=Nat.le_of_ble_eq_true J;have hr:=run_make (P:=P) w t e G z ht Z hz .i64 .i64 m m (by omega) (by omega) hb' (by omega);simp only[execOp,h.eval hx,h.eval hy];simp only[Int.toNat_natCast,hs,U]at hr;simp[hr]
theorem wF{e size:Nat}{cs:List Value}(h:Blk w b e cs)(hb:base<=b)(hl:cs.length=m*size)(E:Nat.ble m maxLen=true):w.ownsRow base e size (.slice (some ⟨b,0,none⟩) m m) m cs:=by refine⟨hl,.inr ⟨b,m,cs.toArray,I,hb,h,aag _,by simpa using E,by simpa using hl,?_⟩⟩;simp[<-hl]
end
theorem nm0:b∉([]:YN):=by simp
section
variable{P:Program}{a:Act}{w w':World}{n:Nat}{f:Nat->Option Value}{X:YN}
end
theorem PY{a:Act}{w:World}{f:Nat->Option Value}{ty t u:TypeId}{k:IntKind}{m l:Int}(h:Fr a n f)(hx:aD f x=some (.int k m))(hy:aD f y=some (.int k l)):Runs P a ty (.call {callee:=.builtin .max,args:=#[x,y],argTypes:=#[t,u]}) w (.value<|.int k<|max m l) w:=λ_ _ _ _=>by
 simp only[execOp,resolve,List.map_toArray,aah,aau,h.eval hx,h.eval hy];simp[go_sem,invoke,builtin]
 try (split<;>omega)
end Go.Proofs.YtehhanlhfdoiaaaGreat
namespace Go.Proofs.YtehhanlhfdoiaaaGreat.Lx
def cv(c:UInt8):Bool:=decide (97<=c.toNat)&&decide (c.toNat<=122)
def upperB(c:UInt8):Bool:=decide (65<=c.toNat)&&decide (c.toNat<=90)
def bC(c:UInt8):Bool:=decide (48<=c.toNat)&&decide (c.toNat<=57)
def bo(c:UInt8):Bool:=cv c||upperB c
def bm(c:UInt8):Bool:=bo c||bC c||c.toNat==95
def bH(c:UInt8):Bool:=c.toNat==9||c.toNat==10||c.toNat==13||c.toNat==32
def dM(c:UInt8):Bool:=decide (32<=c.toNat)&&decide (c.toNat<=126)
def aT(c:UInt8):Bool:=bH c||dM c
def Jj:List YB:=[[109,111,100,117,108,101],[100,101,102],[116,121,112,101],[108,101,116],[105,110],[105,102],[116,104,101,110],[101,108,115,101],[116,114,117,101],[102,97,108,115,101],[73,110,116],[84,101,120,116],[66,111,111,108]]
def ke(l:YB):Bool:=Jj.contains l
def spanN(p:UInt8->Bool)(l:YB):Nat:=(l.takeWhile p).length
def dw(l:YB):Bool:=
 upperB (l.getD 0 0)&&!ke (l.take<|spanN bm l)&&decide (spanN bm l+1<l.length)&&((l.getD (spanN bm l) 0).toNat==46)&&bo (l.getD (spanN bm l+1) 0)
def bL(l:YB)(n:Nat):Nat×Nat×Nat:=
 if 24<n then(0,0,3)else if ke (l.take n)=true then(7,n,0)else if cv (l.getD 0 0)=true then(1,n,0)else(2,n,0)
def fg(l:YB)(n m:Nat):Nat×Nat×Nat:=
 if 24<n∨24<m then(0,0,3)
 else if ke ((l.drop<|n+1).take m)=true then(0,0,2)
 else if cv (l.getD (n+1) 0)=true then(3,n+1+m,0)
 else(4,n+1+m,0)
def bX(l:YB):Nat×Nat×Nat:=
 if dw l=true then fg l (spanN bm l) (spanN bm<|l.drop<|spanN bm l+1)else bL l (spanN bm l)
def eo(l:YB):Nat×Nat:=
 let n:=spanN bC l
 if 1<n∧(l.getD 0 0).toNat=48 then(0,2)else if 15<n then(0,3)else(n,0)
def quotedT:YB->Nat->Nat×Nat
 |[],_=>(0,2)
 |c::r,i=>
  if aT c=false then(i,1)
  else if c.toNat=34 then(i+1,0)
  else if c.toNat=92∨c.toNat<32 then(0,2)
  else quotedT r (i+1)
def qO:YB:=[40,41,91,93,58,44,61,43,45,42,60,63]
def tokenT(l:YB):Nat×Nat×Nat:=
 let c:=l.getD 0 0
 if aT c=false then(0,0,1)
 else if bo c=true then bX l
 else if bC c=true then(5,eo l)
 else if c.toNat=34 then(6,quotedT l.tail 1)
 else if c.toNat=61∧1<l.length∧(l.getD 1 0).toNat=61 then(8,2,0)
 else if qO.contains c=true then(8,1,0)
 else(0,0,2)
def aM:Bool->YB->Nat->Nat×Option Nat
 |_,[],n=>(n,none)
 |false,c::r,n=>if bH c=true then aM false r (n+1)else if c.toNat=35 then aM true r (n+1)else(n,none)
 |true,c::r,n=>if c.toNat=10 then aM false r (n+1)else if aT c=false then(n,some n)else aM true r (n+1)
structure TokZ where
 kind:Int
 lead:List UInt8
 text:List UInt8
structure Scanned where
 toks:List TokZ
 tail:List UInt8
 place:Nat
 err:Nat
def scanT:Nat->List UInt8->Nat->List TokZ->Scanned
 |0,_,_,_=>⟨[],[],0,0⟩
 | f +1,l,pos,acc=>
  match(aM false l 0).2 with
  |some b=>⟨[],[],pos+b,1⟩
  | none=>
   if(aM false l 0).1=l.length then⟨acc,l,0,0⟩
   else if(tokenT<|l.drop (aM false l 0).1).2.2=0 then
    scanT f (l.drop<|(aM false l 0).1+(tokenT<|l.drop (aM false l 0).1).2.1) (pos+(aM false l 0).1+(tokenT<|l.drop (aM false l 0).1).2.1)
     (acc++[⟨(tokenT<|l.drop (aM false l 0).1).1,l.take (aM false l 0).1,(l.drop (aM false l 0).1).take (tokenT<|l.drop (aM false l 0).1).2.1⟩])
   else⟨[],[],pos+(aM false l 0).1+(tokenT<|l.drop (aM false l 0).1).2.1,(tokenT<|l.drop (aM false l 0).1).2.2⟩
def fj(l:YB):Scanned:=if 4096<l.length then⟨[],[],4096,3⟩else scanT (l.length+1) l 0 []
def bj(l:YB):Nat:=if l=[]then 0 else if(tokenT l).2.2=0∧(tokenT l).2.1=l.length then(tokenT l).1 else 0
def cC:Bool->YB->Bool->Bool
 |c,[],fin=>!c||fin
 |c,x::r,fin=>
  if aT x=false then false
  else if c=true then cC (!(x.toNat==10)) r fin
  else if x.toNat=35 then cC true r fin
  else if bH x=false then false
  else cC c r fin
def fusesT(a b:YB):Bool:=
 if bj a=0∨bj b=0 then false
 else
  let r:=fj<|a++b
  if r.err=0∧r.toks.length=2∧r.tail=[]then
   !((r.toks.getD 0 ⟨0,[],[]⟩).lead==[]&&(r.toks.getD 0 ⟨0,[],[]⟩).text==a&&(r.toks.getD 1 ⟨0,[],[]⟩).lead==[]&&(r.toks.getD 1 ⟨0,[],[]⟩).text==b)
  else true
variable{l:YB}{k:Nat}
theorem lZ{p:UInt8->Bool}{c:UInt8}(h:k<l.length)(E:l[k]=c)(hp:p c=true):
  spanN p (l.drop k)=spanN p (l.drop<|k+1)+1:=by
 rw[aan h,E];simp[spanN,hp]
theorem rP{p:UInt8->Bool}{c:UInt8}(h:k<l.length)(E:l[k]=c)(hp:p c=false):
  spanN p (l.drop k)=0:=by
 rw[aan h,E];simp[spanN,hp]
theorem uo{p:UInt8->Bool}(h:l.length<=k):spanN p (l.drop k)=0:=by rw[List.drop_of_length_le h];rfl
theorem lC(p:UInt8->Bool):∀(l:YB),spanN p l<=l.length
 |[]=>aag _
 |c::r=>by have :=lC p r;unfold spanN at *;rw[List.takeWhile_cons];split<;>simp <;>omega
theorem yn{p:UInt8->Bool}(h:0<l.length)(hp:p (l.getD 0 0)=true):0<spanN p l:=by
 cases l with
 |nil=>simp at h
 |cons c r=>simp[spanN]at *;simp[hp]
theorem wJ{c:UInt8}(h:bo c=true∨bC c=true∨((c.toNat:Int)==95)=true):bm c=true:=by
 rcases h with h|h|h<;>simp_all[bm]<;>omega
theorem GK{c:UInt8}(h1:¬bo c=true)(h2:¬bC c=true)(E:((c.toNat:Int)==95)=false):bm c=false:=by simp_all[bm];omega
theorem aL{c:UInt8}(h:k<l.length)(E:l[k]=c):l.getD k 0=c:=by simp[List.getD,List.getElem?_eq_getElem h,E]
variable{n m:Nat}
theorem cJ(h:((n:Int)==(m:Int))=true):n=m:=by simp at h;omega
theorem bG(h:((n:Int)==(m:Int))=false):¬n=m:=by simp at h;omega
theorem pu{c:UInt8}(h:spanN bC l=k)(h1:1<k)(G:0<l.length)(J:l[0]=c)(E:((c.toNat:Int)==48)=true):eo l=(0,2):=by unfold eo;rw[h,aL G J];have :=cJ (m:=48) E;simp[h1,this]
theorem oU(h:spanN bC l=k)(h1:1<k->¬(l.getD 0 0).toNat=48)(E:15<k):eo l=(0,3):=by unfold eo;rw[h];simp only;rw[if_neg λx=>h1 x.1 x.2,if_pos E]
theorem io(h:spanN bC l=k)(h1:1<k->¬(l.getD 0 0).toNat=48)(E:¬15<k):eo l=(k,0):=by unfold eo;rw[h];simp only;rw[if_neg λx=>h1 x.1 x.2,if_neg E]
theorem Ed{c:UInt8}(h:k<l.length)(E:l[k]=c):
  quotedT (l.drop k) k=if aT c=false then(k,1)else if c.toNat=34 then(k+1,0)else if c.toNat=92∨c.toNat<32 then(0,2)else quotedT (l.drop<|k+1) (k+1):=by
 rw[aan h,E];rfl
theorem GL(h:l.length<=k):quotedT (l.drop k) k=(0,2):=by rw[List.drop_of_length_le h];rfl
theorem wZ(l:YB)(a b:Nat):(ByteArray.mk l.toArray).extract a b=⟨((l.drop a).take<|b-a).toArray⟩:=by apply ByteArray.ext;rw[ByteArray.data_extract];simp[List.extract_eq_take_drop]
theorem nH(l:YB)(a:Nat):(l.drop a).take (l.length-a)=l.drop a:=by apply List.take_of_length_le;simp
theorem iP(hn:spanN bm l=n)(h:dw l=false):bX l=bL l n:=by simp[bX,h,hn]
theorem CP(hn:spanN bm l=n)(E:spanN bm (l.drop<|n+1)=m)(h:dw l=true):bX l=fg l n m:=by simp[bX,h,hn,E]
theorem Kv{c:UInt8}(E:0<l.length)(G:l[0]=c)(h:upperB c=false):dw l=false:=by simp[dw,aL E G,h,-List.getD_eq_getElem?_getD]
theorem LG(hn:spanN bm l=n)(h:ke (l.take n)=true):dw l=false:=by simp[dw,hn,h]
theorem LC(hn:spanN bm l=n)(h:¬n+1<l.length):dw l=false:=by simp[dw,hn,h]
theorem Kr{c:UInt8}(hn:spanN bm l=n)(hl:n<l.length)(E:l[n]=c)(h:((c.toNat:Int)==46)=false):dw l=false:=by have :=bG (m:=46) h;simp[dw,hn,aL hl E,this,-List.getD_eq_getElem?_getD]
theorem LQ{c:UInt8}(hn:spanN bm l=n)(hl:n+1<l.length)(E:l[n+1]=c)(h:bo c=false):dw l=false:=by simp[dw,hn,aL hl E,h,-List.getD_eq_getElem?_getD]
theorem Gh{c0 c1 c2:UInt8}(hn:spanN bm l=n)(h0:0<l.length)(E:l[0]=c0)(hu:upperB c0=true)(hr:ke (l.take n)=false)
  (hl:n+1<l.length) (G:n<l.length) (J:l[n]=c1) (U:((c1.toNat:Int)==46)=true) (Z:l[n+1]=c2) (h3:bo c2=true):dw l=true:=by
 have :=cJ (m:=46) U;simp[dw,hn,aL h0 E,aL G J,aL hl Z,hu,hr,hl,h3,this,-List.getD_eq_getElem?_getD]
theorem yH{c:UInt8}(E:0<l.length)(G:l[0]=c):
  tokenT l=if aT c=false then(0,0,1)else if bo c=true then bX l else if bC c=true then(5,eo l)else if c.toNat=34 then(6,quotedT l.tail 1)
   else if c.toNat=61∧1<l.length∧(l.getD 1 0).toNat=61 then(8,2,0)else if qO.contains c=true then(8,1,0)else(0,0,2):=by
 unfold tokenT;rw[aL E G]
theorem zG:∀(r:YB) (i:Nat),(quotedT r i).1<=i+r.length∧((quotedT r i).2=0->i<(quotedT r i).1)
 |[],i=>by simp[quotedT]
 | c::r,i=>by
  have ih:=zG r<|i+1;unfold quotedT;split
  ·simp
  ·split
   ·simp <;>omega
   ·split
    ·simp
    ·simp only[aad];exact⟨by omega,λh=>by have :=ih.2 h;omega⟩
theorem Lt(E:0<l.length)(G:bo (l.getD 0 0)=true):(bX l).2.1<=l.length∧((bX l).2.2=0->0<(bX l).2.1):=by
 have h1:=lC bm l;have h2:0<spanN bm l:=yn E (by simp[bm,G,-List.getD_eq_getElem?_getD]);have J:=lC bm<|l.drop<|spanN bm l+1;simp only[aaE]at J;unfold bX;split
 ·rename_i hcond;have U:spanN bm l+1<l.length:=by
   unfold dw at hcond;simp only[aab,aas]at hcond;exact hcond.1.1.2
  unfold fg;split
  ·simp
  ·split
   ·simp
   ·split<;>simp <;>omega
 ·unfold bL;split
  ·simp
  ·split
   ·simp;omega
   ·split<;>simp <;>omega
theorem Gu(E:0<l.length)(G:bC (l.getD 0 0)=true):(eo l).1<=l.length∧((eo l).2=0->0<(eo l).1):=by
 have h1:=lC bC l;have h2:0<spanN bC l:=yn E G;unfold eo;simp only;split
 ·simp
 ·split
  ·simp
  ·simp;omega
theorem Bl(E:0<l.length):(tokenT l).2.1<=l.length∧((tokenT l).2.2=0->0<(tokenT l).2.1):=by
 unfold tokenT;simp only;split
 ·simp
 split
 ·exact Lt E ‹_›
 split
 ·exact Gu E ‹_›
 split
 ·have :=zG l.tail 1;simp only[List.length_tail]at this;exact⟨by simp only;omega,λh=>by have :=this.2 h;simp only;omega⟩
 split
 ·simp;omega
 split
 ·simp;omega
 ·simp
theorem zA{c:UInt8}(h:k<l.length)(E:l[k]=c)(G:bH c=true):aM false (l.drop k) n=aM false (l.drop<|k+1) (n+1):=by rw[aan h,E];simp[aM,G]
theorem AO{c:UInt8}(h:k<l.length)(G:l[k]=c)(E:c.toNat=35):aM false (l.drop k) n=aM true (l.drop k) n:=by
 rw[aan h,G];have h1:bH c=false:=by simp[bH,E]
 have h2:aT c=true:=by simp[aT,dM,E]
 simp[aM,h1,h2,E]
theorem zB{c:UInt8}(h:k<l.length)(E:l[k]=c)(G:bH c=false)(J:¬c.toNat=35):aM false (l.drop k) n=(n,none):=by rw[aan h,E];simp[aM,G,J]
theorem Be{c:UInt8}(h:k<l.length)(G:l[k]=c)(E:c.toNat=10):aM true (l.drop k) n=aM false (l.drop k) n:=by
 rw[aan h,G];have h1:bH c=true:=by simp[bH,E]
 simp[aM,h1,E]
theorem Cw{c:UInt8}(h:k<l.length)(G:l[k]=c)(E:¬c.toNat=10)(J:aT c=false):aM true (l.drop k) n=(n,some n):=by rw[aan h,G];simp[aM,E,J]
theorem Fk{c:UInt8}(h:k<l.length)(G:l[k]=c)(E:¬c.toNat=10)(J:aT c=true):aM true (l.drop k) n=aM true (l.drop<|k+1) (n+1):=by rw[aan h,G];simp[aM,E,J]
theorem rb(b:Bool)(h:l.length<=k):aM b (l.drop k) n=(n,none):=by rw[List.drop_of_length_le h];cases b<;>rfl
variable{b:Nat}
theorem CI{f:Nat}{pos:Nat}{acc:List TokZ}(h:aM false l 0=(n,some b)):scanT (f+1) l pos acc=⟨[],[],pos+b,1⟩:=by simp[scanT,h]
theorem yu{f:Nat}{pos:Nat}{acc:List TokZ}(h:aM false l 0=(n,none))(hn:n=l.length):scanT (f+1) l pos acc=⟨acc,l,0,0⟩:=by simp[scanT,h,hn]
theorem CM{f:Nat}{pos e:Nat}{acc:List TokZ}(h:aM false l 0=(n,none))(hn:¬n=l.length)(ht:tokenT (l.drop n)=(k,m,e))(E:¬e=0):
  scanT (f+1) l pos acc=⟨[],[],pos+n+m,e⟩:=by
 simp[scanT,h,hn,ht,E]
theorem CS{f:Nat}{pos:Nat}{acc:List TokZ}(h:aM false l 0=(n,none))(hn:¬n=l.length)(ht:tokenT (l.drop n)=(k,m,0)):
  scanT (f+1) l pos acc=scanT f (l.drop<|n+m) (pos+n+m) (acc++[⟨k,l.take n,(l.drop n).take m⟩]):=by
 simp[scanT,h,hn,ht]
end Go.Proofs.YtehhanlhfdoiaaaGreat.Lx
namespace Go.Proofs.YtehhanlhfdoiaaaGreat.Sx
open Lx
inductive Tree where
 |node (kind:Int) (text:List UInt8) (leads:List (List UInt8)) (kids:List Tree)
abbrev YT:=List Tree
def Tree.kind:Tree->Int|.node k _ _ _=>k
def Tree.text:Tree->YB|.node _ s _ _=>s
def Tree.leads:Tree->List YB|.node _ _ l _=>l
def Tree.kids:Tree->YT|.node _ _ _ k=>k
def qw:Tree:=.node 0 [] [] []
def PA:TokZ:=⟨0,[],[]⟩
structure PS where
 toks:List TokZ
 off:Nat
 size:Nat
 failed:Nat
 place:Nat
def bU(s:PS):TokZ:=s.toks.headD PA
def zl(e:Nat)(s:PS):PS:=if s.failed=0 then⟨[],s.off,s.size,e,s.off⟩else⟨[],s.off,s.size,s.failed,s.place⟩
def dW(s:PS):PS:=
 match s.toks with
 |[]=>s
 |[_]=>⟨[],s.size,s.size,s.failed,s.place⟩
 |t::u::r=>⟨u::r,s.off+(t.text.length+u.lead.length),s.size,s.failed,s.place⟩
def fO(x:YB)(s:PS):YB×PS:=if(bU s).text=x then((bU s).lead,dW s)else([],zl 2 s)
def uG(k o:Int)(s:PS):YB×YB×PS:=
 if(bU s).kind=0∨((bU s).kind≠k∧(bU s).kind≠o)then([],[],zl 2 s)else((bU s).text,(bU s).lead,dW s)
def Pb:YB:=[109,111,100,117,108,101]
def Ml:YB:=[100,101,102]
def OG:YB:=[116,121,112,101]
def RN:YB:=[108,101,116]
def wIn:YB:=[105,110]
def wIf:YB:=[105,102]
def SM:YB:=[116,104,101,110]
def Ss:YB:=[101,108,115,101]
def Oq:YB:=[116,114,117,101]
def KP:YB:=[102,97,108,115,101]
def TE:YB:=[73,110,116]
def SV:YB:=[84,101,120,116]
def Sk:YB:=[66,111,111,108]
def SH(x:YB):Bool:=x==[43]||x==[45]||x==[42]||x==[60]||x==[61,61]
def HK(t:TokZ):Bool:=
 t.kind==5||t.kind==6||t.kind==1||t.kind==3||t.text==RN||t.text==wIf||t.text==Oq||t.text==KP||t.text==[63]||t.text==[91]||t.text==[40]
def Cf:Nat->PS->Tree×PS
 |0,s=>(qw,s)
 | n+1,s=>
  if(bU s).text=TE then(.node 5 [] [(bU s).lead] [],dW s)
  else if(bU s).text=SV then(.node 6 [] [(bU s).lead] [],dW s)
  else if(bU s).text=Sk then(.node 7 [] [(bU s).lead] [],dW s)
  else if(bU s).text=[91]then
   (.node 8 [] [(bU s).lead,(fO [93] (Cf n<|dW s).2).1] [(Cf n<|dW s).1],(fO [93] (Cf n<|dW s).2).2)
  else(.node 9 (uG 2 4 s).1 [(uG 2 4 s).2.1] [],(uG 2 4 s).2.2)
def KT(n:Nat)(s0:PS):Tree×PS:=
 let a:=fO OG s0
 let b:=uG 2 2 a.2
 let c:=fO [61] b.2.2
 let t:=Cf n c.2
 (.node 3 b.1 [a.1,b.2.1,c.1] [t.1],t.2)
def RZ(n:Nat)(s0:PS):Tree×PS:=
 let b:=uG 1 1 s0
 let c:=fO [58] b.2.2
 let t:=Cf n c.2
 (.node 4 b.1 [b.2.1,c.1] [t.1],t.2)
def commaF(item:PS->Tree×PS)(most:Nat)(beg:TokZ->Bool):Nat->List YB->YT->PS->List YB×YT×PS
 |0,cs,ks,s=>(cs,ks,s)
 | m+1,cs,ks,s=>
  if(bU s).text=[44]then
   let s2:=if ks.length=most∧beg (bU<|dW s)=true then zl 3 (dW s)else dW s
   commaF item most beg m (cs++[(bU s).lead]) (ks++[(item s2).1]) (item s2).2
  else(cs,ks,s)
def Tt(E:PS->Tree×PS)(s:PS):Tree×PS:=(.node 17 [] [] [(E s).1],(E s).2)
def QD(item:PS->Tree×PS)(most:Nat)(beg:TokZ->Bool)(s:PS):List YB×YT×PS:=
 if(bU s).text=[41]then([],[],s)else commaF item most beg ((item s).2.toks.length+1) [] [(item s).1] (item s).2
def Tx(E:PS->Tree×PS)(s0:PS):Tree×PS:=
 if(bU s0).kind=1∧¬(bU<|dW s0).text=[40]then(.node 12 (bU s0).text [(bU s0).lead] [],dW s0)
 else
  let a:=fO [40]<|dW s0
  let r:=QD (Tt E) 8 HK a.2
  let z:=fO [41] r.2.2
  (.node 16 (bU s0).text ([(bU s0).lead,a.1,z.1]++r.1) r.2.1,z.2)
def So(E:PS->Tree×PS)(s0:PS):Tree×PS:=
 let a:=fO [91] s0
 let r:=commaF E 16 HK ((E a.2).2.toks.length+1) [] [(E a.2).1] (E a.2).2
 let z:=fO [93] r.2.2
 (.node 18 [] ([a.1,z.1]++r.1) r.2.1,z.2)
def Qo(E:PS->Tree×PS)(s0:PS):Tree×PS:=
 let e:=E<|dW s0
 let z:=fO [41] e.2
 (.node 22 [] [(bU s0).lead,z.1] [e.1],z.2)
def Dy(E:PS->Tree×PS)(s:PS):Tree×PS:=
 let t:=bU s
 if t.kind=1∨t.kind=3 then Tx E s
 else if t.text=Oq then(.node 13 [] [t.lead] [],dW s)
 else if t.text=KP then(.node 14 [] [t.lead] [],dW s)
 else if t.text=[63]then(.node 15 [] [t.lead] [],dW s)
 else if t.text=[91]then So E s
 else if t.text=[40]then Qo E s
 else if t.kind=5 then(.node 10 t.text [t.lead] [],dW s)
 else if t.kind=6 then(.node 11 t.text [t.lead] [],dW s)
 else(qw,zl 2 s)
def Rv(U:PS->Tree×PS):Nat->Tree->PS->Tree×PS
 |0,t,s=>(t,s)
 |m+1,t,s=>
  if SH (bU s).text=true then Rv U m (.node 21 (bU s).text [(bU s).lead] [t,(U<|dW s).1]) (U<|dW s).2
  else(t,s)
def Ts(E:PS->Tree×PS)(s0:PS):Tree×PS:=
 let b:=uG 1 1<|dW s0
 let c:=fO [61] b.2.2
 let x:=E c.2
 let d:=fO wIn x.2
 let y:=E d.2
 (.node 20 b.1 [(bU s0).lead,b.2.1,c.1,d.1] [x.1,y.1],y.2)
def ifF(E:PS->Tree×PS)(s0:PS):Tree×PS:=
 let x:=E<|dW s0
 let c:=fO SM x.2
 let y:=E c.2
 let d:=fO Ss y.2
 let z:=E d.2
 (.node 19 [] [(bU s0).lead,c.1,d.1] [x.1,y.1,z.1],z.2)
def Si(E:PS->Tree×PS)(s:PS):Tree×PS:=
 if(bU s).text=RN then Ts E s
 else if(bU s).text=wIf then ifF E s
 else Rv (Dy E) ((Dy E s).2.toks.length+1) (Dy E s).1 (Dy E s).2
def OA:Nat->PS->Tree×PS
 |0,s=>(qw,s)
 |n+1,s=>Si (OA n) s
def Cx(n:Nat)(s0:PS):Tree×PS:=
 let a:=fO Ml s0
 let b:=uG 1 1 a.2
 let c:=fO [40] b.2.2
 let r:=QD (RZ n) 8 (λt=>t.kind==1) c.2
 let d:=fO [41] r.2.2
 let e:=fO [58] d.2
 let t:=Cf n e.2
 let g:=fO [61] t.2
 let x:=OA n g.2
 (.node 2 b.1 ([a.1,b.2.1,c.1,d.1,e.1,g.1]++r.1) (r.2.1++[t.1,x.1]),x.2)
def Bs(n:Nat):Nat->YT->PS->YT×PS
 |0,ks,s=>(ks,s)
 |m+1,ks,s=>
  if s.toks=[]then(ks,s)
  else if¬(bU s).text=Ml∧¬(bU s).text=OG then Bs n m ks (zl 2 s)
  else if ks.length=40 then Bs n m ks (zl 3 s)
  else if(bU s).text=Ml then Bs n m (ks++[(Cx n s).1]) (Cx n s).2
  else Bs n m (ks++[(KT n s).1]) (KT n s).2
def Sd(n:Nat)(s0:PS):Tree×PS:=
 let a:=fO Pb s0
 let b:=uG 2 2 a.2
 let r:=Bs n (b.2.2.toks.length+2) [] b.2.2
 (.node 1 b.1 [a.1,b.2.1,[]] r.1,r.2)
mutual
def depthT:Tree->Nat
 |.node _ _ _ ks=>depthsT ks+1
def depthsT:YT->Nat
 |[]=>0
 |t::r=>max (depthT t)<|depthsT r
end
def Ra(toks:List TokZ)(size:Nat):PS:=⟨toks,match toks with|[]=>size|t::_=>t.lead.length,size,0,0⟩
def Rl(l:YB):Tree×Nat×Nat:=
 let r:=fj l
 if¬r.err=0 then(qw,r.place,r.err)
 else
  let f:=Sd (r.toks.length+1)<|Ra r.toks l.length
  if¬f.2.failed=0 then(qw,f.2.place,f.2.failed)
  else if 40<depthT f.1 then(qw,0,4)
  else(.node f.1.kind f.1.text (f.1.leads.set 2 r.tail) f.1.kids,0,0)
end Go.Proofs.YtehhanlhfdoiaaaGreat.Sx
namespace Go.Proofs.YtehhanlhfdoiaaaGreat
open _root_.Go.Proofs.Tryz
open Go.RowKit Lx Sx
abbrev kK(l:YB):Value:=.string ⟨l.toArray⟩
def RowIn(S:Nat->Prop)(w:World)(size:Nat)(A:Option Addr)(n:Nat)(xs:List Value):Prop:=
 xs.length=n*size∧(0<n->∃b off,A=some ⟨b,off,none⟩∧S b∧b<w.heap.size∧∀j,j<n*size->w.cell? ⟨b,off+j,none⟩=xs[j]?)
mutual
def TreeIs(S:Nat->Prop)(w:World):Tree->List Value->Prop
 |.node k s ls ks,c=>∃A m B n,c=[.int .i64 k,kK s,.slice A ls.length m,.slice B ks.length n]∧ls.length<=m∧m<=maxLen∧ks.length<=n∧n<=maxLen∧
  RowIn S w 1 A ls.length (ls.map kK)∧∃cs,KidsAre S w ks cs∧RowIn S w 4 B ks.length cs
def KidsAre(S:Nat->Prop)(w:World):YT->List Value->Prop
 |[],cs=>cs=[]
 |t::r,cs=>∃c d,cs=c++d∧TreeIs S w t c∧KidsAre S w r d
end
variable{A:Option Addr}
variable{n:Nat}{xs:List Value}
variable{m:Nat}
section
variable{S S':Nat->Prop}{w w':World}
theorem RowIn.none_{size:Nat}:RowIn S w size A 0 []:=⟨by simp,λh=>absurd h<|by omega⟩
theorem RowIn.keepB{size:Nat}(h:RowIn S w size A n xs)(G:∀b,S b->b<w.heap.size->S' b)(J:∀b,S b->b<w.heap.size->w'.heap[b]?=w.heap[b]?):RowIn S' w' size A n xs:=by
 refine⟨h.1,λhn=>?_⟩;obtain⟨b,off,e,hs,hb,U⟩:=h.2 hn;have E:=J b hs hb;refine⟨b,off,e,G b hs hb,?_,λj Z=>?_⟩
 ·rcases Nat.lt_or_ge b w'.heap.size with h1|h1
  ·exact h1
  ·rw[Array.getElem?_eq_none h1,Array.getElem?_eq_getElem hb]at E;cases E
 ·rw[<-U j Z];exact World.cell?_of_block (a:=⟨b,off+j,none⟩) E
theorem RowIn.keep{size:Nat}(h:RowIn S w size A n xs)(G:∀b,S b->S' b)(J:∀b,S b->b<w.heap.size->w'.heap[b]?=w.heap[b]?):RowIn S' w' size A n xs:=by
 refine⟨h.1,λhn=>?_⟩;obtain⟨b,off,e,hs,hb,U⟩:=h.2 hn;have E:=J b hs hb;refine⟨b,off,e,G b hs,?_,λj Z=>?_⟩
 ·rcases Nat.lt_or_ge b w'.heap.size with h1|h1
  ·exact h1
  ·rw[Array.getElem?_eq_none h1,Array.getElem?_eq_getElem hb]at E;cases E
 ·rw[<-U j Z];exact World.cell?_of_block (a:=⟨b,off+j,none⟩) E
mutual
theorem TreeIs.keepB(hS:∀b,S b->b<w.heap.size->S' b)(hk:∀b,S b->b<w.heap.size->w'.heap[b]?=w.heap[b]?):∀{t:Tree} {c:List Value},TreeIs S w t c->TreeIs S' w' t c
 |.node k s ls ks,c,h=>by simp only[TreeIs]at h⊢;obtain⟨A,m,B,n,e,h1,h2,h3,h4,h5,cs,h6,h7⟩:=h;exact⟨A,m,B,n,e,h1,h2,h3,h4,h5.keepB hS hk,cs,KidsAre.keepB hS hk h6,h7.keepB hS hk⟩
theorem KidsAre.keepB(hS:∀b,S b->b<w.heap.size->S' b)(hk:∀b,S b->b<w.heap.size->w'.heap[b]?=w.heap[b]?):∀{ts:YT} {cs:List Value},KidsAre S w ts cs->KidsAre S' w' ts cs
 |[],cs,h=>by simp only[KidsAre]at h⊢;exact h
 |t::r,cs,h=>by simp only[KidsAre]at h⊢;obtain⟨c,d,e,h1,h2⟩:=h;exact⟨c,d,e,TreeIs.keepB hS hk h1,KidsAre.keepB hS hk h2⟩
end
theorem TreeIs.four{t:Tree}{c:List Value}(h:TreeIs S w t c):c.length=4:=by cases t;simp only[TreeIs]at h;obtain⟨A,m,B,n,e,_⟩:=h;rw[e];rfl
theorem KidsAre.at_:∀{ts:YT} {cs:List Value} {i:Nat},KidsAre S w ts cs->(hi:i<ts.length)->∃c0 E G J,TreeIs S w ts[i] [c0,E,G,J]∧cs[i*4]?=some c0∧cs[i*4+1]?=some E∧cs[i*4+2]?=some G∧cs[i*4+3]?=some J
 |t::r,cs,0,h,hi=>by
  simp only[KidsAre]at h;obtain⟨c,d,e,h1,h2⟩:=h;have U:=h1.four
  match c,U,h1,e with
  |[c0,E,G,J],_,h1,e=>exact⟨c0,E,G,J,h1,by simp[e],by simp[e],by simp[e],by simp[e]⟩
 |t::r,cs,i+1,h,hi=>by
  simp only[KidsAre]at h;obtain⟨c,d,e,h1,h2⟩:=h;have U:=h1.four;obtain⟨c0,E,G,J,g,g0,g1,g2,Z⟩:=KidsAre.at_ (i:=i) h2 (by simpa using hi);refine⟨c0,E,G,J,by simpa using g,?_,?_,?_,?_⟩
  ·rw[e,List.getElem?_append_right (by omega),show(i+1)*4-c.length=i*4 by omega];exact g0
  ·rw[e,List.getElem?_append_right (by omega),show(i+1)*4+1-c.length=i*4+1 by omega];exact g1
  ·rw[e,List.getElem?_append_right (by omega),show(i+1)*4+2-c.length=i*4+2 by omega];exact g2
  ·rw[e,List.getElem?_append_right (by omega),show(i+1)*4+3-c.length=i*4+3 by omega];exact Z
abbrev Any:Nat->Prop:=λ_=>True
theorem Pk{k:Int}{s:YB}{ls:List YB}{ks:YT}{A B:Option Addr}{cs:List Value}(h1:ls.length<=m)(h2:m<=maxLen)(E:ks.length<=n)(G:n<=maxLen)
  (J:RowIn S w 1 A ls.length<|ls.map kK) (U:KidsAre S w ks cs) (Z:RowIn S w 4 B ks.length cs):TreeIs S w (.node k s ls ks) [.int .i64 k,kK s,.slice A ls.length m,.slice B ks.length n]:=by
 simp only[TreeIs];exact⟨A,m,B,n,I,h1,h2,E,G,J,cs,U,Z⟩
theorem TreeIs.one{t:Tree}{c:List Value}(h:TreeIs S w t c):c.all (·.oneCell')=true:=by cases t;simp only[TreeIs]at h;obtain⟨A,m,B,n,e,_⟩:=h;rw[e];rfl
end
open Go.RowKit
inductive MK where
 |row
 |ix (i:Nat)
 |mp (i:Nat)
inductive V where
 |int (k:IntKind) (n:Int)
 |bool (b:Bool)
 |str (l:List UInt8)
 |nilp
 |nils
 |raw (x:Value)
 |ptr (id off:Nat)
 |el (id sz i off:Nat)
 |sl (id:Nat)
 |box (cs:List V) (off:Nat)
 |row (sz:Nat) (els:List V)
 |agg (cs:List V)
 |tup (vs:List V)
 |clo (fid:FuncId) (cs:List V)
 |lk (els:List (List V))
 |np (id:Nat)
 |mm (id:Nat) (k:MK)
abbrev qi(n:Int):V:=.int .i64 n
inductive Ob where
 |free
 |gone
 |var (t:TypeId) (cs:List V)
 |row (e:TypeId) (sz:Nat) (els:List V)
 |ext (bs:List Nat) (Φ:World->Prop)
 |mp (kt et:TypeId) (ks vs:List V)
 |mps (e kt et:TypeId) (ms:List (List V×List V))
def Value.blk:Value->Option Nat
 |.pointer (some a)=>some a.block
 |_=>none
def mmV(x:Option Value)(k:MK):Option Value:=match x with
 |some (.tuple xs)=>match k with
  |.row=>xs[0]?
  |.mp i=>xs[i+1]?
  |.ix i=>match(xs[0]?:Option Value)with
   |some (Value.slice (some ⟨b,0,none⟩) _ _)=>some<|.pointer<|some ⟨b,i,none⟩
   |_=>none
 |_=>none
theorem DO{x:Option Value}{k:MK}{y:Value}(h:mmV x k=some y):∃z,x=some z:=by
 cases x with
 |none=>simp[mmV]at h
 |some z=>exact⟨z,rfl⟩
abbrev ρ0:Nat->Option Value:=λ_=>none
section
variable(S:Nat->Prop)(w:World)
mutual
def VRel(ρ:Nat->Option Value):V->Value->Prop
 |.int k n,x=>x=.int k n
 |.bool b,x=>x=.bool b
 |.str l,x=>x=.string ⟨l.toArray⟩
 |.nilp,x=>x=.pointer none
 |.nils,x=>x=.slice none 0 0
 |.raw y,x=>x=y∧y.oneCell'=true
 |.ptr id o,x=>∃b,ρ id=some (.pointer<|some ⟨b,0,none⟩)∧x=.pointer (some ⟨b,o,none⟩)
 |.el id sz i o,x=>∃b n c,ρ id=some (.slice (some ⟨b,0,none⟩) n c)∧x=.pointer (some ⟨b,i*sz+o,none⟩)
 |.sl id,x=>ρ id=some x∧x.oneCell'=true
 |.box cs o,x=>∃b off xs,x=.pointer (some ⟨b,off+o,none⟩)∧S b∧b<w.heap.size∧LRel ρ0 cs xs∧∀j,j<xs.length->w.cell? ⟨b,off+j,none⟩=xs[j]?
 |.row sz els,x=>∃A c xs,x=.slice A els.length c∧els.length<=c∧c<=maxLen∧CRel ρ0 sz els xs∧RowIn S w sz A els.length xs
 |.agg cs,x=>∃xs,x=.agg xs.toArray∧LRel ρ cs xs
 |.tup cs,x=>∃xs,x=.tuple xs.toArray∧LRel ρ cs xs
 |.clo fid cs,x=>∃xs,x=.func (.func fid) #[] xs.toArray∧LRel ρ cs xs
 |.lk els,x=>KRel els x
 |.np id,x=>x=.pointer none∨∃b,ρ id=some (.pointer<|some ⟨b,0,none⟩)∧x=.pointer (some ⟨b,0,none⟩)
 |.mm id k,x=>mmV (ρ id) k=some x∧x.oneCell'=true
def LRel(ρ:Nat->Option Value):List V->List Value->Prop
 |[],xs=>xs=[]
 |v::r,xs=>∃x ys,xs=x::ys∧VRel ρ v x∧LRel ρ r ys
def KRel:List (List V)->Value->Prop
 |[],x=>x=.pointer none
 |cs::r,x=>∃b off xs y,x=.pointer (some ⟨b,off,none⟩)∧S b∧b<w.heap.size∧LRel ρ0 cs xs∧KRel r y∧y.oneCell'=true∧∀j,j<xs.length+1->w.cell? ⟨b,off+j,none⟩=(xs++[y])[j]?
def CRel(ρ:Nat->Option Value)(sz:Nat):List V->List Value->Prop
 |[],xs=>xs=[]
 |v::r,xs=>∃x ys,xs=x.cells.toList++ys∧(x.cells.size=sz∧x.cells.toList.all (·.oneCell')=true)∧VRel ρ v x∧CRel ρ sz r ys
end
end
structure Up (S S':Nat->Prop) (w w':World) (ρ ρ':Nat->Option Value):Prop where
 s:∀b,S b->S' b
 blk:∀b,S b->b<w.heap.size->w'.heap[b]?=w.heap[b]?
 r:∀i x,ρ i=some x->ρ' i=some x
variable{b:Nat}
variable{i:Nat}
variable{ρ:Nat->Option Value}
section
variable{S S':Nat->Prop}{w w':World}
section
variable{ρ ρ':Nat->Option Value}
theorem Up.refl:Up S S w w ρ ρ:=⟨λ_ h=>h,λ_ _ _=>rfl,λ_ _ h=>h⟩
theorem Up.lt(u:Up S S' w w' ρ ρ')(hs:S b)(hb:b<w.heap.size):b<w'.heap.size:=by
 have E:=u.blk b hs hb;rcases Nat.lt_or_ge b w'.heap.size with h1|h1
 ·exact h1
 ·rw[Array.getElem?_eq_none h1,Array.getElem?_eq_getElem hb]at E;cases E
theorem Up.cell(u:Up S S' w w' ρ ρ')(hs:S b)(hb:b<w.heap.size):w'.cell? ⟨b,i,none⟩=w.cell? ⟨b,i,none⟩:=
 World.cell?_of_block (a:=⟨b,i,none⟩) (u.blk b hs hb)
end
theorem Up.z{ρ':Nat->Option Value}(u:Up S S' w w' ρ ρ'):Up S S' w w' ρ0 ρ0:=⟨u.s,u.blk,λ_ _ h=>h⟩
mutual
theorem VRel.up{ρ ρ':Nat->Option Value}(u:Up S S' w w' ρ ρ'):∀{v:V} {x:Value},VRel S w ρ v x->VRel S' w' ρ' v x
 |.int _ _,x,h=>by simp only[VRel]at h⊢;exact h
 |.bool _,x,h=>by simp only[VRel]at h⊢;exact h
 |.str _,x,h=>by simp only[VRel]at h⊢;exact h
 |.nilp,x,h=>by simp only[VRel]at h⊢;exact h
 |.nils,x,h=>by simp only[VRel]at h⊢;exact h
 |.raw _,x,h=>by simp only[VRel]at h⊢;exact h
 |.ptr id o,x,h=>by simp only[VRel]at h⊢;obtain⟨b,h1,h2⟩:=h;exact⟨b,u.r _ _ h1,h2⟩
 |.el id sz i o,x,h=>by simp only[VRel]at h⊢;obtain⟨b,n,c,h1,h2⟩:=h;exact⟨b,n,c,u.r _ _ h1,h2⟩
 |.sl id,x,h=>by simp only[VRel]at h⊢;exact⟨u.r _ _ h.1,h.2⟩
 |.box cs o,x,h=>by
  simp only[VRel]at h⊢;obtain⟨b,off,xs,h1,h2,h3,h4,h5⟩:=h;exact⟨b,off,xs,h1,u.s b h2,u.lt h2 h3,LRel.up u.z h4,λj hj=>(u.cell h2 h3).trans<|h5 j hj⟩
 |.row sz els,x,h=>by simp only[VRel]at h⊢;obtain⟨A,c,xs,h1,h2,h3,h4,h5⟩:=h;exact⟨A,c,xs,h1,h2,h3,CRel.up u.z h4,h5.keep u.s u.blk⟩
 |.agg cs,x,h=>by simp only[VRel]at h⊢;obtain⟨xs,h1,h2⟩:=h;exact⟨xs,h1,LRel.up u h2⟩
 |.tup cs,x,h=>by simp only[VRel]at h⊢;obtain⟨xs,h1,h2⟩:=h;exact⟨xs,h1,LRel.up u h2⟩
 |.clo fid cs,x,h=>by simp only[VRel]at h⊢;obtain⟨xs,h1,h2⟩:=h;exact⟨xs,h1,LRel.up u h2⟩
 |.lk els,x,h=>by simp only[VRel]at h⊢;exact KRel.up u h
 |.np id,x,h=>by simp only[VRel]at h⊢;exact h.imp_right λ⟨b,h1,h2⟩=>⟨b,u.r _ _ h1,h2⟩
 |.mm id k,x,h=>by simp only[VRel]at h⊢;obtain⟨z,hz⟩:=DO h.1;rw[u.r _ _ hz];rw[hz]at h;exact h
theorem KRel.up{ρ ρ':Nat->Option Value}(u:Up S S' w w' ρ ρ'):∀{els:List<|List V} {x:Value},KRel S w els x->KRel S' w' els x
 |[],x,h=>by simp only[KRel]at h⊢;exact h
 |cs::r,x,h=>by
  simp only[KRel]at h⊢;obtain⟨b,off,xs,y,h1,h2,h3,h4,h5,h6,h7⟩:=h;exact⟨b,off,xs,y,h1,u.s b h2,u.lt h2 h3,LRel.up u.z h4,KRel.up u h5,h6,λj hj=>(u.cell h2 h3).trans<|h7 j hj⟩
theorem LRel.up{ρ ρ':Nat->Option Value}(u:Up S S' w w' ρ ρ'):∀{v:List V} {x:List Value},LRel S w ρ v x->LRel S' w' ρ' v x
 |[],x,h=>by simp only[LRel]at h⊢;exact h
 |v::r,x,h=>by simp only[LRel]at h⊢;obtain⟨y,ys,h1,h2,h3⟩:=h;exact⟨y,ys,h1,VRel.up u h2,LRel.up u h3⟩
theorem CRel.up{ρ ρ':Nat->Option Value}(u:Up S S' w w' ρ ρ'){sz:Nat}:∀{v:List V} {x:List Value},CRel S w ρ sz v x->CRel S' w' ρ' sz v x
 |[],x,h=>by simp only[CRel]at h⊢;exact h
 |v::r,x,h=>by simp only[CRel]at h⊢;obtain⟨y,ys,h1,h2,h3,h4⟩:=h;exact⟨y,ys,h1,h2,VRel.up u h3,CRel.up u h4⟩
end
end
section
variable(S:Nat->Prop)(w:World)(ρ:Nat->Option Value)
def own(id:Nat):Ob->Nat->Prop
 |.free,_=>False
 |.gone,_=>False
 |.var _ _,b=>ρ id=some (.pointer<|some ⟨b,0,none⟩)
 |.row _ _ _,b=>∃v,ρ id=some v∧v.ownBlock=some b
 |.ext bs _,b=>b∈bs
 |.mp _ _ _ _,b=>ρ id=some (.map<|some b)
 |.mps _ _ _ _,b=>∃xs:Array Value,ρ id=some (.tuple xs)∧((∃v,xs[0]?=some v∧v.ownBlock=some b)∨∃i,xs[i+1]?=some (Value.map<|some b))
def LS(bs:YN)(ms:List<|List V×List V):Prop:=bs.length=ms.length∧∀(i b:Nat) (m:List V×List V),bs[i]?=some b->ms[i]?=some m->∃es clock,w.heap[b]?=some (.map es clock)∧LRel S w ρ0 m.1 (es.toList.map (·.key))∧LRel S w ρ0 m.2 (es.toList.map (·.val))
def mpV(bs:YN):List Value:=bs.map λb=>Value.map<|some b
def eK(id:Nat):Ob->Prop
 |.free=>ρ id=none
 |.gone=>True
 |.var t cs=>∃b xs,ρ id=some (.pointer<|some ⟨b,0,none⟩)∧Blk w b t xs∧LRel S w ρ cs xs
 |.row e sz els=>∃v xs,ρ id=some v∧w.ownsRow 0 e sz v els.length xs∧CRel S w ρ sz els xs
 |.ext bs Φ=>Φ w∧(∀b,b∈bs->b<w.heap.size)∧∀w',(∀b,b∈bs->w'.heap[b]?=w.heap[b]?)->Φ w'
 |.mp _ _ ks vs=>∃b es clock,ρ id=some (.map<|some b)∧w.heap[b]?=some (.map es clock)∧LRel S w ρ0 ks (es.toList.map (·.key))∧LRel S w ρ0 vs (es.toList.map (·.val))
 |.mps e _ _ ms=>∃v bs,ρ id=some (.tuple (v::mpV bs).toArray)∧w.ownsRow 0 e 1 v ms.length (mpV bs)∧bs.Nodup∧(∀b∈bs,v.ownBlock≠some b)∧LS S w bs ms
def Dw:List (Nat×List V):=[]
structure SOk:Prop where
 lt:∀b,S b->b<w.heap.size
 gl:∀p∈Dw,VRel S w ρ0 (.box p.2 0) (.pointer (some ⟨p.1,0,none⟩))
structure HRel (h:Nat->Ob):Prop where
 ob:∀id,eK S w ρ id (h id)
 sep:∀id b,own ρ id (h id) b->¬S b
 dis:∀i j b,own ρ i (h i) b->own ρ j (h j) b->i=j
 slt:SOk S w
end
instance slt_fun {S:Nat->Prop} {w:World}:CoeFun (SOk S w) (λ_=>∀b,S b->b<w.heap.size):=⟨SOk.lt⟩
theorem SOk.up{S S':Nat->Prop}{w w':World}{ρ':Nat->Option Value}(h:SOk S w)(u:Up S S' w w' ρ ρ')(hl:∀b,S' b->b<w'.heap.size):SOk S' w':=⟨hl,λp hp=>VRel.up u.z<|h.gl p hp⟩
variable{base sz:Nat}
variable{v:V}
section
variable{S S':Nat->Prop}{w w':World}{ρ ρ':Nat->Option Value}{h h':Nat->Ob}
theorem cf{e:Nat}{v:Value}(ho:w.ownsRow base e sz v n xs)(E:∀b,v.ownBlock=some b->w'.heap[b]?=w.heap[b]?):w'.ownsRow base e sz v n xs:=by
 refine⟨ho.1,?_⟩;rcases ho.2 with G|⟨g,cap,cur,rfl,hb,J,U⟩
 ·exact .inl G
 ·exact .inr ⟨g,cap,cur,I,hb,(E g I).trans J,U⟩
theorem cY{id:Nat}{o:Ob}(ho:eK S w ρ id o)(hb:own ρ id o b):b<w.heap.size:=by
 cases o with
 |free=>exact hb.elim
 |gone=>exact hb.elim
 |var t cs=>
  obtain⟨b',xs,h1,h2,_⟩:=ho;simp only[own]at hb;rw[h1]at hb;simp only[aaa,Value.pointer.injEq,Addr.mk.injEq,and_true]at hb;subst hb;exact h2.lt
 |row e sz els=>
  obtain⟨v,xs,h1,h2,_⟩:=ho;obtain⟨v',h3,h4⟩:=hb;rw[h1]at h3;simp only[aaa]at h3;subst h3;exact(h2.lt b h4).2
 |ext bs Φ=>exact ho.2.1 b hb
 |mp kt et ks vs=>
  obtain⟨b',es,ck,h1,h2,_⟩:=ho;simp only[own]at hb;rw[h1]at hb;simp only[aaa,Value.map.injEq]at hb;subst hb;rcases Nat.lt_or_ge b' w.heap.size with h3|h3
  ·exact h3
  ·rw[Array.getElem?_eq_none h3]at h2;cases h2
 | mps e kt et ms=>
  obtain⟨v,bs,h1,h2,_,_,h3,h4⟩:=ho;simp only[own]at hb;obtain⟨xs,h5,h6⟩:=hb;rw[h1]at h5;simp only[aaa,Value.tuple.injEq]at h5;subst h5;rcases h6 with⟨v',h7,h8⟩|⟨i,h7⟩
  ·simp only[List.getElem?_toArray,List.getElem?_cons_zero,aaa]at h7;subst h7;exact(h2.lt b h8).2
  ·simp only[List.getElem?_toArray,List.getElem?_cons_succ,mpV,List.getElem?_map,Option.map_eq_some_iff,Value.map.injEq,aaa]at h7;obtain⟨b',h8,rfl⟩:=h7;have hi:i<ms.length:=by rw[<-h3];exact(List.getElem?_eq_some_iff.1 h8).1
   obtain⟨es,ck,h9,_⟩:=h4 i b' _ h8<|List.getElem?_eq_getElem hi;rcases Nat.lt_or_ge b' w.heap.size with h10|h10
   ·exact h10
   ·rw[Array.getElem?_eq_none h10]at h9;cases h9
theorem eK.up{id:Nat}{o:Ob}(u:Up S S' w w' ρ ρ')(hf:o=.free->ρ' id=none)(ho:eK S w ρ id o)(G:∀b,own ρ id o b->w'.heap[b]?=w.heap[b]?):eK S' w' ρ' id o:=by
 cases o with
 |free=>exact hf rfl
 |gone=>trivial
 |var t cs=>
  obtain⟨b',xs,h1,h2,E⟩:=ho;exact⟨b',xs,u.r _ _ h1,(G b' h1).trans h2,LRel.up u E⟩
 |row e sz els=>
  obtain⟨v,xs,h1,h2,E⟩:=ho;exact⟨v,xs,u.r _ _ h1,cf h2 λb hb=>G b ⟨v,h1,hb⟩,CRel.up u E⟩
 |mp kt et ks vs=>
  obtain⟨b',es,ck,h1,h2,E,J⟩:=ho;exact⟨b',es,ck,u.r _ _ h1,(G b' h1).trans h2,LRel.up u.z E,LRel.up u.z J⟩
 |mps e kt et ms=>
  obtain⟨v,bs,h1,h2,Z,h6,E,J⟩:=ho;have e0:(v::mpV bs).toArray[0]?=some v:=by simp
  refine⟨v,bs,u.r _ _ h1,cf h2 λb hb=>G b ⟨_,h1,.inl ⟨v,e0,hb⟩⟩,Z,h6,E,λi b m hb hm=>?_⟩;obtain⟨es,ck,g1,g2,g3⟩:=J i b m hb hm;exact⟨es,ck,(G b ⟨_,h1,.inr ⟨i,by simp[mpV,hb]⟩⟩).trans g1,LRel.up u.z g2,LRel.up u.z g3⟩
 |ext bs Φ=>
  obtain⟨h1,h2,E⟩:=ho;refine⟨E _ G,λb hb=>?_,λw'' h'=>E w'' λb hb=>(h' b hb).trans<|G b hb⟩;have U:=G b hb;rcases Nat.lt_or_ge b w'.heap.size with J|J
  ·exact J
  ·rw[Array.getElem?_eq_none J,Array.getElem?_eq_getElem<|h2 b hb]at U;cases U
theorem Ej{id:Nat}{o:Ob}(hr:∀i x,ρ i=some x->ρ' i=some x)(ho:eK S w ρ id o)(hb:own ρ' id o b):own ρ id o b:=by
 cases o with
 |free=>exact hb
 |gone=>exact hb
 |var t cs=>
  obtain⟨b',xs,h1,h2,G⟩:=ho;have :=hr _ _ h1;simp only[own]at hb⊢;rw[this]at hb;rw[h1];exact hb
 |row e sz els=>
  obtain⟨v,xs,h1,h2,G⟩:=ho;obtain⟨U,E,J⟩:=hb;rw[hr _ _ h1]at E;simp only[aaa]at E;subst E;exact⟨v,h1,J⟩
 |ext bs Φ=>exact hb
 |mp kt et ks vs=>
  obtain⟨b',es,ck,h1,h2,G⟩:=ho;have :=hr _ _ h1;simp only[own]at hb⊢;rw[this]at hb;rw[h1];exact hb
 |mps e kt et ms=>
  obtain⟨v,bs,h1,_⟩:=ho;have :=hr _ _ h1;simp only[own]at hb⊢;rw[this]at hb;rw[h1];exact hb
theorem LRel.length:∀{vs:List V} {xs:List Value},LRel S w ρ vs xs->xs.length=vs.length
 |[],xs,h=>by simp only[LRel]at h;simp[h]
 |v::r,xs,h=>by simp only[LRel]at h;obtain⟨x,ys,rfl,_,E⟩:=h;simp[LRel.length E]
theorem LRel.get:∀{vs:List V} {xs:List Value} {i:Nat} {v:V},LRel S w ρ vs xs->vs[i]?=some v->∃x,xs[i]?=some x∧VRel S w ρ v x
 |[],xs,i,v,h,hi=>by simp at hi
 |u::r,xs,0,v,h,hi=>by simp only[LRel]at h;obtain⟨x,ys,rfl,h2,E⟩:=h;simp only[List.getElem?_cons_zero,aaa]at hi;subst hi;exact⟨x,by simp,h2⟩
 |u::r,xs,i+1,v,h,hi=>by simp only[LRel]at h;obtain⟨x,ys,rfl,h2,E⟩:=h;simp only[List.getElem?_cons_succ]at hi⊢;exact LRel.get E hi
theorem LRel.set:∀{vs:List V} {xs:List Value} {i:Nat} {v:V} {x:Value},LRel S w ρ vs xs->VRel S w ρ v x->LRel S w ρ (vs.set i v) (xs.set i x)
 |[],xs,i,v,x,h,hx=>by simp only[LRel]at h;subst h;simp[LRel]
 |u::r,xs,0,v,x,h,hx=>by simp only[LRel]at h;obtain⟨y,ys,rfl,h2,E⟩:=h;exact⟨x,ys,by simp,hx,E⟩
 |u::r,xs,i+1,v,x,h,hx=>by simp only[LRel]at h;obtain⟨y,ys,rfl,h2,E⟩:=h;exact⟨y,ys.set i x,by simp,h2,LRel.set E hx⟩
theorem LRel.append:∀{vs us:List V} {xs ys:List Value},LRel S w ρ vs xs->LRel S w ρ us ys->LRel S w ρ (vs++us) (xs++ys)
 |[],us,xs,ys,h,E=>by simp only[LRel]at h;subst h;simpa using E
 |v::r,us,xs,ys,h,E=>by simp only[LRel]at h;obtain⟨y,zs,rfl,h2,G⟩:=h;exact⟨y,zs++ys,by simp,h2,LRel.append G E⟩
theorem LRel.drop:∀{vs:List V} {xs:List Value} (n:Nat),LRel S w ρ vs xs->LRel S w ρ (vs.drop n) (xs.drop n)
 |vs,xs,0,h=>by simpa using h
 |[],xs,n+1,h=>by simp only[LRel]at h;subst h;simp[LRel]
 |v::r,xs,n+1,h=>by simp only[LRel]at h;obtain⟨y,zs,rfl,h2,E⟩:=h;simpa using LRel.drop n E
theorem LRel.take:∀{vs:List V} {xs:List Value} (n:Nat),LRel S w ρ vs xs->LRel S w ρ (vs.take n) (xs.take n)
 |vs,xs,0,h=>by simp[LRel]
 |[],xs,n+1,h=>by simp only[LRel]at h;subst h;simp[LRel]
 |v::r,xs,n+1,h=>by simp only[LRel]at h;obtain⟨y,zs,rfl,h2,E⟩:=h;exact⟨y,zs.take n,by simp,h2,LRel.take n E⟩
theorem CRel.length{sz:Nat}:∀{vs:List V} {xs:List Value},CRel S w ρ sz vs xs->xs.length=vs.length*sz
 |[],xs,h=>by simp only[CRel]at h;simp[h]
 |v::r,xs,h=>by simp only[CRel]at h;obtain⟨x,ys,rfl,⟨h2,_⟩,G,E⟩:=h;have :=CRel.length E;simp[this,h2,Nat.add_mul];omega
theorem CRel.get{sz:Nat}:∀{vs:List V} {xs:List Value} {i:Nat} {v:V},CRel S w ρ sz vs xs->vs[i]?=some v->∃x,VRel S w ρ v x∧x.cells.size=sz∧∀j,j<sz->xs[i*sz+j]?=x.cells.toList[j]?
 |[],xs,i,v,h,hi=>by simp at hi
 |u::r,xs,0,v,h,hi=>by simp only[CRel]at h;obtain⟨x,ys,rfl,⟨h2,_⟩,E,G⟩:=h;simp only[List.getElem?_cons_zero,aaa]at hi;subst hi;exact⟨x,E,h2,λj J=>by rw[List.getElem?_append_left (by simp;omega)];simp⟩
 |u::r,xs,i+1,v,h,hi=>by
  simp only[CRel]at h;obtain⟨x,ys,rfl,⟨h2,_⟩,E,G⟩:=h;simp only[List.getElem?_cons_succ]at hi;obtain⟨y,g1,g2,U⟩:=CRel.get G hi;refine⟨y,g1,g2,λj J=>?_⟩;rw[List.getElem?_append_right (by simp[h2,Nat.add_mul];omega),<-U j J]
  congr 1
  simp[h2,Nat.add_mul];omega
theorem CRel.append{sz:Nat}:∀{vs us:List V} {xs ys:List Value},CRel S w ρ sz vs xs->CRel S w ρ sz us ys->CRel S w ρ sz (vs++us) (xs++ys)
 |[],us,xs,ys,h,E=>by simp only[CRel]at h;subst h;simpa using E
 |v::r,us,xs,ys,h,E=>by simp only[CRel]at h;obtain⟨y,zs,rfl,h2,G,J⟩:=h;exact⟨y,zs++ys,by simp,h2,G,CRel.append J E⟩
theorem CRel.drop{sz:Nat}:∀{vs:List V} {xs:List Value} (n:Nat),CRel S w ρ sz vs xs->CRel S w ρ sz (vs.drop n) (xs.drop<|n*sz)
 |vs,xs,0,h=>by simpa using h
 |[],xs,n+1,h=>by simp only[CRel]at h;subst h;simp[CRel]
 | v::r,xs,n+1,h=>by
  simp only[CRel]at h;obtain⟨y,zs,rfl,⟨h2,_⟩,h3,h4⟩:=h;have :=CRel.drop n h4;have e:(y.cells.toList++zs).drop ((n+1)*sz)=zs.drop (n*sz):=by
   rw[List.drop_append,List.drop_of_length_le<|by simp[h2,Nat.add_mul]];simp[h2,Nat.add_mul]
  rw[e];simpa using this
theorem CRel.take{sz:Nat}:∀{vs:List V} {xs:List Value} (n:Nat),CRel S w ρ sz vs xs->CRel S w ρ sz (vs.take n) (xs.take<|n*sz)
 |vs,xs,0,h=>by simp[CRel]
 |[],xs,n+1,h=>by simp only[CRel]at h;subst h;simp[CRel]
 | v::r,xs,n+1,h=>by
  simp only[CRel]at h;obtain⟨y,zs,rfl,⟨h2,h1⟩,h3,h4⟩:=h;have :=CRel.take n h4;have e:(y.cells.toList++zs).take ((n+1)*sz)=y.cells.toList++zs.take (n*sz):=by
   rw[List.take_append,List.take_of_length_le<|by simp[h2,Nat.add_mul]]
   congr 2
   simp[h2,Nat.add_mul]
  rw[e];exact⟨y,_,I,⟨h2,h1⟩,h3,this⟩
theorem CRel.ones{sz:Nat}:∀{vs:List V} {xs:List Value},CRel S w ρ sz vs xs->∀u∈xs,u.oneCell'=true
 |[],xs,h=>by simp only[CRel]at h;subst h;simp
 |v::r,xs,h=>by
  simp only[CRel]at h;obtain⟨x,ys,rfl,⟨h2,h1⟩,J,E⟩:=h;intro u G;rcases List.mem_append.1 G with h|h
  ·exact List.all_eq_true.1 h1 u h
  ·exact CRel.ones E u h
def V.one:V->Bool
 |.agg _=>false
 |.tup _=>false
 |_=>true
theorem VRel.one{x:Value}(hv:VRel S w ρ v x)(h1:v.one=true):x.oneCell'=true:=by
 cases v with
 |int _ _=>simp only[VRel]at hv;subst hv;rfl
 |bool _=>simp only[VRel]at hv;subst hv;rfl
 |str _=>simp only[VRel]at hv;subst hv;rfl
 |nilp=>simp only[VRel]at hv;subst hv;rfl
 |nils=>simp only[VRel]at hv;subst hv;rfl
 |np id=>simp only[VRel]at hv;rcases hv with rfl|⟨b,_,rfl⟩<;>rfl
 |mm id k=>simp only[VRel]at hv;exact hv.2
 |raw y=>simp only[VRel]at hv;obtain⟨rfl,h⟩:=hv;exact h
 |ptr id o=>simp only[VRel]at hv;obtain⟨b,_,rfl⟩:=hv;rfl
 |el id sz i o=>simp only[VRel]at hv;obtain⟨b,n,c,_,rfl⟩:=hv;rfl
 |sl id=>simp only[VRel]at hv;exact hv.2
 |box cs o=>simp only[VRel]at hv;obtain⟨b,off,xs,rfl,_⟩:=hv;rfl
 |row sz els=>simp only[VRel]at hv;obtain⟨A,c,xs,rfl,_⟩:=hv;rfl
 |agg cs=>cases h1
 |tup cs=>cases h1
 |clo fid cs=>simp only[VRel]at hv;obtain⟨xs,rfl,_⟩:=hv;rfl
 |lk els=>
  simp only[VRel]at hv;cases els with
  |nil=>simp only[KRel]at hv;subst hv;rfl
  |cons c r=>simp only[KRel]at hv;obtain⟨b,off,xs,y,rfl,_⟩:=hv;rfl
theorem up0:Up S S w w ρ0 ρ:=⟨λ_ h=>h,λ_ _ _=>rfl,λ_ _ h=>by cases h⟩
def V.cells:V->List V
 |.agg cs=>cs
 |v=>[v]
theorem VRel.cells{x:Value}(hv:VRel S w ρ v x):LRel S w ρ v.cells x.cells.toList:=by
 have one:∀{u:V},u.cells=[u]->VRel S w ρ u x->x.cells=#[x]->LRel S w ρ u.cells x.cells.toList:=λh1 h2 E=>by rw[h1,E];exact⟨x,[],rfl,h2,rfl⟩
 cases v with
 |agg cs=>
  simp only[VRel]at hv;obtain⟨xs,rfl,h⟩:=hv;exact h
 |tup cs=>
  refine one I hv ?_;simp only[VRel]at hv;obtain⟨xs,rfl,h⟩:=hv;rfl
 |_=>exact one rfl hv<|oB<|hv.one rfl
end
mutual
def V.pure:V->Bool
 |.ptr _ _=>false
 |.el _ _ _ _=>false
 |.sl _=>false
 |.np _=>false
 |.mm _ _=>false
 |.agg cs=>pureL cs
 |.tup cs=>pureL cs
 |.clo _ cs=>pureL cs
 |.int _ _=>true
 |.bool _=>true
 |.str _=>true
 |.nilp=>true
 |.nils=>true
 |.raw _=>true
 |.box _ _=>true
 |.row _ _=>true
 |.lk _=>true
def pureL:List V->Bool
 |[]=>true
 |v::r=>match v.pure with
  |true=>pureL r
  |false=>false
end
section
variable{S:Nat->Prop}{w:World}{ρ ρ':Nat->Option Value}
theorem AL{r:List V}(h:pureL (v::r)=true):v.pure=true∧pureL r=true:=by
 simp only[pureL]at h;split at h
 ·exact⟨‹_›,h⟩
 ·cases h
mutual
theorem VRel.pure:∀{v:V} {x:Value},v.pure=true->VRel S w ρ v x->VRel S w ρ' v x
 |.int _ _,x,_,h=>by simp only[VRel]at h⊢;exact h
 |.bool _,x,_,h=>by simp only[VRel]at h⊢;exact h
 |.str _,x,_,h=>by simp only[VRel]at h⊢;exact h
 |.nilp,x,_,h=>by simp only[VRel]at h⊢;exact h
 |.nils,x,_,h=>by simp only[VRel]at h⊢;exact h
 |.raw _,x,_,h=>by simp only[VRel]at h⊢;exact h
 |.ptr id o,x,hp,h=>by cases hp
 |.el id sz i o,x,hp,h=>by cases hp
 |.sl id,x,hp,h=>by cases hp
 |.np id,x,hp,h=>by cases hp
 |.mm id k,x,hp,h=>by cases hp
 |.box cs o,x,_,h=>by simp only[VRel]at h⊢;exact h
 |.row sz els,x,_,h=>by simp only[VRel]at h⊢;exact h
 |.agg cs,x,hp,h=>by simp only[VRel]at h⊢;obtain⟨xs,h1,h2⟩:=h;exact⟨xs,h1,LRel.pure (by simpa only[V.pure]using hp) h2⟩
 |.tup cs,x,hp,h=>by simp only[VRel]at h⊢;obtain⟨xs,h1,h2⟩:=h;exact⟨xs,h1,LRel.pure (by simpa only[V.pure]using hp) h2⟩
 |.lk _,x,_,h=>by simp only[VRel]at h⊢;exact h
 |.clo fid cs,x,hp,h=>by simp only[VRel]at h⊢;obtain⟨xs,h1,h2⟩:=h;exact⟨xs,h1,LRel.pure (by simpa only[V.pure]using hp) h2⟩
theorem LRel.pure:∀{v:List V} {x:List Value},pureL v=true->LRel S w ρ v x->LRel S w ρ' v x
 |[],x,_,h=>by simp only[LRel]at h⊢;exact h
 |v::r,x,hp,h=>by simp only[LRel]at h⊢;obtain⟨y,ys,h1,h2,h3⟩:=h;have hp':=AL hp;exact⟨y,ys,h1,VRel.pure hp'.1 h2,LRel.pure hp'.2 h3⟩
end
theorem CRel.pure{sz:Nat}:∀{v:List V} {x:List Value},pureL v=true->CRel S w ρ sz v x->CRel S w ρ' sz v x
 |[],x,_,h=>by simp only[CRel]at h⊢;exact h
 |v::r,x,hp,h=>by simp only[CRel]at h⊢;obtain⟨y,ys,h1,h2,G,J⟩:=h;have E:=AL hp;exact⟨y,ys,h1,h2,VRel.pure E.1 G,CRel.pure E.2 J⟩
end
theorem Cz(l:YB)(a b:Nat):(ByteArray.mk l.toArray).extract a b=⟨((l.drop a).take<|b-a).toArray⟩:=Lx.wZ l a b
def Agree(S:Nat->Prop)(w w':World):Prop:=∀b,S b->w'.heap[b]?=w.heap[b]?
abbrev fA(a:Act):Nat->Option Value:=λi=>a.tmps[i]?
def Opd(S:Nat->Prop)(w:World)(ρ:Nat->Option Value)(a:Act)(x:Operand)(v:V):Prop:=∃y,aD (fA a) x=some y∧VRel S w ρ v y
def Yld(P:Program)(S:Nat->Prop)(w:World)(ρ:Nat->Option Value)(a:Act)(ty:TypeId)(op:Op)(v:V):Prop:=∃x,VRel S w ρ v x∧∀w',Agree S w w'->Runs P a ty op w' (.value x) w'
variable{x:Operand}
variable{y:Operand}
variable{o:Nat}
variable{cs:List V}
variable{t:TypeId}
variable{k:Nat}
variable{j:Nat}
variable{u:TypeId}
variable{e:TypeId}
variable{els:List V}
variable{l:YB}
variable{ps:List (Nat×Operand)}
section
variable{P:Program}{S:Nat->Prop}{w:World}{ρ:Nat->Option Value}{a:Act}{n:Nat}{ty:TypeId}
theorem RX(fr:Fr a n<|fA a)(hx:Opd S w ρ a x v):Yld P S w ρ a ty (.move x) v:=by obtain⟨y,h1,h2⟩:=hx;exact⟨y,h2,λw' _=>Ib fr h1⟩
theorem Mj(fr:Fr a n<|fA a)(hx:Opd S w ρ a x v):Yld P S w ρ a ty (.assign x) v:=by obtain⟨y,h1,h2⟩:=hx;exact⟨y,h2,λw' _=>CQ fr h1⟩
theorem Pc{c:Operand}(fr:Fr a n<|fA a)(E:Opd S w ρ a c<|.bool true)(hx:Opd S w ρ a x v):Yld P S w ρ a ty (.pick c x y) v:=by obtain⟨b,h1,h2⟩:=E;obtain⟨z,G,J⟩:=hx;simp only[VRel]at h2;subst h2;exact⟨z,J,λw' _=>Gl fr h1 G⟩
theorem PK{c:Operand}(fr:Fr a n<|fA a)(E:Opd S w ρ a c<|.bool false)(hx:Opd S w ρ a y v):Yld P S w ρ a ty (.pick c x y) v:=by obtain⟨b,h1,h2⟩:=E;obtain⟨z,G,J⟩:=hx;simp only[VRel]at h2;subst h2;exact⟨z,J,λw' _=>Ee fr h1 G⟩
theorem Rf{id:Nat}(fr:Fr a n<|fA a)(hx:Opd S w ρ a x<|.ptr id o):Yld P S w ρ a ty (.nilCheck x) (.ptr id o):=by obtain⟨y,h1,h2⟩:=hx;refine⟨y,h2,λw' _=>?_⟩;simp only[VRel]at h2;obtain⟨b,_,rfl⟩:=h2;exact AN fr h1
theorem RA{id:Nat}(fr:Fr a n<|fA a)(hx:Opd S w ρ a x<|.el id sz i o):Yld P S w ρ a ty (.nilCheck x) (.el id sz i o):=by obtain⟨y,h1,h2⟩:=hx;refine⟨y,h2,λw' _=>?_⟩;simp only[VRel]at h2;obtain⟨b,_,_,_,rfl⟩:=h2;exact AN fr h1
theorem Rh(fr:Fr a n<|fA a)(hx:Opd S w ρ a x<|.box cs o):Yld P S w ρ a ty (.nilCheck x) (.box cs o):=by obtain⟨y,h1,h2⟩:=hx;refine⟨y,h2,λw' _=>?_⟩;simp only[VRel]at h2;obtain⟨b,off,xs,rfl,_⟩:=h2;exact AN fr h1
theorem SB{vs:List V}(fr:Fr a n<|fA a)(hx:Opd S w ρ a x<|.tup vs)(hi:vs[i]?=some v):Yld P S w ρ a ty (.extract x i) v:=by
 obtain⟨y,h1,h2⟩:=hx;simp only[VRel]at h2;obtain⟨xs,rfl,E⟩:=h2;obtain⟨z,G,J⟩:=E.get hi;exact⟨z,J,λw' _=>AV fr h1<|by simpa using G⟩
theorem SA{b:Bool}(fr:Fr a n<|fA a)(hx:Opd S w ρ a x<|.bool b):Yld P S w ρ a ty (.unOp .not t x) (.bool !b):=by obtain⟨y,h1,h2⟩:=hx;simp only[VRel]at h2;subst h2;exact⟨_,by simp only[VRel],λw' _=>Lw fr h1 rfl⟩
theorem Sr{id:Nat}(fr:Fr a n<|fA a)(hx:Opd S w ρ a x<|.ptr id o)(E:gv P t i=some k):Yld P S w ρ a ty (.fieldAddr t x i) (.ptr id<|o+k):=by obtain⟨y,h1,h2⟩:=hx;simp only[VRel]at h2;obtain⟨b,G,rfl⟩:=h2;exact⟨_,by simp only[VRel];exact⟨b,G,rfl⟩,λw' _=>DI fr h1 E rfl⟩
theorem SL{id:Nat}(fr:Fr a n<|fA a)(hx:Opd S w ρ a x<|.el id sz j o)(E:gv P t i=some k):Yld P S w ρ a ty (.fieldAddr t x i) (.el id sz j<|o+k):=by
 obtain⟨y,h1,h2⟩:=hx;simp only[VRel]at h2;obtain⟨b,m,c,G,rfl⟩:=h2;exact⟨_,by simp only[VRel];exact⟨b,m,c,G,rfl⟩,λw' _=>DI fr h1 E<|aav _ _ _⟩
theorem Sv(fr:Fr a n<|fA a)(hx:Opd S w ρ a x<|.box cs o)(E:gv P t i=some k):Yld P S w ρ a ty (.fieldAddr t x i) (.box cs<|o+k):=by
 obtain⟨y,h1,h2⟩:=hx;simp only[VRel]at h2;obtain⟨b,off,xs,rfl,G⟩:=h2;exact⟨_,by simp only[VRel];exact⟨b,off,xs,rfl,G⟩,λw' _=>DI fr h1 E<|aav _ _ _⟩
theorem Tc(fr:Fr a n<|fA a)(hx:Opd S w ρ a x<|.agg cs)(E:sA P t i=some k)(hv:cs[k]?=some v):Yld P S w ρ a ty (.field t x i) v:=by obtain⟨y,h1,h2⟩:=hx;simp only[VRel]at h2;obtain⟨xs,rfl,G⟩:=h2;obtain⟨z,J,U⟩:=G.get hv;exact⟨z,U,λw' _=>Sj fr h1 E J⟩
def tg(P:Program)(t:TypeId)(i:Nat):Option (Nat×Nat):=match P.underlying t with
 |some (.struct fs)=>match fs[i]? with
  |some fl=>match mK P fl.type with
   |some m=>some (fl.offset,m)
   |none=>none
  |none=>none
 |_=>none
theorem Rn{f:Nat->Option Value}{cs:List Value}(h:Fr a n f)(hx:aD f x=some (.agg cs.toArray))(ho:tg P t i=some (k,m)):Runs P a ty (.field t x i) w (.value<|.agg ((cs.drop k).take m).toArray) w:=by
 refine EC h hx λw=>?_;unfold tg at ho;split at ho
 ·rename_i fs E;split at ho
  ·rename_i fl G;split at ho
   ·rename_i U hs;simp only[aaa,Prod.mk.injEq]at ho;obtain⟨rfl,rfl⟩:=ho;have J:(isAgg fl.type).run P w=.ok true w∧(sizeOf fl.type).run P w=.ok U w:=by
     unfold mK at hs;cases E:P.underlying fl.type with
     |none=>rw[E]at hs;cases hs
     |some d=>
      rw[E]at hs;cases d<;>first|cases hs|(obtain⟨i,hi,hs⟩:=Option.map_eq_some_iff.1 hs;simp[isAgg,run_underlying E,sizeOf,typeInfo,hi,hs])
    simp[Instr.field,run_underlying E,G,part,J.1,J.2,asAgg]
   ·cases ho
  ·cases ho
 ·cases ho
theorem SG(fr:Fr a n<|fA a)(hx:Opd S w ρ a x<|.agg cs)(E:tg P t i=some (k,m)):Yld P S w ρ a ty (.field t x i) (.agg<|(cs.drop k).take m):=by obtain⟨y,h1,h2⟩:=hx;simp only[VRel]at h2;obtain⟨xs,rfl,G⟩:=h2;exact⟨_,by simp only[VRel];exact⟨_,rfl,(G.drop k).take m⟩,λw' _=>Rn fr h1 E⟩
section
variable{t u:TypeId}{x y:Operand}{k:IntKind}{m l:Int}
theorem aW(h:Opd S w ρ a x<|.int k m):aD (fA a) x=some (.int k m):=by obtain⟨y,h1,h2⟩:=h;simp only[VRel]at h2;subst h2;exact h1
theorem pV{b:Bool}(h:Opd S w ρ a x<|.bool b):aD (fA a) x=some (.bool b):=by obtain⟨y,h1,h2⟩:=h;simp only[VRel]at h2;subst h2;exact h1
theorem jO{s:YB}(h:Opd S w ρ a x<|.str s):aD (fA a) x=some (.string ⟨s.toArray⟩):=by obtain⟨y,h1,h2⟩:=h;simp only[VRel]at h2;subst h2;exact h1
variable(fr:Fr a n (fA a))(hx:Opd S w ρ a x (.int k m))(hy:Opd S w ρ a y (.int k l))
include fr hx hy
theorem SF:Yld P S w ρ a ty (.binOp .eql t x y u) (.bool<|m==l):=⟨_,by simp only[VRel],λw' _=>Lu fr (aW hx) (aW hy) rfl⟩
theorem SR:Yld P S w ρ a ty (.binOp .neq t x y u) (.bool<|m !=l):=⟨_,by simp only[VRel],λw' _=>Li fr (aW hx) (aW hy) rfl⟩
theorem Sw:Yld P S w ρ a ty (.binOp .lss t x y u) (.bool<|decide<|m<l):=⟨_,by simp only[VRel],λw' _=>DS fr (aW hx) (aW hy) rfl⟩
theorem Sn:Yld P S w ρ a ty (.binOp .leq t x y u) (.bool<|decide<|m<=l):=⟨_,by simp only[VRel],λw' _=>RF fr (aW hx) (aW hy) rfl⟩
theorem Sy:Yld P S w ρ a ty (.binOp .gtr t x y u) (.bool<|decide<|l<m):=⟨_,by simp only[VRel],λw' _=>RJ fr (aW hx) (aW hy) rfl⟩
theorem SE:Yld P S w ρ a ty (.binOp .geq t x y u) (.bool<|decide<|l<=m):=⟨_,by simp only[VRel],λw' _=>QK fr (aW hx) (aW hy) rfl⟩
end
section
variable{t u:TypeId}{x y:Operand}{m l:Int}(fr:Fr a n (fA a))(hx:Opd S w ρ a x (.int .i64 m))(hy:Opd S w ρ a y (.int .i64 l))
include fr hx hy
theorem Qn:Yld P S w ρ a ty (.call {callee:=.builtin .max,args:=#[x,y],argTypes:=#[t,u]}) (.int .i64<|max m l):=⟨_,by simp only[VRel],λw' _=>PY fr (aW hx)<|aW hy⟩
end
theorem Sl{m l:Bool}(fr:Fr a n<|fA a)(ht:P.underlying t=some .bool)(hx:Opd S w ρ a x<|.bool m)(hy:Opd S w ρ a y<|.bool l):Yld P S w ρ a ty (.binOp .eql t x y u) (.bool<|m==l):=
 ⟨_,by simp only[VRel],λw' _=>Ru ht fr (pV hx) (pV hy) rfl⟩
theorem Qr{f:Nat->Option Value}{m l c:Bool}(ht:P.underlying t=some .bool)(h:Fr a n f)(hx:aD f x=some (.bool m))(hy:aD f y=some (.bool l))(E:(m !=l)=c):Runs P a ty (.binOp .neq t x y u) w (.value<|.bool c) w:=λ_ _ _ _=>by subst E;simp only[execOp,h.eval hx,h.eval hy];simp[go_sem,eqGuard,ht,bne]
theorem SI{m l:Bool}(fr:Fr a n<|fA a)(ht:P.underlying t=some .bool)(hx:Opd S w ρ a x<|.bool m)(hy:Opd S w ρ a y<|.bool l):Yld P S w ρ a ty (.binOp .neq t x y u) (.bool<|m !=l):=
 ⟨_,by simp only[VRel],λw' _=>Qr ht fr (pV hx) (pV hy) rfl⟩
section
variable{t u:TypeId}{x y:Operand}{m l:YB}(fr:Fr a n (fA a))(hx:Opd S w ρ a x (.str m))(hy:Opd S w ρ a y (.str l))
include fr hx hy
theorem Sg:Yld P S w ρ a ty (.binOp .eql t x y u) (.bool<|m==l):=⟨_,by simp only[VRel],λw' _=>Qs fr (jO hx) (jO hy) rfl⟩
theorem Se:Yld P S w ρ a ty (.binOp .neq t x y u) (.bool<|m !=l):=⟨_,by simp only[VRel],λw' _=>Qz fr (jO hx) (jO hy) rfl⟩
end
theorem KC{m:YB}(fr:Fr a n<|fA a)(ht:P.underlying t=some .string)(hx:Opd S w ρ a x<|.str m):Yld P S w ρ a ty (.call {callee:=.builtin .len,args:=#[x],argTypes:=#[t]}) (.int .i64 m.length):=
 ⟨_,by simp only[VRel],λw' _=>PQ fr ht<|jO hx⟩
theorem RV(fr:Fr a n<|fA a)(ht:P.underlying t=some (.slice e))(hx:Opd S w ρ a x .nils):Yld P S w ρ a ty (.call {callee:=.builtin .len,args:=#[x],argTypes:=#[t]}) (.int .i64 0):=by obtain⟨y,h1,h2⟩:=hx;simp only[VRel]at h2;subst h2;exact⟨.int .i64 (0:Nat),by simp only[VRel];rfl,λw' _=>wf fr ht h1⟩
theorem KN(fr:Fr a n<|fA a)(ht:P.underlying t=some (.slice e))(hx:Opd S w ρ a x<|.row sz els):Yld P S w ρ a ty (.call {callee:=.builtin .len,args:=#[x],argTypes:=#[t]}) (.int .i64 els.length):=by obtain⟨y,h1,h2⟩:=hx;simp only[VRel]at h2;obtain⟨A,c,xs,rfl,_⟩:=h2;exact⟨_,by simp only[VRel],λw' _=>wf fr ht h1⟩
theorem bY{e:Nat}{v:Value}(h:w.ownsRow base e sz v k xs):∃A c,v=.slice A k c∧k<=c∧c<=maxLen:=by
 rcases h.2 with⟨rfl,rfl⟩|⟨g,cap,cur,rfl,_,_,E,G,_⟩
 ·exact⟨none,0,rfl,aag _,by decide⟩
 ·exact⟨_,cap,I,E,G⟩
theorem Ku{h:Nat->Ob}{J:TypeId}{id:Nat}(hr:HRel S w ρ h)(ho:h id=.row J sz els)(fr:Fr a n<|fA a)(ht:P.underlying t=some (.slice e))(hx:Opd S w ρ a x<|.sl id):Yld P S w ρ a ty (.call {callee:=.builtin .len,args:=#[x],argTypes:=#[t]}) (.int .i64 els.length):=by obtain⟨y,h1,h2⟩:=hx;simp only[VRel]at h2;have E:=hr.ob id;rw[ho]at E;obtain⟨v,xs,G,U,Z⟩:=E;rw[h2.1]at G;cases G;obtain⟨A,c,rfl,_⟩:=bY U;exact⟨_,by simp only[VRel],λw' _=>wf fr ht h1⟩
theorem p_idxR(fr:Fr a n<|fA a)(ht:P.underlying t=some (.slice e))(hz:dr P e=some sz)(hx:Opd S w ρ a x<|.row sz els)(hy:Opd S w ρ a y<|.int .i64 (i:Int))(hi:els[i]?=some v):
  Yld P S w ρ a ty (.indexAddr t x y) (.box v.cells 0):=by
 obtain⟨y',h1,h2⟩:=hx;simp only[VRel]at h2;obtain⟨A,c,xs,rfl,h3,h4,J,U⟩:=h2;have E:i<els.length:=by
  rcases Nat.lt_or_ge i els.length with h|h
  ·exact h
  ·rw[List.getElem?_eq_none h]at hi;cases hi
 obtain⟨b,off,rfl,Z,hb,hc⟩:=U.2 (by omega);obtain⟨z,g1,g2,g3⟩:=J.get hi;have hcell:∀j,j<sz->w.cell? ⟨b,off+i*sz+j,none⟩=z.cells.toList[j]?:=λj G=>by rw[<-g3 j G,aav];refine hc _ ?_;have :(i+1)*sz<=els.length*sz:=Nat.mul_le_mul_right _ E;rw[Nat.add_mul,Nat.one_mul]at this;omega
 refine⟨_,?_,λw' _=>pT fr ht hz h1 (aW hy) I E I⟩;simp only[VRel];refine⟨b,off+i*sz,_,by simp,Z,hb,g1.cells,λj G=>?_⟩;exact hcell j (by simp at G;omega)
theorem p_idxO{h:Nat->Ob}{J:TypeId}{id:Nat}(hr:HRel S w ρ h)(ho:h id=.row J sz els)(fr:Fr a n<|fA a)(ht:P.underlying t=some (.slice e))(hz:dr P e=some sz)(hx:Opd S w ρ a x<|.sl id)(hy:Opd S w ρ a y<|.int .i64 (i:Int))(hi:i<els.length):
  Yld P S w ρ a ty (.indexAddr t x y) (.el id sz i 0):=by
 obtain⟨Z,h1,h2⟩:=hx;simp only[VRel]at h2;have E:=hr.ob id;rw[ho]at E;obtain⟨v,xs,G,U,h6⟩:=E;rw[h2.1]at G;cases G;obtain⟨g,cap,rfl,_⟩:=U.form (by omega);exact⟨_,by simp only[VRel];exact⟨g,_,_,h2.1,rfl⟩,λw' _=>pT fr ht hz h1 (aW hy) rfl hi<|by simp⟩
theorem Qf{f:Nat->Option Value}{c:UInt8}(h:Fr a n f)(ht:P.underlying t=some .string)(hx:aD f x=some (.string ⟨l.toArray⟩))(hy:aD f y=some (.int .i64 (i:Int)))(hi:l[i]?=some c):Runs P a ty (.index t x y) w (.value<|.int .u8 c.toNat) w:=λ_ _ _ _=>by
 simp only[execOp,h.eval hx,h.eval hy];have hb:(ByteArray.mk l.toArray)[i]?=some c:=by
  obtain⟨E,G⟩:=List.getElem?_eq_some_iff.1 hi;have :i<(ByteArray.mk l.toArray).size:=by simpa[ByteArray.size]using E
  rw[getElem?_pos (ByteArray.mk l.toArray) i this];simpa[ByteArray.getElem_eq_getElem_data]using G
 simp[Instr.index,asIntOf,run_underlying ht,hb]
theorem p_idxS{c:UInt8}(fr:Fr a n<|fA a)(ht:P.underlying t=some .string)(hx:Opd S w ρ a x<|.str l)(hy:Opd S w ρ a y<|.int .i64 (i:Int))(hi:l[i]?=some c):Yld P S w ρ a ty (.index t x y) (.int .u8 c.toNat):=
 ⟨_,by simp only[VRel],λw' _=>Qf fr ht (jO hx) (aW hy) hi⟩
theorem RM{f:Nat->Option Value}{lo hi:Option Operand}{i j:Nat}(h:Fr a n f)(ht:P.underlying t=some .string)(hx:aD f x=some (.string ⟨l.toArray⟩))
  (E:(lo=none∧i=0)∨∃y,lo=some y∧aD f y=some (.int .i64 (i:Int))) (G:(hi=none∧j=l.length)∨∃y,hi=some y∧aD f y=some (.int .i64 (j:Int))) (J:i<=j) (U:j<=l.length):
  Runs P a ty (.slice t x lo hi none) w (.value<|.string ⟨((l.drop i).take<|j-i).toArray⟩) w:=λ_ _ _ _=>by
 have hs:(ByteArray.mk l.toArray).size=l.length:=by simp[ByteArray.size]
 rw[<-Cz];rcases E with⟨rfl,rfl⟩|⟨y,rfl,hy⟩<;>rcases G with⟨rfl,rfl⟩|⟨z,rfl,hz⟩
 ·simp only[execOp,h.eval hx,Option.map_none];simp[Instr.sliceAt,Instr.slice,run_underlying ht,Instr.sliceBounds,hs];rw[Cz];simp
 ·simp only[execOp,h.eval hx,h.eval hz,Option.map_none,Option.map_some];simp[Instr.sliceAt,Instr.slice,run_underlying ht,Instr.sliceBounds,hs,run_sliceBound _ .i64 (j:Int) l.length _ (by omega)<|by omega]
 ·simp only[execOp,h.eval hx,h.eval hy,Option.map_none,Option.map_some];simp[Instr.sliceAt,Instr.slice,run_underlying ht,Instr.sliceBounds,hs,run_sliceBound _ .i64 (i:Int) l.length _ (by omega)<|by omega]
 ·simp only[execOp,h.eval hx,h.eval hy,h.eval hz,Option.map_some];simp[Instr.sliceAt,Instr.slice,run_underlying ht,Instr.sliceBounds,hs,run_sliceBound _ .i64 (j:Int) l.length _ (by omega) (by omega),run_sliceBound _ .i64 (i:Int) j _ (by omega)<|by omega]
theorem On{lo hi:Option Operand}{i j:Nat}(fr:Fr a n<|fA a)(ht:P.underlying t=some .string)(hx:Opd S w ρ a x<|.str l)
  (E:(lo=none∧i=0)∨∃y,lo=some y∧Opd S w ρ a y (.int .i64 (i:Int))) (G:(hi=none∧j=l.length)∨∃y,hi=some y∧Opd S w ρ a y (.int .i64 (j:Int))) (J:i<=j) (U:j<=l.length):
  Yld P S w ρ a ty (.slice t x lo hi none) (.str<|(l.drop i).take<|j-i):=
 ⟨_,by simp only[VRel],λw' _=>RM fr ht (jO hx) (E.imp id λ⟨y,e,h⟩=>⟨y,e,aW h⟩) (G.imp id λ⟨y,e,h⟩=>⟨y,e,aW h⟩) J U⟩
theorem LB{f:Nat->Option Value}{lo hi:Option Operand}{c i j:Nat}(h:Fr a n f)(ht:P.underlying t=some (.slice e))(hz:dr P e=some sz)(hx:aD f x=some (.slice A m c))
  (J:(lo=none∧i=0)∨∃y,lo=some y∧aD f y=some (.int .i64 (i:Int))) (U:(hi=none∧j=m)∨∃y,hi=some y∧aD f y=some (.int .i64 (j:Int))) (hij:i<=j) (hj:j<=m) (hm:m<=c):
  Runs P a ty (.slice t x lo hi none) w (.value (.slice (if c=i then A else A.map (·.add (i*sz))) (j-i)<|c-i)) w:=λ_ _ _ _=>by
 obtain⟨inf,Z,hs⟩:=Option.map_eq_some_iff.1 (show(P.info? e).map (·.size)=some sz from hz);have E:(sizeOf e).run P w=.ok sz w:=by simp[sizeOf,typeInfo,Z,hs]
 rcases J with⟨rfl,rfl⟩|⟨y,rfl,hy⟩<;>rcases U with⟨rfl,rfl⟩|⟨z,rfl,G⟩
 ·simp only[execOp,h.eval hx,Option.map_none];simp[Instr.sliceAt,Instr.slice,run_underlying ht,Instr.sliceBounds,E]
 ·simp only[execOp,h.eval hx,h.eval G,Option.map_none,Option.map_some];simp[Instr.sliceAt,Instr.slice,run_underlying ht,Instr.sliceBounds,E,run_sliceBound _ .i64 (j:Int) c _ (by omega)<|by omega]
 ·simp only[execOp,h.eval hx,h.eval hy,Option.map_none,Option.map_some];simp[Instr.sliceAt,Instr.slice,run_underlying ht,Instr.sliceBounds,E,run_sliceBound _ .i64 (i:Int) j _ (by omega)<|by omega]
 ·simp only[execOp,h.eval hx,h.eval hy,h.eval G,Option.map_some];simp[Instr.sliceAt,Instr.slice,run_underlying ht,Instr.sliceBounds,E,run_sliceBound _ .i64 (j:Int) c _ (by omega) (by omega),run_sliceBound _ .i64 (i:Int) j _ (by omega)<|by omega]
theorem LP{c:Nat}(hr:RowIn S w sz A m xs)(E:i<=j)(G:j<=m)(hm:m<=c):RowIn S w sz (if c=i then A else A.map (·.add (i*sz))) (j-i) ((xs.drop<|i*sz).take<|(j-i)*sz):=by
 have h1:(j-i)*sz+i*sz=j*sz:=by rw[<-Nat.add_mul];congr 1;omega
 have h2:j*sz<=m*sz:=Nat.mul_le_mul_right _ G;refine⟨by simp[hr.1];omega,λhn=>?_⟩;obtain⟨b,off,rfl,J,hb,U⟩:=hr.2 (by omega);rw[if_neg<|by omega];refine⟨b,off+i*sz,by simp[qz],J,hb,λk Z=>?_⟩;rw[aav,U _ (by omega),List.getElem?_take,if_pos Z,List.getElem?_drop]
theorem Ov{lo hi:Option Operand}{i j:Nat}(fr:Fr a n<|fA a)(ht:P.underlying t=some (.slice e))(hz:dr P e=some sz)(hx:Opd S w ρ a x<|.row sz els)
  (G:(lo=none∧i=0)∨∃y,lo=some y∧Opd S w ρ a y (.int .i64 (i:Int))) (J:(hi=none∧j=els.length)∨∃y,hi=some y∧Opd S w ρ a y (.int .i64 (j:Int))) (E:i<=j) (U:j<=els.length):
  Yld P S w ρ a ty (.slice t x lo hi none) (.row sz<|(els.drop i).take<|j-i):=by
 obtain⟨y,h1,h2⟩:=hx;simp only[VRel]at h2;obtain⟨A,c,xs,rfl,Z,h4,h5,h6⟩:=h2;refine⟨_,?_,λw' _=>LB fr ht hz h1 (G.imp id λ⟨y,e,h⟩=>⟨y,e,aW h⟩) (J.imp id λ⟨y,e,h⟩=>⟨y,e,aW h⟩) E U Z⟩;simp only[VRel];have e:((els.drop i).take<|j-i).length=j-i:=by simp;omega
 rw[e];exact⟨_,_,_,I,by omega,by omega,(h5.drop i).take<|j-i,LP h6 E U Z⟩
theorem OT(fr:Fr a n<|fA a)(ht:cM P t=true)(hx:Opd S w ρ a x<|.box cs o)(hv:cs[o]?=some v):Yld P S w ρ a ty (.load t x) v:=by
 obtain⟨y,h1,h2⟩:=hx;simp only[VRel]at h2;obtain⟨b,off,xs,rfl,J,hb,U,Z⟩:=h2;obtain⟨z,E,h6⟩:=U.get hv;have G:o<xs.length:=by
  rcases Nat.lt_or_ge o xs.length with h|h
  ·exact h
  ·rw[List.getElem?_eq_none h]at E;cases E
 exact⟨z,h6.up up0,λw' hA=>ex_load fr h1 ht<|(World.cell?_of_block (a:=⟨b,off+o,none⟩)<|hA b J).trans<|(Z o G).trans E⟩
theorem Nl(fr:Fr a n<|fA a)(ht:mK P t=some m)(hx:Opd S w ρ a x<|.box cs o)(hl:o+m<=cs.length):Yld P S w ρ a ty (.load t x) (.agg<|(cs.drop o).take m):=by
 obtain⟨y,h1,h2⟩:=hx;simp only[VRel]at h2;obtain⟨b,off,xs,rfl,J,hb,E,U⟩:=h2;have G:=E.length;refine⟨.agg ((xs.drop o).take m).toArray,by simp only[VRel];exact⟨_,rfl,((E.drop o).take m).up up0⟩,λw' Z=>ex_loadN fr h1 ht (by simp;omega) λj hj=>?_⟩;rw[World.cell?_of_block (a:=⟨b,off+o+j,none⟩)<|Z b J,aav,U _ (by omega),List.getElem?_take,if_pos hj,List.getElem?_drop]
def tO(cs:List V)(o:Nat)(ps:List V):List V:=cs.take o++ps++cs.drop (o+ps.length)
def uc(place:Nat->Option (Nat×Nat)):List V->List (Nat×V)->Option (List V)
 |cs,[]=>some cs
 |cs,(i,v)::r=>match place i with
  |some (o,sz)=>match Nat.beq v.cells.length sz&&Nat.ble (o+sz) cs.length with
   |true=>uc place (tO cs o v.cells) r
   |false=>none
  |none=>none
def iT(S:Nat->Prop)(w:World)(ρ:Nat->Option Value):List (Nat×V)->List (Nat×Value)->Prop
 |[],ys=>ys=[]
 |(i,v)::r,ys=>∃x zs,ys=(i,x)::zs∧VRel S w ρ v x∧iT S w ρ r zs
theorem BX{place pl:Nat->Option (Nat×Nat)}(hpl:∀i p,place i=some p->pl i=some p):∀{vs:List<|Nat×V} {ys:List<|Nat×Value} {cs cs':List V} {xs:List Value},iT S w ρ vs ys->LRel S w ρ cs xs->uc place cs vs=some cs'->∃xs',Instr.fill pl xs.toArray ys=some xs'.toArray∧LRel S w ρ cs' xs'
 |[],ys,cs,cs',xs,hp,hl,hf=>by simp only[iT]at hp;subst hp;simp only[uc,aaa]at hf;subst hf;exact⟨xs,I,hl⟩
 | (i,v)::r,ys,cs,cs',xs,hp,hl,hf=>by
  simp only[iT]at hp;obtain⟨x,zs,rfl,hx,hr⟩:=hp;simp only[uc]at hf;split at hf
  ·rename_i o sz hpi;split at hf
   ·rename_i hc;simp only[aab,Nat.beq_eq,Nat.ble_eq]at hc;have hcl:=hx.cells.length;simp only[Array.length_toList]at hcl;have hlen:=hl.length;have hl':LRel S w ρ (tO cs o v.cells) (xs.take o++x.cells.toList++xs.drop (o+x.cells.size)):=by
     unfold tO;rw[hcl];exact((hl.take o).append hx.cells).append<|hl.drop _
    obtain⟨xs',h1,h2⟩:=BX hpl hr hl' hf;refine⟨xs',?_,h2⟩;simp only[Instr.fill,hpl i _ hpi];rw[if_neg (by simp;omega),<-h1]
    congr 1
    have hfs:=yo o x.cells.toList 0 xs (by simp;omega);simp only[Nat.add_zero,Array.length_toList]at hfs;rw[<-hfs,<-Array.foldl_toList,Array.toList_zipIdx]
   ·cases hf
  ·cases hf
def yZ(P:Program)(t:TypeId):Option (List<|Nat×Nat):=match P.underlying t with
 |some (.struct fs)=>fs.toList.mapM λfl=>(dr P fl.type).map λs=>(fl.offset,s)
 |_=>none
theorem AT:∀{fs:List Field} {ps:List<|Nat×Nat},(fs.mapM λfl=>(dr P fl.type).map λs=>(fl.offset,s))=some ps->(fs.mapM (m:=Sem) λfl=>do pure (fl.offset,<-sizeOf fl.type)).run P w=.ok ps w
 |[],ps,h=>by simp at h;subst h;simp
 |fl::r,ps,h=>by
  simp only[List.mapM_cons]at h;obtain⟨p,h1,h⟩:=Option.bind_eq_some_iff.1 h;obtain⟨qs,h2,h⟩:=Option.bind_eq_some_iff.1 h;simp only[Option.pure_def,aaa]at h;subst h;obtain⟨s,E,G⟩:=Option.map_eq_some_iff.1 h1;obtain⟨inf,J,U⟩:=Option.map_eq_some_iff.1 (show(P.info? fl.type).map (·.size)=some s from E);have ih:=AT h2;have Z:(sizeOf fl.type).run P w=.ok s w:=by simp[sizeOf,typeInfo,J,U]
  subst G;simp only[List.mapM_cons];simp[Z];simp at ih;simp[ih]
theorem Iu{vs:List<|Nat×V}{ys:List<|Nat×Value}{pl:List<|Nat×Nat}{z:List Value}{zv cs:List V}{place:Nat->Option (Nat×Nat)}(fr:Fr a n<|fA a)(hps:eb (fA a) ps=some ys)(hpr:iT S w ρ vs ys)(hz:lY P t=some z)(hzv:LRel S w ρ zv z)
  (hpl:yZ P t=some pl) (hplace:∀i p,place i=some p->pl[i]?=some p) (hf:uc place zv vs=some cs):Yld P S w ρ a ty (.build t ps.toArray) (.agg cs):=by
 obtain⟨xs,h1,h2⟩:=BX (pl:=λi=>pl.toArray[i]?) (λi p h=>by simpa using hplace i p h) hpr hzv hf;refine⟨.agg xs.toArray,by simp only[VRel];exact⟨xs,rfl,h2⟩,λw' _=>Eh fr hps λw=>?_⟩;unfold lY at hz;obtain⟨z0,hz1,hz2⟩:=Option.map_eq_some_iff.1 hz;obtain⟨inf,hi,hiz⟩:=Option.bind_eq_some_iff.1 hz1;have ez:z0.cells=z.toArray:=by rw[<-hz2]
 unfold yZ at hpl;cases hu:P.underlying t with
 |none=>rw[hu]at hpl;cases hpl
 | some d=>
  rw[hu]at hpl;cases d with
  | struct fs=>
   have hm:=AT (w:=w) hpl;have hm':(fs.mapM (m:=Sem) λfl=>do pure (fl.offset,<-sizeOf fl.type)).run P w=.ok pl.toArray w:=by
    have e:fs.mapM (m:=Sem) (λfl=>do pure (fl.offset,<-sizeOf fl.type))=List.toArray<$>fs.toList.mapM (m:=Sem) (λfl=>do pure (fl.offset,<-sizeOf fl.type)):=by rw[<-List.mapM_toArray]
    rw[e];simp at hm;simp[hm]
   simp only[Instr.build];simp at hm';simp[zeroValue,typeInfo,hi,hiz,run_underlying hu,hm',ez];simp at h1;rw[h1];simp
  |_=>cases hpl
theorem MF{vs:List<|Nat×V}{ys:List<|Nat×Value}{sz len:Nat}{e:TypeId}{z:List Value}{zv cs:List V}(fr:Fr a n<|fA a)(E:eb (fA a) ps=some ys)(G:iT S w ρ vs ys)(hz:lY P t=some z)(J:LRel S w ρ zv z)
  (ht:P.underlying t=some (.array len e)) (he:dr P e=some sz) (hf:uc (λi=>some (i*sz,sz)) zv vs=some cs):Yld P S w ρ a ty (.build t ps.toArray) (.agg cs):=by
 obtain⟨xs,h1,h2⟩:=BX (pl:=λi=>some (i*sz,sz)) (λi p h=>h) G J hf;refine⟨.agg xs.toArray,by simp only[VRel];exact⟨xs,rfl,h2⟩,λw' _=>Eh fr E λw=>?_⟩;unfold lY at hz;obtain⟨z0,U,Z⟩:=Option.map_eq_some_iff.1 hz;obtain⟨inf,hi,hiz⟩:=Option.bind_eq_some_iff.1 U;have ez:z0.cells=z.toArray:=by rw[<-Z]
 obtain⟨inf',h5,h6⟩:=Option.map_eq_some_iff.1 (show(P.info? e).map (·.size)=some sz from he);have h7:(sizeOf e).run P w=.ok sz w:=by simp[sizeOf,typeInfo,h5,h6]
 simp only[Instr.build];simp[zeroValue,typeInfo,hi,hiz,run_underlying ht,h7,ez];rw[h1];simp
end
structure ChgP (X:Nat->Prop) (w w':World):Prop where
 os:w'.os=w.os
 tape:w'.tape=w.tape
 output:w'.output=w.output
 size:w.heap.size<=w'.heap.size
 block:∀k,k<w.heap.size->¬X k->w'.heap[k]?=w.heap[k]?
theorem ChgP.refl(X:Nat->Prop)(w:World):ChgP X w w:=⟨rfl,rfl,rfl,aag _,λ_ _ _=>rfl⟩
variable{X Y:Nat->Prop}{w1:World}
theorem ChgP.trans{w w2:World}(h:ChgP X w w1)(k:ChgP Y w1 w2)(G:∀b,Y b->X b∨w.heap.size<=b):ChgP X w w2:=
 ⟨k.os.trans h.os,k.tape.trans h.tape,k.output.trans h.output,aao h.size k.size,λb hb E=>by
  rw[k.block b (aaw hb h.size) (λJ=>by rcases G b J with h1|h1;exact E h1;omega),h.block b hb E]⟩
theorem ChgP.mono{w:World}(h:ChgP X w w1)(E:∀b,X b->Y b):ChgP Y w w1:=⟨h.os,h.tape,h.output,h.size,λb hb G=>h.block b hb λJ=>G<|E b J⟩
theorem ChgP.of{X:YN}{w:World}(h:Chg X w w1):ChgP (·∈X) w w1:=⟨h.os,h.tape,h.output,h.size,h.block⟩
theorem ChgP.of0{w:World}(h:Chg [] w w1):ChgP X w w1:=(ChgP.of h).mono (λb hb=>by simp at hb)
def bi(h:Nat->Ob)(id:Nat)(o:Ob):Nat->Ob:=λi=>match Nat.beq i id with|true=>o|false=>h i
def cj(ρ:Nat->Option Value)(id:Nat)(x:Value):Nat->Option Value:=λi=>match Nat.beq i id with|true=>some x|false=>ρ i
theorem aP(h:Nat->Ob)(id:Nat)(o:Ob):bi h id o id=o:=by simp[bi]
theorem aY(h:Nat->Ob){id:Nat}(o:Ob)(hi:i≠id):bi h id o i=h i:=by
 unfold bi;split
 ·rename_i hb;exact absurd (aaf hb) hi
 ·rfl
theorem aV(ρ:Nat->Option Value)(id:Nat)(x:Value):cj ρ id x id=some x:=by simp[cj]
theorem lU(ρ:Nat->Option Value){id:Nat}(x:Value)(hi:i≠id):cj ρ id x i=ρ i:=by
 unfold cj;split
 ·rename_i hb;exact absurd (aaf hb) hi
 ·rfl
structure Eff (S:Nat->Prop) (w w':World) (ρ ρ':Nat->Option Value) (h h':Nat->Ob) (X:Nat->Prop):Prop where
 hr:HRel S w' ρ' h'
 up:Up S S w w' ρ ρ'
 chg:ChgP (λb=>∃id,X id∧own ρ id (h id) b) w w'
 new:∀id b,own ρ' id (h' id) b->(∃j,own ρ j (h j) b)∨w.heap.size<=b
def Does (P:Program) (S:Nat->Prop) (w:World) (ρ:Nat->Option Value) (h:Nat->Ob) (a:Act) (ty:TypeId) (op:Op) (v:Option V) (h':Nat->Ob) (X:Nat->Prop):Prop:=
  ∃ nx w' ρ',Runs P a ty op w nx w'∧Eff S w w' ρ ρ' h h' X∧match v with
    |some v=>∃x,nx=.value x∧VRel S w' ρ' v x
    |none=>nx=.skip
variable{nid:Nat}
variable{tb:TypeId}
variable{v0:V}
section
variable{P:Program}{S:Nat->Prop}{w w':World}{ρ ρ':Nat->Option Value}{h h':Nat->Ob}{a:Act}{n:Nat}{ty:TypeId}
theorem Eff.refl(hr:HRel S w ρ h):Eff S w w ρ ρ h h X:=⟨hr,Up.refl,ChgP.refl _ _,λid b hb=>.inl ⟨id,hb⟩⟩
theorem AQ(k src:Nat)(hr:HRel S w ρ h)(hc:ChgP X w w')(hρ:∀i x,ρ i=some x->ρ' i=some x)(hX:∀b,X b->∃id,Y id∧own ρ id (h id) b)
  (hk:eK S w' ρ' k<|h' k) (Z:∀b,own ρ' k (h' k) b->w.heap.size<=b∨own ρ src (h src) b) (hsrc:src≠k->h' src=.gone)
  (hi:∀i,i≠k->h' i=.gone∨(h' i=h i∧(h i=.free->ρ' i=none)∧∀b,own ρ i (h i) b->¬X b)):Eff S w w' ρ ρ' h h' Y:=by
 have hnS:∀b,S b->¬X b:=λb hb hx=>by obtain⟨id,_,ho⟩:=hX b hx;exact hr.sep id b ho hb
 have up:Up S S w w' ρ ρ':=⟨λ_ h=>h,λb hb hlt=>hc.block b hlt<|hnS b hb,hρ⟩;have back:∀i b,i≠k->own ρ' i (h' i) b->own ρ i (h i) b:=λi b E hb=>by
  rcases hi i E with e|⟨e,_,_⟩
  ·rw[e]at hb;exact hb.elim
  ·rw[e]at hb;exact Ej hρ (hr.ob i) hb
 refine⟨⟨λi=>?_,λi b hb=>?_,λi j b J U=>?_,hr.slt.up up λb hb=>aaw (hr.slt b hb) hc.size⟩,up,hc.mono hX,λi b hb=>?_⟩
 ·by_cases E:i=k
  ·subst E;exact hk
  ·rcases hi i E with e|⟨e,hf,hb⟩
   ·rw[e];trivial
   ·rw[e];exact(hr.ob i).up up hf λb hob=>hc.block b (cY (hr.ob i) hob)<|hb b hob
 ·by_cases E:i=k
  ·subst E;rcases Z b hb with h1|h1
   ·intro hS;have :=hr.slt b hS;omega
   ·exact hr.sep src b h1
  ·exact hr.sep i b<|back i b E hb
 ·by_cases E:i=k
  ·by_cases G:j=k
   ·rw[E,G]
   ·subst E;have h1:=back j b G U;rcases Z b J with h2|h2
    ·have :=cY (hr.ob j) h1;omega
    ·have h3:=hr.dis src j b h2 h1;subst h3;rw[hsrc G]at U;exact U.elim
  ·by_cases G:j=k
   ·subst G;have h1:=back i b E J;rcases Z b U with h2|h2
    ·have :=cY (hr.ob i) h1;omega
    ·have h3:=hr.dis src i b h2 h1;subst h3;rw[hsrc E]at J;exact J.elim
   ·exact hr.dis i j b (back i b E J)<|back j b G U
 ·by_cases E:i=k
  ·subst E;rcases Z b hb with h1|h1
   ·exact .inr h1
   ·exact .inl ⟨src,h1⟩
  ·exact .inl ⟨i,back i b E hb⟩
theorem PC(k:Nat)(src:Nat->Prop)(hr:HRel S w ρ h)(hc:ChgP X w w')(hρ:∀i x,ρ i=some x->ρ' i=some x)(hX:∀b,X b->∃id,Y id∧own ρ id (h id) b)
  (hk:eK S w' ρ' k<|h' k) (Z:∀b,own ρ' k (h' k) b->w.heap.size<=b∨∃s,src s∧own ρ s (h s) b) (hsrc:∀s,src s->s≠k->h' s=.gone)
  (hi:∀i,i≠k->h' i=.gone∨(h' i=h i∧(h i=.free->ρ' i=none)∧∀b,own ρ i (h i) b->¬X b)):Eff S w w' ρ ρ' h h' Y:=by
 have hnS:∀b,S b->¬X b:=λb hb hx=>by obtain⟨id,_,ho⟩:=hX b hx;exact hr.sep id b ho hb
 have up:Up S S w w' ρ ρ':=⟨λ_ h=>h,λb hb hlt=>hc.block b hlt<|hnS b hb,hρ⟩;have back:∀i b,i≠k->own ρ' i (h' i) b->own ρ i (h i) b:=λi b E hb=>by
  rcases hi i E with e|⟨e,_,_⟩
  ·rw[e]at hb;exact hb.elim
  ·rw[e]at hb;exact Ej hρ (hr.ob i) hb
 refine⟨⟨λi=>?_,λi b hb=>?_,λi j b J U=>?_,hr.slt.up up λb hb=>aaw (hr.slt b hb) hc.size⟩,up,hc.mono hX,λi b hb=>?_⟩
 ·by_cases E:i=k
  ·subst E;exact hk
  ·rcases hi i E with e|⟨e,hf,hb⟩
   ·rw[e];trivial
   ·rw[e];exact(hr.ob i).up up hf λb hob=>hc.block b (cY (hr.ob i) hob)<|hb b hob
 ·by_cases E:i=k
  ·subst E;rcases Z b hb with h1|h1
   ·intro hS;have :=hr.slt b hS;omega
   ·obtain⟨s,_,h1⟩:=h1;exact hr.sep s b h1
  ·exact hr.sep i b<|back i b E hb
 ·by_cases E:i=k
  ·by_cases G:j=k
   ·rw[E,G]
   ·subst E;have h1:=back j b G U;rcases Z b J with h2|h2
    ·have :=cY (hr.ob j) h1;omega
    ·obtain⟨s,hs,h2⟩:=h2;have h3:=hr.dis s j b h2 h1;subst h3;rw[hsrc s hs G]at U;exact U.elim
  ·by_cases G:j=k
   ·subst G;have h1:=back i b E J;rcases Z b U with h2|h2
    ·have :=cY (hr.ob i) h1;omega
    ·obtain⟨s,hs,h2⟩:=h2;have h3:=hr.dis s i b h2 h1;subst h3;rw[hsrc s hs E]at J;exact J.elim
   ·exact hr.dis i j b (back i b E J)<|back j b G U
 ·by_cases E:i=k
  ·subst E;rcases Z b hb with h1|h1
   ·exact .inr h1
   ·obtain⟨s,_,h1⟩:=h1;exact .inl ⟨s,h1⟩
  ·exact .inl ⟨i,back i b E hb⟩
theorem eff_new{x:Value}{o:Ob}(hr:HRel S w ρ h)(hf:h nid=.free)(J:Chg [] w w')(U:eK S w' (cj ρ nid x) nid o)(hb:∀b,own (cj ρ nid x) nid o b->w.heap.size<=b):Eff S w w' ρ (cj ρ nid x) h (bi h nid o) (λ_=>False):=by
 have hn:ρ nid=none:=by have :=hr.ob nid;rw[hf]at this;exact this
 refine AQ (X:=λ_=>False) nid nid hr (ChgP.of0 J) (λi y hy=>?_) (λb hb=>hb.elim) (by rw[aP];exact U) (λb E=>by rw[aP]at E;exact .inl<|hb b E) (λh=>absurd I h)
  (λi hi=>.inr ⟨aY _ _ hi,λG=>?_,λb _ hx=>hx⟩)
 ·have :i≠nid:=λe=>by subst e;rw[hn]at hy;cases hy
  rw[lU _ _ this];exact hy
 ·rw[lU _ _ hi];have :=hr.ob i;rw[G]at this;exact this
theorem qx{id:Nat}{o:Ob}{X:YN}(hr:HRel S w ρ h)(U:Chg X w w')(J:∀b,b∈X->own ρ id (h id) b)(Z:eK S w' ρ id o)(hb:∀b,own ρ id o b->own ρ id (h id) b):Eff S w w' ρ ρ h (bi h id o) (·=id):=by
 refine AQ (X:=(·∈X)) id id hr (ChgP.of U) (λi y hy=>hy) (λb hb=>⟨id,I,J b hb⟩) (by rw[aP];exact Z) (λb E=>by rw[aP]at E;exact .inr<|hb b E) (λh=>absurd I h)
  (λi hi=>.inr ⟨aY _ _ hi,λG=>?_,λb E hx=>hi<|hr.dis i id b E<|J b hx⟩)
 have :=hr.ob i;rw[G]at this;exact this
theorem AC{id:Nat}{x:Value}{o:Ob}{X:YN}(hr:HRel S w ρ h)(hf:h nid=.free)(hid:h id≠.free)(hc:Chg X w w')(Z:∀b,b∈X->own ρ id (h id) b)(hk:eK S w' (cj ρ nid x) nid o)(hb:∀b,own (cj ρ nid x) nid o b->own ρ id (h id) b∨w.heap.size<=b):
  Eff S w w' ρ (cj ρ nid x) h (bi (bi h id .gone) nid o) (·=id):=by
 have hn:ρ nid=none:=by have :=hr.ob nid;rw[hf]at this;exact this
 have J:id≠nid:=λe=>by subst e;exact hid hf
 refine AQ (X:=(·∈X)) nid id hr (ChgP.of hc) (λi y hy=>?_) (λb hb=>⟨id,I,Z b hb⟩) (by rw[aP];exact hk) (λb E=>by rw[aP]at E;exact(hb b E).symm) (λ_=>by rw[aY _ _ J,aP])
  (λi hi=>?_)
 ·have :i≠nid:=λe=>by subst e;rw[hn]at hy;cases hy
  rw[lU _ _ this];exact hy
 ·rw[aY _ _ hi];by_cases G:i=id
  ·subst G;exact .inl<|aP _ _ _
  ·refine .inr ⟨aY _ _ G,λU=>?_,λb E hx=>G<|hr.dis i id b E<|Z b hx⟩;rw[lU _ _ hi];have :=hr.ob i;rw[U]at this;exact this
theorem AM{x:Value}(hr:HRel S w ρ h)(hf:h nid=.free)(G:Chg [] w w'):Up S S w w' ρ (cj ρ nid x):=by
 have hn:ρ nid=none:=by have :=hr.ob nid;rw[hf]at this;exact this
 refine⟨λ_ h=>h,λb hb E=>G.block b E (by simp),λi y hy=>?_⟩;have :i≠nid:=λe=>by subst e;rw[hn]at hy;cases hy
 rw[lU _ _ this];exact hy
theorem qP{id:Nat}(hr:HRel S w ρ h)(ho:h id=.var t cs):∃b xs,ρ id=some (.pointer<|some ⟨b,0,none⟩)∧Blk w b t xs∧LRel S w ρ cs xs:=by have :=hr.ob id;rw[ho]at this;exact this
theorem jp{id:Nat}(hr:HRel S w ρ h)(ho:h id=.row e sz els):∃v xs,ρ id=some v∧w.ownsRow 0 e sz v els.length xs∧CRel S w ρ sz els xs:=by have :=hr.ob id;rw[ho]at this;exact this
theorem Cs{id:Nat}(hx:Opd S w ρ a x<|.ptr id o)(hb:ρ id=some (.pointer<|some ⟨b,0,none⟩)):aD (fA a) x=some (.pointer<|some ⟨b,o,none⟩):=by obtain⟨y,h1,h2⟩:=hx;simp only[VRel]at h2;obtain⟨b',E,rfl⟩:=h2;rw[hb]at E;simp only[aaa,Value.pointer.injEq,Addr.mk.injEq,and_true]at E;subst E;exact h1
theorem Iq{id:Nat}(hr:HRel S w ρ h)(fr:Fr a n<|fA a)(hx:Opd S w ρ a x<|.ptr id o)(ho:h id=.var tb cs)(ht:cM P t=true)(hv:cs[o]?=some v):
  ∃b y,ρ id=some (.pointer<|some ⟨b,0,none⟩)∧w.cell? ⟨b,o,none⟩=some y∧VRel S w ρ v y∧∀w',w'.cell? ⟨b,o,none⟩=some y->Runs P a ty (.load t x) w' (.value y) w':=by
 obtain⟨b,xs,h1,h2,E⟩:=qP hr ho;obtain⟨y,G,J⟩:=E.get hv;exact⟨b,y,h1,by rw[h2.cell,G],J,λw' U=>ex_load fr (Cs hx h1) ht U⟩
theorem QW{id:Nat}(hr:HRel S w ρ h)(fr:Fr a n<|fA a)(hx:Opd S w ρ a x<|.ptr id o)(ho:h id=.var tb cs)(ht:cM P t=true)(hv:cs[o]?=some v):Does P S w ρ h a ty (.load t x) (some v) h (λ_=>False):=by obtain⟨b,y,h1,h2,E,G⟩:=Iq (P:=P) (ty:=ty) hr fr hx ho ht hv;exact⟨_,w,ρ,G w h2,Eff.refl hr,y,I,E⟩
theorem DU{id:Nat}(hr:HRel S w ρ h)(fr:Fr a n<|fA a)(hx:Opd S w ρ a x<|.ptr id o)(ho:h id=.var tb cs)(ht:mK P t=some m)(hl:o+m<=cs.length):
  ∃b ys,ρ id=some (.pointer<|some ⟨b,0,none⟩)∧(∀j,j<m->w.cell? ⟨b,o+j,none⟩=ys[j]?)∧LRel S w ρ ((cs.drop o).take m) ys∧∀w',(∀j,j<m->w'.cell? ⟨b,o+j,none⟩=ys[j]?)->Runs P a ty (.load t x) w' (.value<|.agg ys.toArray) w':=by
 obtain⟨b,xs,h1,h2,E⟩:=qP hr ho;have G:=E.length;refine⟨b,(xs.drop o).take m,h1,λj J=>?_,(E.drop o).take m,λw' U=>ex_loadN fr (Cs hx h1) ht (by simp;omega) U⟩;rw[h2.cell,List.getElem?_take,if_pos J,List.getElem?_drop]
theorem Px{id:Nat}(hr:HRel S w ρ h)(fr:Fr a n<|fA a)(hx:Opd S w ρ a x<|.ptr id o)(ho:h id=.var tb cs)(ht:mK P t=some m)(hl:o+m<=cs.length):Does P S w ρ h a ty (.load t x) (some<|.agg<|(cs.drop o).take m) h (λ_=>False):=by obtain⟨b,ys,h1,h2,E,G⟩:=DU (P:=P) (ty:=ty) hr fr hx ho ht hl;exact⟨_,w,ρ,G w h2,Eff.refl hr,_,rfl,by simp only[VRel];exact⟨ys,rfl,E⟩⟩
theorem FN{id:Nat}{v:Value}(hx:Opd S w ρ a x<|.el id sz i o)(hb:ρ id=some v):∃b m c,v=.slice (some ⟨b,0,none⟩) m c∧aD (fA a) x=some (.pointer<|some ⟨b,i*sz+o,none⟩):=by obtain⟨y,h1,h2⟩:=hx;simp only[VRel]at h2;obtain⟨b',m,c,E,rfl⟩:=h2;rw[hb]at E;cases E;exact⟨b',m,c,I,h1⟩
theorem fW{e c:Nat}(ho:w.ownsRow base e sz (.slice (some ⟨b,0,none⟩) m c) k xs)(G:j<k*sz):w.cell? ⟨b,j,none⟩=xs[j]?:=by
 rcases ho.2 with⟨J,_⟩|⟨g,cap,cur,hv,hb,U,h4,h5,h6,Z⟩
 ·cases J
 ·injection hv with E _ hv2
  injection E with E
  injection E with E
  subst E;rw[<-Z];simp[World.cell?,U,List.getElem?_take,G]
theorem Ep{id:Nat}(hr:HRel S w ρ h)(fr:Fr a n<|fA a)(hx:Opd S w ρ a x<|.el id sz i o)(ho:h id=.row e sz els)(ht:cM P t=true)(hi:els[i]?=some v0)(hv:v0.cells[o]?=some v):
  ∃b u y,ρ id=some u∧u.ownBlock=some b∧w.cell? ⟨b,i*sz+o,none⟩=some y∧VRel S w ρ v y∧∀w',w'.cell? ⟨b,i*sz+o,none⟩=some y->Runs P a ty (.load t x) w' (.value y) w':=by
 obtain⟨u,xs,h1,h2,Z⟩:=jp hr ho;obtain⟨b,m,c,rfl,E⟩:=FN hx h1;obtain⟨z,g1,g2,g3⟩:=Z.get hi;obtain⟨y,U,h5⟩:=g1.cells.get hv;have G:o<sz:=by have :=(List.getElem?_eq_some_iff.1 U).1;simp at this;omega
 have J:i<els.length:=(List.getElem?_eq_some_iff.1 hi).1;have :(i+1)*sz<=els.length*sz:=Nat.mul_le_mul_right _ J;rw[Nat.add_mul,Nat.one_mul]at this;exact⟨b,_,y,h1,I,by rw[fW h2 (by omega),g3 o G,U],h5,λw' hc=>ex_load fr E ht hc⟩
theorem Iv{id:Nat}(hr:HRel S w ρ h)(fr:Fr a n<|fA a)(hx:Opd S w ρ a x<|.el id sz i o)(ho:h id=.row e sz els)(ht:cM P t=true)(hi:els[i]?=some v0)(hv:v0.cells[o]?=some v):Does P S w ρ h a ty (.load t x) (some v) h (λ_=>False):=by obtain⟨b,u,y,h1,_,h2,E,G⟩:=Ep (P:=P) (ty:=ty) hr fr hx ho ht hi hv;exact⟨_,w,ρ,G w h2,Eff.refl hr,y,I,E⟩
theorem Dg{id:Nat}(hr:HRel S w ρ h)(fr:Fr a n<|fA a)(hx:Opd S w ρ a x<|.el id sz i o)(ho:h id=.row e sz els)(ht:mK P t=some m)(hi:els[i]?=some v0)(hl:o+m<=v0.cells.length):
  ∃b u ys,ρ id=some u∧u.ownBlock=some b∧(∀j,j<m->w.cell? ⟨b,i*sz+o+j,none⟩=ys[j]?)∧LRel S w ρ ((v0.cells.drop o).take m) ys∧∀w',(∀j,j<m->w'.cell? ⟨b,i*sz+o+j,none⟩=ys[j]?)->Runs P a ty (.load t x) w' (.value<|.agg ys.toArray) w':=by
 obtain⟨u,xs,h1,h2,U⟩:=jp hr ho;obtain⟨b,k,c,rfl,G⟩:=FN hx h1;obtain⟨z,g1,g2,Z⟩:=U.get hi;have E:=g1.cells.length;simp only[Array.length_toList]at E;have J:i<els.length:=(List.getElem?_eq_some_iff.1 hi).1;have :(i+1)*sz<=els.length*sz:=Nat.mul_le_mul_right _ J;rw[Nat.add_mul,Nat.one_mul]at this;refine⟨b,_,(z.cells.toList.drop o).take m,h1,rfl,λj hj=>?_,(g1.cells.drop o).take m,λw' hc=>ex_loadN fr G ht (by simp;omega) hc⟩;rw[fW h2 (by omega),aav,Z _ (by omega),List.getElem?_take,if_pos hj,List.getElem?_drop]
theorem Fo{id:Nat}(hr:HRel S w ρ h)(fr:Fr a n<|fA a)(hx:Opd S w ρ a x<|.el id sz i o)(ho:h id=.row e sz els)(ht:mK P t=some m)(hi:els[i]?=some v0)(hl:o+m<=v0.cells.length):Does P S w ρ h a ty (.load t x) (some<|.agg<|(v0.cells.drop o).take m) h (λ_=>False):=by obtain⟨b,u,ys,h1,_,h2,E,G⟩:=Dg (P:=P) (ty:=ty) hr fr hx ho ht hi hl;exact⟨_,w,ρ,G w h2,Eff.refl hr,_,rfl,by simp only[VRel];exact⟨ys,rfl,E⟩⟩
theorem Qa{z:List Value}{zv:List V}(hr:HRel S w ρ h)(hf:h nid=.free)(hz:lY P t=some z)(E:∀S w ρ,LRel S w ρ zv z):Does P S w ρ h a ty (.alloc t) (some<|.ptr nid 0) (bi h nid<|.var t zv) (λ_=>False):=by
 obtain⟨w',b,h1,h2,J,U,Z⟩:=DZ (P:=P) z hz a w ty;refine⟨_,w',cj ρ nid<|.pointer<|some ⟨b,0,none⟩,h1,eff_new hr hf J ⟨b,z,aV _ _ _,h2,E _ _ _⟩ λb' G=>?_,_,I,?_⟩
 ·simp only[own,aV,aaa,Value.pointer.injEq,Addr.mk.injEq,and_true]at G;omega
 ·simp only[VRel];exact⟨b,aV _ _ _,rfl⟩
theorem SJ(hr:HRel S w ρ h)(fr:Fr a n<|fA a)(hf:h nid=.free)(hx:Opd S w ρ a x v):Does P S w ρ h a ty (.box t x) (some<|.ptr nid 0) (bi h nid<|.var t v.cells) (λ_=>False):=by
 obtain⟨y,g1,g2⟩:=hx;obtain⟨w',b,h1,h2,G,J,U⟩:=KY (P:=P) (t:=t) (cs:=y.cells.toList) fr g1 (by simp) w ty;refine⟨_,w',cj ρ nid<|.pointer<|some ⟨b,0,none⟩,h1,eff_new hr hf G ⟨b,_,aV _ _ _,h2,g2.cells.up<|AM hr hf G⟩ λb' E=>?_,_,I,?_⟩
 ·simp only[own,aV,aaa,Value.pointer.injEq,Addr.mk.injEq,and_true]at E;omega
 ·simp only[VRel];exact⟨b,aV _ _ _,rfl⟩
theorem Db{f:Nat->Option Value}{v:Value}{cs:List Value}(h:Fr a n f)(hx:aD f x=some (.pointer<|some ⟨b,o,none⟩))(hy:aD f y=some v)(hz:dr P t=some m)(hv:v.cells.size=m)(hone:v.cells.toList.all (·.oneCell')=true)(hb:Blk w b tb cs)(hm:o+m<=cs.length)(ty:TypeId):
  ∃w',Runs P a ty (.store t x y) w .skip w'∧Blk w' b tb (cs.take o++v.cells.toList++cs.drop (o+m))∧Chg [b] w w':=by
 obtain⟨i,hi,hs⟩:=Option.map_eq_some_iff.1 (show(P.info? t).map (·.size)=some m from hz);have key:∀(l:List Value) (j:Nat) (w:World) (cs:List Value),Blk w b tb cs->o+j+l.length<=cs.length->l.all (·.oneCell')=true->∃w',(storeCells ⟨b,o,none⟩ l j).run P w=.ok () w'∧Blk w' b tb (cs.take (o+j)++l++cs.drop (o+j+l.length))∧Chg [b] w w':=by
  intro l
  induction l with
  |nil=>intro j w cs hb hj _;exact⟨w,by simp[storeCells],by simpa using hb,Chg.refl _ _⟩
  | cons c r ih=>
   intro j w cs hb hj hone;simp only[List.all_cons,aab]at hone;simp only[aad]at hj;have ho:o+j<cs.length:=by omega
   have hc:w.cell? ⟨b,o+j,none⟩=some cs[o+j]:=by rw[hb.cell];simp[ho]
   have hfz:=hb.frozen<|o+j;have ha:(⟨b,o,none⟩:Addr).add j=⟨b,o+j,none⟩:=qz b o j;obtain⟨w2,h1,h2,h3⟩:=ih (j+1) (w.setCell ⟨b,o+j,none⟩ c) (cs.set (o+j) c) (hb.set (o+j) c) (by simp;omega) hone.2;refine⟨w2,?_,?_,(Chg.set w b (o+j) c).trans h3 λx hx=>.inl hx⟩
   ·simp only[storeCells,ha];have hst:=run_store P w ⟨b,o+j,none⟩ c .plain hone.1;simp[hst,stored,hc,hfz];exact h1
   ·have e1:(cs.set (o+j) c).take (o+(j+1))=cs.take (o+j)++[c]:=by
     rw[<-aav,List.take_succ_eq_append_getElem (by simpa using ho),List.take_set_of_le<|aag _];simp
    have e2:(cs.set (o+j) c).drop (o+(j+1)+r.length)=cs.drop (o+j+(r.length+1)):=by
     rw[List.drop_set_of_lt<|by omega];congr 1;omega
    rw[e1,e2]at h2;simpa using h2
 obtain⟨w1,h1,h2,h3⟩:=key v.cells.toList 0 w cs hb (by simp;omega) hone;refine⟨w1,λ_ _ _ _=>?_,by simpa[hv]using h2,h3⟩;simp only[execOp,h.eval hx,h.eval hy];simp[Instr.storeAt,Instr.sureAddr,storeVar,sizeOf,typeInfo,hi,hs,hv,h1]
theorem vy:∀{vs:List V} {xs:List Value},LRel S w ρ vs xs->vs.all V.one=true->xs.all (·.oneCell')=true
 |[],xs,hl,h1=>by simp only[LRel]at hl;subst hl;rfl
 |v::r,xs,hl,h1=>by simp only[LRel]at hl;obtain⟨x,ys,rfl,h2,E⟩:=hl;simp only[List.all_cons,aab]at h1⊢;exact⟨h2.one h1.1,vy E h1.2⟩
theorem KA{X:YN}{id:Nat}(hr:HRel S w ρ h)(G:Chg X w w')(J:∀b,b∈X->own ρ id (h id) b):Up S S w w' ρ ρ:=
 ⟨λ_ h=>h,λb hb E=>G.block b E λhx=>hr.sep id b (J b hx) hb,λ_ _ h=>h⟩
theorem Qc{id:Nat}(hr:HRel S w ρ h)(fr:Fr a n<|fA a)(hx:Opd S w ρ a x<|.ptr id o)(hy:Opd S w ρ a y v)(ho:h id=.var tb cs)(hz:dr P t=some m)(hv:v.cells.length=m)(h1:v.cells.all V.one=true)(hm:o+m<=cs.length):
  Does P S w ρ h a ty (.store t x y) none (bi h id<|.var tb<|tO cs o v.cells) (·=id):=by
 obtain⟨b,xs,g1,g2,J⟩:=qP hr ho;obtain⟨z,k1,U⟩:=hy;have E:=U.cells.length;simp only[Array.length_toList]at E;obtain⟨w',r1,r2,Z⟩:=Db (P:=P) (t:=t) (m:=m) fr (Cs hx g1) k1 hz (by omega) (vy U.cells h1) g2 (by have :=J.length;omega) ty;have hX:∀c,c∈[b]->own ρ id (h id) c:=λc G=>by simp at G;subst G;rw[ho];exact g1
 have u:=KA hr Z hX;refine⟨_,w',ρ,r1,qx hr Z hX ⟨b,_,g1,r2,?_⟩ (λc G=>by rw[ho];exact G),I⟩;unfold tO;rw[hv];exact(((J.take o).append U.cells).append<|J.drop _).up u
theorem CRel.set{sz:Nat}:∀{vs:List V} {xs:List Value} {i:Nat} {v:V} {x:Value},CRel S w ρ sz vs xs->i<vs.length->VRel S w ρ v x->x.cells.size=sz->x.cells.toList.all (·.oneCell')=true->CRel S w ρ sz (vs.set i v) (xs.take (i*sz)++x.cells.toList++xs.drop (i*sz+sz))
 |[],xs,i,v,x,hc,hi,hx,hs,h1=>by simp at hi
 |u::r,xs,0,v,x,hc,hi,hx,hs,h1=>by simp only[CRel]at hc;obtain⟨y,ys,rfl,⟨h2,h2'⟩,h3,h4⟩:=hc;refine⟨x,ys,?_,⟨hs,h1⟩,hx,h4⟩;simp[h2,List.drop_append]
 | u::r,xs,i+1,v,x,hc,hi,hx,hs,h1=>by
  simp only[CRel]at hc;obtain⟨y,ys,rfl,⟨h2,h2'⟩,h3,h4⟩:=hc;have ih:=CRel.set (i:=i) h4 (by simpa using hi) hx hs h1;refine⟨y,_,?_,⟨h2,h2'⟩,h3,ih⟩;have e1:(y.cells.toList++ys).take ((i+1)*sz)=y.cells.toList++ys.take (i*sz):=by
   rw[List.take_append,List.take_of_length_le<|by simp[h2,Nat.add_mul]]
   congr 2
   simp[h2,Nat.add_mul]
  have e2:(y.cells.toList++ys).drop ((i+1)*sz+sz)=ys.drop (i*sz+sz):=by
   rw[List.drop_append,List.drop_of_length_le<|by simp[h2,Nat.add_mul]];simp[h2,Nat.add_mul]
  rw[e1,e2];simp
def V.over(v0:V)(o:Nat)(ps:List V):V:=match v0 with
 |.agg cs=>.agg<|tO cs o ps
 |v0=>match ps with
  |[p]=>p
  |_=>v0
theorem zK{id:Nat}(hr:HRel S w ρ h)(fr:Fr a n<|fA a)(hx:Opd S w ρ a x<|.el id sz i o)(hy:Opd S w ρ a y v)(ho:h id=.row e sz els)(hz:dr P t=some m)(hi:els[i]?=some v0)(hv:v.cells.length=m)(h1:v.cells.all V.one=true)(hm:o+m<=v0.cells.length)
  (hv0:(∃cs,v0=.agg cs)∨(v0.cells=[v0]∧v.cells=[v])):Does P S w ρ h a ty (.store t x y) none (bi h id<|.row e sz<|els.set i<|v0.over o v.cells) (·=id):=by
 obtain⟨u,xs,g1,g2,g3⟩:=jp hr ho;obtain⟨b,k,c,rfl,hx'⟩:=FN hx g1;obtain⟨z,k1,k2⟩:=hy;have hlen:=k2.cells.length;simp only[Array.length_toList]at hlen;obtain⟨z0,q1,q2,q3⟩:=g3.get hi;have hle:i<els.length:=(List.getElem?_eq_some_iff.1 hi).1;have hmul:(i+1)*sz<=els.length*sz:=Nat.mul_le_mul_right _ hle;rw[Nat.add_mul,Nat.one_mul]at hmul;have hl0:=q1.cells.length;simp only[Array.length_toList]at hl0;have hxl:=g3.length;rcases g2.2 with⟨hc,_⟩|⟨g,cap,cur,hv1,hb,hg,h4,h5,h6,h7⟩
 ·cases hc
 ·injection hv1 with hv2 hv3 hv4
  injection hv2 with hv2
  injection hv2 with hv2
  subst hv2 hv3 hv4;have hcap:els.length*sz<=c*sz:=Nat.mul_le_mul_right _ h4;have hB:Blk w b e cur.toList:=by unfold Blk;rw[hg]
  obtain⟨w',r1,r2,r3⟩:=Db (P:=P) (t:=t) (m:=m) fr hx' k1 hz (by omega) (vy k2.cells h1) hB (by simp;omega) ty;have hX:∀d,d∈[b]->own ρ id (h id) d:=λd hd=>by simp at hd;subst hd;rw[ho];exact⟨_,g1,rfl⟩
  have up:=KA hr r3 hX;have hnew:∃q,VRel S w ρ (v0.over o v.cells) q∧q.cells.toList=z0.cells.toList.take o++z.cells.toList++z0.cells.toList.drop (o+m):=by
   rcases hv0 with⟨cs,rfl⟩|⟨e1,e2⟩
   ·refine⟨.agg (z0.cells.toList.take o++z.cells.toList++z0.cells.toList.drop (o+m)).toArray,?_,by simp[Value.cells]⟩;simp only[V.over,VRel];refine⟨_,I,?_⟩;unfold tO;rw[hv];exact((q1.cells.take o).append k2.cells).append<|q1.cells.drop _
   ·have :v0.over o v.cells=v:=by
     rw[e2];cases v0 with
     |agg cs=>
      simp only[V.cells]at e1;have hs:=congrArg SizeOf.sizeOf e1;simp at hs;omega
     |_=>rfl
    rw[this];refine⟨z,k2,?_⟩;rw[e1]at hm hl0;rw[e2]at hv;simp at hm hl0 hv;subst hv;obtain rfl:o=0:=by omega
    rw[List.drop_of_length_le (l:=z0.cells.toList)<|by simp[hl0]];simp
  obtain⟨q,hn1,hn2⟩:=hnew;have hsz':q.cells.size=sz:=by have :=congrArg List.length hn2;simp only[Array.length_toList,aac,aaB,aaE]at this;rw[this];omega
  have hones:(z0.cells.toList.take o++z.cells.toList++z0.cells.toList.drop (o+m)).all (·.oneCell')=true:=by
   have hall:z0.cells.toList.all (·.oneCell')=true:=by
    have h0:∀j,j<sz->∃u,z0.cells.toList[j]?=some u∧u.oneCell'=true:=λj hj=>by
     have hq:=q3 j hj;have :i*sz+j<xs.length:=by omega
     refine⟨xs[i*sz+j],?_,g3.ones _<|List.getElem_mem _⟩;rw[<-hq];simp[this]
    rw[List.all_eq_true];intro u hu;obtain⟨j,hj,rfl⟩:=aaC hu;obtain⟨u',e1,e2⟩:=h0 j (by simp at hj;omega);rw[List.getElem?_eq_getElem hj]at e1;cases e1;exact e2
   have hall2:=vy k2.cells h1;rw[List.all_eq_true]at hall hall2⊢;intro u hu;simp only[aaj]at hu;rcases hu with(hu|hu)|hu
   ·exact hall u<|List.mem_of_mem_take hu
   ·exact hall2 u hu
   ·exact hall u<|List.mem_of_mem_drop hu
  have hset:=CRel.set (i:=i) g3 hle hn1 hsz' (by rw[hn2];exact hones);rw[hn2]at hset;have hcur:cur.toList.take (els.length*sz)=xs:=h7;have e9:xs.take (i*sz)++(z0.cells.toList.take o++z.cells.toList++z0.cells.toList.drop (o+m))++xs.drop (i*sz+sz)=xs.take (i*sz+o)++z.cells.toList++xs.drop (i*sz+o+m):=by
   apply List.ext_getElem?;intro j;have hz0:∀j,j<sz->z0.cells.toList[j]?=xs[i*sz+j]?:=λj hj=>(q3 j hj).symm;have L1:(xs.take<|i*sz).length=i*sz:=by simp;omega
   have L2:(z0.cells.toList.take o).length=o:=by simp;omega
   have L3:z.cells.toList.length=m:=by simp;omega
   have L4:(z0.cells.toList.drop<|o+m).length=sz-(o+m):=by simp;omega
   have L5:(xs.take<|i*sz+o).length=i*sz+o:=by simp;omega
   simp only[List.getElem?_append,L1,L2,L3,L4,L5,aac,List.getElem?_take,List.getElem?_drop];by_cases c1:j<i*sz
   ·simp[c1,show j<i*sz+(o+m+(sz-(o+m))) by omega,show j<i*sz+o+m by omega,show j<i*sz+o by omega]
   ·by_cases c2:j<i*sz+o
    ·simp[c1,c2,show j<i*sz+(o+m+(sz-(o+m))) by omega,show j<i*sz+o+m by omega,show j-i*sz<o+m by omega,show j-i*sz<o by omega];have :=hz0 (j-i*sz) (by omega);simp at this;rw[this];congr 1;omega
    ·by_cases c3:j<i*sz+o+m
     ·simp[c1,c2,c3,show j<i*sz+(o+m+(sz-(o+m))) by omega,show j-i*sz<o+m by omega,show¬j-i*sz<o by omega]
      congr 1;omega
     ·by_cases c4:j<i*sz+sz
      ·simp[c1,c2,c3,show j<i*sz+(o+m+(sz-(o+m))) by omega,show¬j-i*sz<o+m by omega];rw[show o+m+(j-i*sz-(o+m))=j-i*sz by omega];have :=hz0 (j-i*sz) (by omega);simp at this;rw[this];congr 1;omega
      ·simp[c1,c2,c3,show¬j<i*sz+(o+m+(sz-(o+m))) by omega]
       congr 1;omega
  rw[e9]at hset;refine⟨_,w',ρ,r1,qx hr r3 hX ⟨_,_,g1,⟨?_,.inr ⟨b,c,(cur.toList.take (i*sz+o)++z.cells.toList++cur.toList.drop (i*sz+o+m)).toArray,?_,hb,r2,by simpa using h4,h5,?_,I⟩⟩,?_⟩ (λd hd=>by rw[ho];exact hd),I⟩
  ·simp;omega
  ·simp
  ·simp;omega
  ·have e10:List.take ((els.set i<|v0.over o v.cells).length*sz) (cur.toList.take (i*sz+o)++z.cells.toList++cur.toList.drop (i*sz+o+m)).toArray.toList=xs.take (i*sz+o)++z.cells.toList++xs.drop (i*sz+o+m):=by
    simp only[aay];rw[<-hcur];apply List.ext_getElem?;intro j;have K1:(cur.toList.take<|i*sz+o).length=i*sz+o:=by simp;omega
    have K2:(List.take (i*sz+o)<|List.take (els.length*sz) cur.toList).length=i*sz+o:=by simp;omega
    simp only[List.getElem?_take,List.getElem?_append,K1,K2,aac,Array.length_toList,List.getElem?_drop];by_cases c0:j<els.length*sz
    ·by_cases c1:j<i*sz+o
     ·simp[c0,c1,show j<i*sz+o+z.cells.size by omega]
     ·by_cases c2:j<i*sz+o+z.cells.size
      ·simp[c0,c1,c2]
      ·simp[c0,c1,c2,show i*sz+o+m+(j-(i*sz+o+z.cells.size))<els.length*sz by omega]
    ·simp[c0,show¬j<i*sz+o+z.cells.size by omega,show¬i*sz+o+m+(j-(i*sz+o+z.cells.size))<els.length*sz by omega]
   rw[e10];exact hset.up up
end
section
variable{P:Program}{S:Nat->Prop}{w w':World}{ρ ρ':Nat->Option Value}{h h':Nat->Ob}{a:Act}{n:Nat}{ty:TypeId}
def lr(sz:Nat):Nat->List (Nat×V)->Option (List V)
 |_,[]=>some []
 |i,(j,v)::r=>match Nat.beq i j&&Nat.beq v.cells.length sz&&v.cells.all V.one with
  |true=>match lr sz (i+1) r with
   |some vs=>some<|v::vs
   |none=>none
  |false=>none
theorem vj{sz:Nat}:∀{vs:List<|Nat×V} {ys:List<|Nat×Value} {i:Nat} {els:List V},iT S w ρ vs ys->lr sz i vs=some els->
  ys.map (·.1)=(List.range' i els.length)∧(ys.all λp=>p.2.cells.size==sz)=true∧CRel S w ρ sz els (ys.flatMap λp=>p.2.cells.toList)
 |[],ys,i,els,hp,hr=>by simp only[iT]at hp;subst hp;simp only[lr,aaa]at hr;subst hr;simp[CRel]
 | (j,v)::r,ys,i,els,hp,hr=>by
  simp only[iT]at hp;obtain⟨x,zs,rfl,hx,hq⟩:=hp;simp only[lr]at hr;split at hr
  ·rename_i hc;simp only[aab,Nat.beq_eq]at hc;split at hr
   ·rename_i vs hvs;simp only[aaa]at hr;subst hr;obtain⟨h1,h2,h3⟩:=vj hq hvs;have hl:=hx.cells.length;simp only[Array.length_toList]at hl;refine⟨?_,?_,?_⟩
    ·simp[h1,hc.1.1,List.range'_succ]
    ·simp only[List.all_cons,h2,Bool.and_true,aar];rw[hl,hc.1.2]
    ·simp only[List.flatMap_cons];exact⟨x,_,I,⟨by rw[hl,hc.1.2],vy hx.cells hc.2⟩,hx,h3⟩
   ·cases hr
  ·cases hr
theorem MY{vs:List<|Nat×V}{ys:List<|Nat×Value}{m:Nat}{z:List Value}{els:List V}(hr:HRel S w ρ h)(fr:Fr a n<|fA a)(hf:h nid=.free)(E:eb (fA a) ps=some ys)(U:iT S w ρ vs ys)(ht:P.underlying t=some (.slice e))(hz:dr P e=some sz)(hzero:lY P e=some z)
  (hp:lr sz 0 vs=some els) (hl:els.length=m) (Z:Nat.ble (m*sz) 16777216=true) (hm:Nat.ble m 16777216=true):Does P S w ρ h a ty (.buildSlice t m ps.toArray) (some<|.sl nid) (bi h nid<|.row e sz els) (λ_=>False):=by
 obtain⟨h1,h2,h3⟩:=vj U hp;have G:ps.map (·.1)=List.range m:=by
  have :ps.map (·.1)=ys.map (·.1):=by rw[<-fr.parts E];simp
  rw[this,h1,hl,List.range_eq_range']
 obtain⟨w',b,g1,g2,g3,g4,g5⟩:=ra (P:=P) (t:=t) (m:=m) fr E ht hz hzero G h2 Z rfl w ty;have J:=h3.length;have hmm:m<=16777216:=Nat.le_of_ble_eq_true hm;have own:=wF (base:=0) g2 (aat _) (m:=m) (size:=sz) (by rw[J,hl]) (by simp only[Nat.ble_eq,maxLen];omega);refine⟨_,w',cj ρ nid<|.slice (some ⟨b,0,none⟩) m m,g1,eff_new hr hf g3 ⟨_,_,aV _ _ _,by rw[hl];exact own,h3.up<|AM hr hf g3⟩ λb' hb'=>?_,_,I,?_⟩
 ·obtain⟨v,e1,e2⟩:=hb';rw[aV]at e1;cases e1;simp[Value.ownBlock]at e2;omega
 ·simp only[VRel];exact⟨aV _ _ _,rfl⟩
theorem Dq{z:List Value}(hz:0<z.length):∀m,(madeCells z.toArray<|m*z.length).toList=(List.replicate m z).flatten:=by
 intro m;apply List.ext_getElem?;intro j;have hl:((List.replicate m z).flatten).length=m*z.length:=by simp
 by_cases hj:j<m*z.length
 ·have hlt:j%z.length<z.length:=Nat.mod_lt _ hz;have h1:(madeCells z.toArray<|m*z.length).toList[j]?=some z[j%z.length]:=by
   simp[madeCells,hj,hlt]
  rw[h1];have key:∀(m j:Nat),j<m*z.length->((List.replicate m z).flatten)[j]?=some (z[j%z.length]'(Nat.mod_lt _ hz)):=by
   intro m
   induction m with
   |zero=>intro j hj;simp at hj
   | succ m ih=>
    intro j hj;simp only[List.replicate_succ,List.flatten_cons];by_cases hc:j<z.length
    ·rw[List.getElem?_append_left hc];simp[Nat.mod_eq_of_lt hc,hc]
    ·rw[List.getElem?_append_right (by omega),ih (j-z.length) (by rw[Nat.add_mul]at hj;omega)]
     congr 1
     have :(j-z.length)%z.length=j%z.length:=by
      conv=>rhs;rw[show j=(j-z.length)+z.length by omega]
      simp
     simp[this]
  exact(key m j hj).symm
 ·rw[List.getElem?_eq_none (by simp[madeCells];omega),List.getElem?_eq_none (by rw[hl];omega)]
theorem Ev{sz:Nat}{zv:V}{z:Value}(hz:z.cells.size=sz)(h1:z.cells.toList.all (·.oneCell')=true)(hv:VRel S w ρ zv z):∀m,CRel S w ρ sz (List.replicate m zv) ((List.replicate m z.cells.toList).flatten)
 |0=>by simp[CRel]
 |m+1=>by simp only[List.replicate_succ,List.flatten_cons];exact⟨z,_,I,⟨hz,h1⟩,hv,Ev hz h1 hv m⟩
theorem Kj{sz by_:Nat}{z:Value}{zv:V}(hr:HRel S w ρ h)(fr:Fr a n<|fA a)(hf:h nid=.free)(hx:Opd S w ρ a x<|.int .i64 (m:Int))(hy:Opd S w ρ a y<|.int .i64 (m:Int))(ht:P.underlying t=some (.slice e))
  (hi:(P.info? e).map (λi=>(i.zero,i.size,i.bytes))=some (some z,sz,by_)) (hzs:z.cells.size=sz) (hsz:0<sz) (h1:z.cells.toList.all (·.oneCell')=true) (J:∀S w ρ,VRel S w ρ zv z) (hb:by_*m<=281474976710656) (hm:m<=maxLen):
  Does P S w ρ h a ty (.makeSlice t x y) (some<|.sl nid) (bi h nid<|.row e sz<|List.replicate m zv) (λ_=>False):=by
 have U:m<=9223372036854775807:=by simp only[maxLen]at hm;omega
 have Z:madeCells z.cells (m*sz)=(List.replicate m z.cells.toList).flatten.toArray:=by rw[<-Dq (by simp;omega)];simp[hzs]
 obtain⟨w',b,g1,g2,g3,g4,g5⟩:=PO (P:=P) fr (aW hx) (aW hy) ht hi (by simpa using hb) (by simpa using U) Z w ty;have G:=Ev (S:=S) (w:=w) (ρ:=ρ) hzs h1 (J _ _ _) m;have E:=G.length;simp only[List.length_replicate]at E;have own:=wF (base:=0) g2 (aat _) (m:=m) (size:=sz) E (by simpa using hm);refine⟨_,w',cj ρ nid<|.slice (some ⟨b,0,none⟩) m m,g1,eff_new hr hf g3 ⟨_,_,aV _ _ _,by simpa using own,G.up<|AM hr hf g3⟩ λb' hb'=>?_,_,I,?_⟩
 ·obtain⟨v,e1,e2⟩:=hb';rw[aV]at e1;cases e1;simp[Value.ownBlock]at e2;omega
 ·simp only[VRel];exact⟨aV _ _ _,rfl⟩
theorem Bk{c d:Nat}{B:Option Addr}(ht:P.underlying t=some (.slice e))(hz:dr P e=some sz)(G:k<=c):(Builtin.append_ #[t,t] ty #[.slice A k c,.slice B 0 d]).run P w=.ok (.slice A k c) w:=by
 obtain⟨inf,hi,hs⟩:=Option.map_eq_some_iff.1 (show(P.info? e).map (·.size)=some sz from hz);have E:(sizeOf e).run P w=.ok sz w:=by simp[sizeOf,typeInfo,hi,hs]
 cases A<;>cases B<;>simp[Builtin.append_,run_underlying ht,E,Builtin.lenOf,Builtin.firstCells,G,loadCells,loadCellsFrom,storeCells]
def rm(S:Nat->Prop)(w:World)(ρ:Nat->Option Value)(sz:Nat)(els:List V)(y:Value):Prop:=
 ∃A c xs,y=.slice A els.length c∧CRel S w ρ sz els xs∧(0<els.length->∃b off,A=some ⟨b,off,none⟩∧∀j,j<els.length*sz->w.cell? ⟨b,off+j,none⟩=xs[j]?)
theorem OX{y:Value}(hy:VRel S w ρ (.row sz els) y):rm S w ρ sz els y:=by simp only[VRel]at hy;obtain⟨A,c,xs,rfl,U,Z,E,G⟩:=hy;exact⟨A,c,xs,rfl,E.up up0,λhn=>by obtain⟨b,off,e,_,_,J⟩:=G.2 hn;exact⟨b,off,e,J⟩⟩
theorem Mw{y:Value}(hy:VRel S w ρ .nils y):rm S w ρ sz [] y:=by simp only[VRel]at hy;subst hy;exact⟨none,0,[],rfl,by simp[CRel],λhn=>by simp at hn⟩
theorem Pd{id:Nat}{y:Value}(hr:HRel S w ρ h)(ho:h id=.row e sz els)(hy:VRel S w ρ (.sl id) y):rm S w ρ sz els y:=by
 simp only[VRel]at hy;obtain⟨v,xs,h1,h2,G⟩:=jp hr ho;rw[hy.1]at h1;cases h1;obtain⟨A,c,rfl,_⟩:=bY h2;refine⟨A,c,xs,I,G,λhn=>?_⟩;obtain⟨g,cap,hv,_⟩:=h2.form hn;injection hv with E _ J
 subst E;exact⟨g,0,I,λj U=>by rw[Nat.zero_add];exact fW h2 U⟩
theorem rN{by_:Nat}{z u v:Value}{news:List V}(fr:Fr a n<|fA a)(hx:aD (fA a) x=some u)(hy:aD (fA a) y=some v)(hu:w.ownsRow 0 e sz u els.length xs)(Z:CRel S w ρ sz els xs)(hv:rm S w ρ sz news v)(ht:P.underlying t=some (.slice e))
  (hi:(P.info? e).map (λi=>(i.zero,i.size,i.bytes))=some (some z,sz,by_)) (hzs:z.cells.size=sz) (hsz:0<sz) (h63:els.length+news.length<=maxLen) (hby:(els.length+news.length)*by_<=140737488355328):
  ∃U w' ys,Runs P a ty (.call {callee:=.builtin .append,args:=#[x,y],argTypes:=#[t,t]}) w (.value U) w'∧w'.ownsRow 0 e sz U (els.length+news.length) ys∧CRel S w ρ sz (els++news) ys∧Chg u.ownBlock.toList w w'∧(U.ownBlock=u.ownBlock∨U.ownBlock=some w.heap.size):=by
 obtain⟨A,c,ns,rfl,E,hcell⟩:=hv;have hsize:dr P e=some sz:=by obtain⟨i0,J,G⟩:=Option.map_eq_some_iff.1 hi;simp only[Prod.mk.injEq]at G;simp[dr,J,G.2.1]
 by_cases hn:news=[]
 ·subst hn;simp only[CRel]at E;subst E;obtain⟨B,d,rfl,hd,_⟩:=bY hu;refine⟨.slice B els.length d,w,xs,λ_ _ _ _=>?_,by simpa using hu,by simpa using Z,Chg.refl _ _,.inl I⟩;simp only[execOp,resolve,invoke,builtin,List.map_toArray,aah,aau,fr.eval hx,fr.eval hy];have :=Bk (P:=P) (w:=w) (ty:=ty) (A:=B) (B:=A) (d:=c) ht hsize hd;simp only[aae];simp[this]
 ·have hpos:0<news.length:=List.length_pos_iff.2 hn;obtain⟨b,off,rfl,hc⟩:=hcell hpos;obtain⟨i0,J,G⟩:=Option.map_eq_some_iff.1 hi;simp only[Prod.mk.injEq]at G;obtain⟨hz,hs,hbb⟩:=G;obtain⟨U,w',hrun,h2,h3,_,h5⟩:=run_append_own_at (P:=P) w 0 t ty e i0 z sz by_ ht J hz hs hbb hzs hsz u els.length xs hu ⟨b,off,none⟩ news.length c ns E.length
   (λj q hq=>by have hj:j<ns.length:=(List.getElem?_eq_some_iff.1 hq).1;rw[qz,hc j (by rw[<-E.length];exact hj)];exact hq) E.ones h63 hby (aat _)
  refine⟨U,w',xs++ns,λ_ _ _ _=>?_,h2,Z.append E,Chg.grown h3,h5⟩;simp only[execOp,resolve,invoke,builtin,List.map_toArray,aah,aau,fr.eval hx,fr.eval hy];simp[hrun]
theorem rU{e:Nat}{v:Value}(hv:w.ownsRow base e sz v k xs):v.oneCell'=true:=by obtain⟨A,c,rfl,_⟩:=bY hv;rfl
section
variable{t e:TypeId}{x y:Operand}{sz by_ nid:Nat}{z v:Value}{els news:List V}(hr:HRel S w ρ h)(fr:Fr a n (fA a))(hf:h nid=.free)(hy:aD (fA a) y=some v)(hv:rm S w ρ sz news v)(ht:P.underlying t=some (.slice e))
    (hi:(P.info? e).map (λi=>(i.zero,i.size,i.bytes))=some (some z,sz,by_)) (hzs:z.cells.size=sz) (hsz:0<sz)
include hr fr hf hy hv ht hi hzs hsz
theorem DW{id:Nat}(hx:Opd S w ρ a x<|.sl id)(ho:h id=.row e sz els)(J:els.length+news.length<=maxLen)(U:(els.length+news.length)*by_<=140737488355328):
  Does P S w ρ h a ty (.call {callee:=.builtin .append,args:=#[x,y],argTypes:=#[t,t]}) (some<|.sl nid) (bi (bi h id .gone) nid<|.row e sz<|els++news) (·=id):=by
 obtain⟨u,k1,G⟩:=hx;simp only[VRel]at G;obtain⟨u',xs,h1,h2,h3⟩:=jp hr ho;rw[G.1]at h1;cases h1;obtain⟨Z,w',ys,g1,g2,g3,g4,E⟩:=rN (P:=P) (ty:=ty) fr k1 hy h2 h3 hv ht hi hzs hsz J U;have hX:∀b,b∈u.ownBlock.toList->own ρ id (h id) b:=λb hb=>by simp at hb;rw[ho];exact⟨u,G.1,hb⟩
 have hn:ρ nid=none:=by have :=hr.ob nid;rw[hf]at this;exact this
 have up:Up S S w w' ρ (cj ρ nid Z):=by
  refine⟨λ_ h=>h,λb hb hlt=>g4.block b hlt λhc=>hr.sep id b (hX b hc) hb,λi q hq=>?_⟩;have :i≠nid:=λe=>by subst e;rw[hn]at hq;cases hq
  rw[lU _ _ this];exact hq
 refine⟨_,w',cj ρ nid Z,g1,AC hr hf (by rw[ho];simp) g4 hX ⟨Z,ys,aV _ _ _,by simpa using g2,g3.up up⟩ λb hb=>?_,_,rfl,?_⟩
 ·obtain⟨q,e1,e2⟩:=hb;rw[aV]at e1;cases e1;rcases E with E|E
  ·exact .inl (by rw[ho];exact⟨u,G.1,by rw[<-E];exact e2⟩)
  ·rw[E]at e2;simp at e2;exact .inr (by omega)
 ·simp only[VRel];exact⟨aV _ _ _,rU g2⟩
theorem KW(hx:Opd S w ρ a x .nils)(J:news.length<=maxLen)(U:news.length*by_<=140737488355328):
  Does P S w ρ h a ty (.call {callee:=.builtin .append,args:=#[x,y],argTypes:=#[t,t]}) (some<|.sl nid) (bi h nid<|.row e sz news) (λ_=>False):=by
 obtain⟨u,k1,k2⟩:=hx;simp only[VRel]at k2;subst k2;obtain⟨Z,w',ys,g1,g2,g3,g4,E⟩:=rN (P:=P) (ty:=ty) (els:=[]) (xs:=[]) fr k1 hy (World.ownsRow_nil w 0 e sz) (by simp[CRel]) hv ht hi hzs hsz (by simpa using J) (by simpa using U);have up:=AM (x:=Z) hr hf g4;simp only[aae,Nat.zero_add,aal]at g2 g3;refine⟨_,w',cj ρ nid Z,g1,eff_new hr hf g4 ⟨Z,ys,aV _ _ _,g2,g3.up up⟩ λb hb=>?_,_,I,?_⟩
 ·obtain⟨q,e1,G⟩:=hb;rw[aV]at e1;cases e1;rcases E with E|E
  ·rw[E]at G;cases G
  ·rw[E]at G;simp at G;omega
 ·simp only[VRel];exact⟨aV _ _ _,rU g2⟩
end
theorem In{id:Nat}(hr:HRel S w ρ h)(fr:Fr a n<|fA a)(hf:h nid=.free)(hx:Opd S w ρ a x<|.sl id)(hy:Opd S w ρ a y<|.int .i64 (k:Int))(ho:h id=.row e sz els)(ht:P.underlying t=some (.slice e))(hz:dr P e=some sz)(hk:k<=els.length):
  Does P S w ρ h a ty (.slice t x none (some y) none) (some<|.sl nid) (bi (bi h id .gone) nid<|.row e sz<|els.take k) (·=id):=by
 obtain⟨u,k1,k2⟩:=hx;simp only[VRel]at k2;obtain⟨u',xs,h1,h2,h3⟩:=jp hr ho;rw[k2.1]at h1;cases h1;obtain⟨A,c,rfl,hc,hcm⟩:=bY h2;have E:=LB (P:=P) (w:=w) (ty:=ty) (lo:=none) (hi:=some y) (i:=0) (j:=k) fr ht hz k1 (.inl ⟨rfl,rfl⟩) (.inr ⟨y,rfl,aW hy⟩) (aat _) hk hc;have eA:(if c=0 then A else A.map (·.add (0*sz)))=A:=by
  split
  ·rfl
  ·cases A with
   |none=>rfl
   |some ad=>simp[Addr.add]
 rw[eA]at E;simp only[Nat.sub_zero]at E;have hn:ρ nid=none:=by have :=hr.ob nid;rw[hf]at this;exact this
 have up:Up S S w w ρ (cj ρ nid<|.slice A k c):=by
  refine⟨λ_ h=>h,λb hb hlt=>I,λi q hq=>?_⟩;have :i≠nid:=λe=>by subst e;rw[hn]at hq;cases hq
  rw[lU _ _ this];exact hq
 have U:(els.take k).length=k:=by simp;omega
 have own':w.ownsRow 0 e sz (.slice A k c) k (xs.take<|k*sz):=by
  have G:k*sz<=els.length*sz:=Nat.mul_le_mul_right _ hk;refine⟨by rw[aaB,h2.1,aaF G],?_⟩;rcases h2.2 with⟨h0,h0'⟩|⟨g,cap,cur,hv,q1,q2,q3,q4,q5,q6⟩
  ·injection h0 with J Z e3
   subst J e3;exact .inl ⟨by rw[show k=0 by omega],by omega⟩
  ·injection hv with J Z e3
   subst J e3;refine .inr ⟨g,c,cur,I,q1,q2,by omega,q4,q5,?_⟩;rw[<-q6,List.take_take,aaF G]
 refine⟨_,w,cj ρ nid<|.slice A k c,E,AC (X:=[]) hr hf (by rw[ho];simp) (Chg.refl _ _) (by simp) ⟨_,_,aV _ _ _,by rw[U];exact own',(h3.take k).up up⟩ λb hb=>?_,_,rfl,?_⟩
 ·obtain⟨q,J,Z⟩:=hb;rw[aV]at J;cases J;exact .inl (by rw[ho];exact⟨_,k2.1,by cases A<;>simp[Value.ownBlock]at Z⊢;exact Z⟩)
 ·simp only[VRel];exact⟨aV _ _ _,rfl⟩
theorem fE{id:Nat}(hr:HRel S w ρ h):HRel (λb=>S b∨own ρ id (h id) b) w ρ (bi h id .gone)∧Up S (λb=>S b∨own ρ id (h id) b) w w ρ ρ:=by
 have up:Up S (λb=>S b∨own ρ id (h id) b) w w ρ ρ:=⟨λ_ h=>.inl h,λ_ _ _=>rfl,λ_ _ h=>h⟩;have back:∀i b,own ρ i (bi h id .gone i) b->i≠id∧own ρ i (h i) b:=λi b hb=>by
  by_cases hi:i=id
  ·subst hi;rw[aP]at hb;exact hb.elim
  ·rw[aY _ _ hi]at hb;exact⟨hi,hb⟩
 refine⟨⟨λi=>?_,λi b hb=>?_,λi j b E G=>hr.dis i j b (back i b E).2 (back j b G).2,hr.slt.up up λb hb=>?_⟩,up⟩
 ·by_cases hi:i=id
  ·subst hi;rw[aP];trivial
  ·rw[aY _ _ hi];refine(hr.ob i).up up (λhf=>?_) λ_ _=>I;have :=hr.ob i;rw[hf]at this;exact this
 ·obtain⟨h1,h2⟩:=back i b hb;rintro(J|J)
  ·exact hr.sep i b h2 J
  ·exact h1<|hr.dis i id b h2 J
 ·rcases hb with hb|hb
  ·exact hr.slt b hb
  ·exact cY (hr.ob id) hb
theorem Bi{id:Nat}{x:Value}(hr:HRel S w ρ h)(ho:h id=.row e sz els)(hp:pureL els=true)(hx:VRel S w ρ (.sl id) x):VRel (λb=>S b∨own ρ id (h id) b) w ρ (.row sz els) x:=by
 simp only[VRel]at hx;obtain⟨v,xs,h1,h2,J⟩:=jp hr ho;rw[hx.1]at h1;cases h1;obtain⟨A,c,rfl,U,E⟩:=bY h2;simp only[VRel];refine⟨A,c,xs,I,U,E,(J.up (fE hr).2).pure hp,J.length,λhn=>?_⟩;obtain⟨g,cap,hv,_,G⟩:=h2.form hn;injection hv with Z e2 e3
 subst Z e3;exact⟨g,0,I,.inr (by rw[ho];exact⟨_,hx.1,I⟩),G,λj hj=>by rw[Nat.zero_add];exact fW h2 hj⟩
theorem IK{id:Nat}{x:Value}(hr:HRel S w ρ h)(ho:h id=.var t cs)(hp:pureL cs=true)(hx:VRel S w ρ (.ptr id o) x):VRel (λb=>S b∨own ρ id (h id) b) w ρ (.box cs o) x:=by simp only[VRel]at hx;obtain⟨b,xs,h1,h2,G⟩:=qP hr ho;obtain⟨b',E,rfl⟩:=hx;rw[h1]at E;simp only[aaa,Value.pointer.injEq,Addr.mk.injEq,and_true]at E;subst E;simp only[VRel];exact⟨b,0,xs,by simp,.inr (by rw[ho];exact h1),h2.lt,(G.up (fE hr).2).pure hp,λj J=>by rw[Nat.zero_add,h2.cell]⟩
end
abbrev Fm:=List (Option V)
def Fm.get:Fm->Nat->Option V
 |[],_=>none
 |x::_,0=>x
 |_::r,i+1=>Fm.get r i
def Fm.put{α:Type}:Fm->Nat->Option V->(Fm->α)->α
 |[],_,_,c=>c []
 |_::r,0,v,c=>c<|v::r
 |x::r,i+1,v,c=>Fm.put r i v λE=>c<|x::E
variable{α:Type}
def Fm.puto(F:Fm)(d:Option Tmp)(v:Option V)(c:Fm->α):α:=match d with
 |some d=>F.put d v c
 |none=>c F
def fC(n:Nat)(c:Nat->α):α:=match n with
 |0=>c 0
 |m+1=>c<|Nat.succ m
def Ka(n:Int)(c:Int->α):α:=match n with
 |.ofNat m=>fC m λm=>c<|.ofNat m
 |.negSucc m=>fC m λm=>c<|.negSucc m
def listK{α β:Type}:List β->(List β->α)->α
 |[],c=>c []
 |x::r,c=>listK r λE=>c<|x::E
theorem dB(n:Nat)(c:Nat->α):fC n c=c n:=by cases n<;>rfl
theorem HV(n:Int)(c:Int->α):Ka n c=c n:=by cases n<;>simp[Ka,dB]
theorem cW{α β:Type}:∀(l:List β) (c:List β->α),listK l c=c l
 |[],c=>rfl
 |x::r,c=>by simp[listK,cW r]
theorem Fm.get_eq:∀(F:Fm) (i:Nat),F.get i=(F[i]?).bind id
 |[],i=>by simp[Fm.get]
 |x::r,0=>by simp[Fm.get]
 |x::r,i+1=>by simp[Fm.get,Fm.get_eq r i]
theorem Fm.put_eq{α:Type}:∀(F:Fm) (i:Nat) (v:Option V) (c:Fm->α),F.put i v c=c (F.set i v)
 |[],i,v,c=>by simp[Fm.put]
 |x::r,0,v,c=>by simp[Fm.put]
 |x::r,i+1,v,c=>by simp[Fm.put,Fm.put_eq r i]
def Fm.seto(F:Fm)(d:Option Tmp)(v:Option V):Fm:=match d with
 |some d=>F.set d v
 |none=>F
theorem Fm.puto_eq(F:Fm)(d:Option Tmp)(v:Option V)(c:Fm->α):F.puto d v c=c (F.seto d v):=by
 cases d with
 |none=>rfl
 |some d=>exact Fm.put_eq F d v c
inductive TK where
 |sc
 |bool
 |str
 |sl (e:TypeId)
 |struct (fs:List (Nat×Nat×Bool))
 |arr (len:Nat) (e:TypeId)
structure TD where
 size:Nat
 bytes:Nat
 zero:V
 kind:TK
structure Tab where
 frc:Bool
 ty:TypeId->Option TD
 fn:FuncId->Option Func
 nat:FuncId->List V->Option V
 keep:FuncId->Bool
def Jg:Value->V->Bool
 |.int k n,.int k' m=>k==k'&&n==m
 |.bool b,.bool c=>b==c
 |.string s,.str l=>s.data.toList==l
 |.pointer none,.nilp=>true
 |.slice none 0 0,.nils=>true
 |.map none,.raw (.map none)=>true
 |_,_=>false
def II:List Value->List V->Bool
 |[],[]=>true
 |x::r,v::q=>Jg x v&&II r q
 |_,_=>false
def zEq:Value->V->Bool
 |.agg cs,.agg vs=>II cs.toList vs
 |x,v=>Jg x v
def vT(P:Program)(t:TypeId):Nat->List (Nat×Nat×Bool)->Bool
 |_,[]=>true
 |i,(o,s,b)::r=>(match b with
  |true=>sA P t i==some o
  |false=>tg P t i==some (o,s))&&gv P t i==some o&&vT P t (i+1) r
def nL(P:Program)(t:TypeId)(size:Nat):TK->Bool
 |.sc=>cM P t
 |.bool=>cM P t&&match P.underlying t with|some .bool=>true|_=>false
 |.str=>cM P t&&match P.underlying t with|some .string=>true|_=>false
 |.sl e=>cM P t&&match P.underlying t with|some (.slice E)=>e==E|_=>false
 |.struct fs=>mK P t==some size&&yZ P t==some (fs.map λp=>(p.1,p.2.1))&&vT P t 0 fs
 |.arr len e=>mK P t==some size&&match P.underlying t with|some (.array len' E)=>len==len'&&e==E|_=>false
def tdB(P:Program)(t:TypeId)(d:TD):Bool:=
 match P.info? t with
 |some inf=>match inf.zero with
  |some z=>inf.size==d.size&&inf.bytes==d.bytes&&zEq z d.zero&&z.cells.size==d.size&&nL P t d.size d.kind&&z.cells.toList.all (·.oneCell')
  |none=>false
 |none=>false
structure TdOk (P:Program) (t:TypeId) (d:TD):Prop where
 size:dr P t=some d.size
 info:∃z:Value,(P.info? t).map (λi=>(i.zero,i.size,i.bytes))=some (some z,d.size,d.bytes)∧(∀S w ρ,VRel S w ρ d.zero z)∧z.cells.size=d.size∧z.cells.toList.all (·.oneCell')=true
 kind:nL P t d.size d.kind=true
theorem Ig{S:Nat->Prop}{w:World}{x:Value}(h:Jg x v=true):VRel S w ρ v x:=by
 unfold Jg at h;split at h
 ·simp only[aab,aar]at h;simp only[VRel];rw[h.1,h.2]
 ·simp only[aar]at h;simp only[VRel];rw[h]
 ·simp only[aar]at h;simp only[VRel];rw[<-h]
 ·simp only[VRel]
 ·simp only[VRel]
 ·simp only[VRel];exact⟨trivial,rfl⟩
 ·cases h
theorem GZ{S:Nat->Prop}{w:World}{ρ:Nat->Option Value}:∀{xs:List Value} {vs:List V},II xs vs=true->LRel S w ρ vs xs
 |[],[],h=>by simp[LRel]
 |x::r,v::q,h=>by simp only[II,aab]at h;exact⟨x,r,I,Ig h.1,GZ h.2⟩
 |[],_::_,h=>by cases h
 |_::_,[],h=>by cases h
theorem yb{S:Nat->Prop}{w:World}{x:Value}(h:zEq x v=true):VRel S w ρ v x:=by
 unfold zEq at h;split at h
 ·simp only[VRel];exact⟨_,rfl,GZ h⟩
 ·exact Ig h
variable{P:Program}{d:TD}
theorem QA(h:tdB P t d=true):TdOk P t d:=by
 unfold tdB at h;split at h
 ·rename_i inf hi;split at h
  ·rename_i z hz;simp only[aab,aar]at h;obtain⟨⟨⟨⟨⟨h1,h2⟩,E⟩,G⟩,J⟩,U⟩:=h;exact⟨by simp[dr,hi,h1],⟨z,by simp[hi,hz,h1,h2],λS w ρ=>yb E,G,U⟩,J⟩
  ·cases h
 ·cases h
theorem TdOk.zeroT(h:TdOk P t d):∃z,lY P t=some z∧∀S w ρ,LRel S w ρ d.zero.cells z:=by obtain⟨z,h1,h2,_⟩:=h.info;obtain⟨J,G,E⟩:=Option.map_eq_some_iff.1 h1;simp only[Prod.mk.injEq]at E;exact⟨z.cells.toList,by unfold Go.Proofs.YtehhanlhfdoiaaaGreat.lY;simp[G,E.1],λS w ρ=>(h2 S w ρ).cells⟩
def TD.agg(d:TD):Bool:=match d.kind with
 |.struct _=>true
 |.arr _ _=>true
 |_=>false
theorem TdOk.sc(h:TdOk P t d)(J:d.agg=false):cM P t=true:=by
 have E:=h.kind;unfold TD.agg at J;cases G:d.kind with
 |sc=>rw[G]at E;exact E
 |bool=>rw[G]at E;simp only[nL,aab]at E;exact E.1
 |str=>rw[G]at E;simp only[nL,aab]at E;exact E.1
 |sl e=>rw[G]at E;simp only[nL,aab]at E;exact E.1
 |struct fs=>rw[G]at J;cases J
 |arr _ _=>rw[G]at J;cases J
theorem TdOk.ag(h:TdOk P t d)(G:d.agg=true):mK P t=some d.size:=by
 have E:=h.kind;unfold TD.agg at G;cases J:d.kind with
 |struct fs=>rw[J]at E;simp only[nL,aab,aar]at E;exact E.1.1
 |arr _ _=>rw[J]at E;simp only[nL,aab,aar]at E;exact E.1
 |_=>rw[J]at G;cases G
theorem TdOk.bool(h:TdOk P t d)(G:d.kind=.bool):P.underlying t=some .bool:=by
 have E:=h.kind;rw[G]at E;simp only[nL,aab]at E;have :=E.2;split at this
 ·assumption
 ·cases this
theorem TdOk.str(h:TdOk P t d)(G:d.kind=.str):P.underlying t=some .string:=by
 have E:=h.kind;rw[G]at E;simp only[nL,aab]at E;have :=E.2;split at this
 ·assumption
 ·cases this
theorem TdOk.sl(h:TdOk P t d)(G:d.kind=.sl e):P.underlying t=some (.slice e):=by
 have E:=h.kind;rw[G]at E;simp only[nL,aab]at E;have :=E.2;split at this
 ·rename_i U J;simp only[aar]at this;rw[this];exact J
 ·cases this
theorem TdOk.arr(h:TdOk P t d)(G:d.kind=.arr n e):P.underlying t=some (.array n e):=by
 have E:=h.kind;rw[G]at E;simp only[nL,aab]at E;have :=E.2;split at this
 ·rename_i U Z J;simp only[aab,aar]at this;rw[this.1,this.2];exact J
 ·cases this
theorem AR{P:Program}{t:TypeId}:∀{fs:List<|Nat×Nat×Bool} {k:Nat},vT P t k fs=true->∀i o s b,fs[i]?=some (o,s,b)->gv P t (k+i)=some o∧(b=true->sA P t (k+i)=some o)∧(b=false->tg P t (k+i)=some (o,s))
 |[],k,h,i,o,s,b,hi=>by simp at hi
 |(o',s',b')::r,k,h,0,o,s,b,hi=>by
  simp only[List.getElem?_cons_zero,aaa,Prod.mk.injEq]at hi;obtain⟨rfl,rfl,rfl⟩:=hi;simp only[vT,aab,aar]at h;refine⟨h.1.2,λhb=>?_,λhb=>?_⟩
  ·subst hb;have :=h.1.1;simpa using this
  ·subst hb;have :=h.1.1;simpa using this
 |(o',s',b')::r,k,h,i+1,o,s,b,hi=>by simp only[vT,aab]at h;have :=AR h.2 i o s b (by simpa using hi);rw[show k+1+i=k+(i+1) by omega]at this;exact this
theorem TdOk.fields{fs:List<|Nat×Nat×Bool}(h:TdOk P t d)(G:d.kind=.struct fs):yZ P t=some (fs.map λp=>(p.1,p.2.1))∧∀i o s b,fs[i]?=some (o,s,b)->gv P t i=some o∧(b=true->sA P t i=some o)∧(b=false->tg P t i=some (o,s)):=by
 have E:=h.kind;rw[G]at E;simp only[nL,aab,aar]at E;refine⟨E.1.2,λi o s b hi=>?_⟩;have :=AR E.2 i o s b hi
 rwa [Nat.zero_add]at this
structure TabOk (P:Program) (T:Tab):Prop where
 ty:∀t d,T.ty t=some d->TdOk P t d
 fn:∀i f,T.fn i=some f->P.funcs[i]?=some f∧bZ P i=true
 nat:∀i vs v,T.nat i vs=some v->bZ P i=true∧∀S w ρ xs,LRel S w ρ vs xs->∃x,VRel S w ρ v x∧Calls P i xs.toArray w λe w'=>e=.returned x∧w=w'
structure FRel (S:Nat->Prop) (w:World) (ρ:Nat->Option Value) (a:Act) (n:Nat) (F:Fm):Prop where
 size:a.tmps.size=n
 defers:a.defers=[]
 gl:∀p∈Dw,VRel S w ρ0 (.box p.2 0) (.pointer (some ⟨p.1,0,none⟩))
 len:F.length<=n
 get:∀i v,F.get i=some v->∃x,a.tmps[i]?=some x∧VRel S w ρ v x
section
variable{S S':Nat->Prop}{w w':World}{ρ ρ':Nat->Option Value}{a:Act}{n:Nat}{F:Fm}
theorem FRel.fr(h:FRel S w ρ a n F):Fr a n (fA a):=⟨h.size,h.defers,λ_ _ h=>h⟩
theorem FRel.up(u:Up S S' w w' ρ ρ')(h:FRel S w ρ a n F):FRel S' w' ρ' a n F:=
 ⟨h.size,h.defers,λp hp=>(h.gl p hp).up u.z,h.len,λi v hv=>by obtain⟨x,h1,h2⟩:=h.get i v hv;exact⟨x,h1,h2.up u⟩⟩
theorem FRel.set(h:FRel S w ρ a n F)(d:Option Tmp){v:Option V}{x:Value}(hx:∀u,v=some u->VRel S w ρ u x):FRel S w ρ (a.put d x) n (F.seto d v):=by
 cases d with
 |none=>exact h
 | some d=>
  refine⟨by simp[Act.put,h.size],h.defers,h.gl,by simp[Fm.seto];exact h.len,λi u hu=>?_⟩;simp only[Fm.seto,Fm.get_eq,List.getElem?_set]at hu;simp only[Act.put,Array.getElem?_setIfInBounds,h.size];by_cases hid:d=i
  ·subst hid;simp only[if_true]at hu⊢;split at hu
   ·rename_i hlt;simp only[Option.bind_some,id_eq]at hu;exact⟨x,by simp[aaw hlt h.len],hx u hu⟩
   ·cases hu
  ·simp only[if_neg hid]at hu⊢;exact h.get i u (by rw[Fm.get_eq];exact hu)
end
def Jr:Value->Option V
 |.int k n=>some<|.int k n
 |.bool b=>some<|.bool b
 |.string s=>some<|.str s.data.toList
 |.pointer none=>some .nilp
 |.slice none 0 0=>some .nils
 |_=>none
def EM:List Value->Option (List V)
 |[]=>some []
 |v::r=>match Jr v with
  |some x=>match EM r with
   |some xs=>some<|x::xs
   |none=>none
  |none=>none
def ofV:Value->Option V
 |.agg cs=>match EM cs.toList with
  |some l=>some<|.agg l
  |none=>none
 |v=>Jr v
def Bb:List (Nat×List V)->Nat->Option (List V)
 |[],_=>none
 |(i,cs)::r,j=>match Nat.beq i j with
  |true=>some cs
  |false=>Bb r j
theorem Bt:∀{l:List<|Nat×List V} {j:Nat} {cs:List V},Bb l j=some cs->(j,cs)∈l
 |[],j,cs,h=>by cases h
 | (i,c)::r,j,cs,h=>by
  simp only[Bb]at h;split at h
  ·rename_i hb;have :=aaf hb;injection h with h;subst this h;exact List.mem_cons_self
  ·exact List.mem_cons_of_mem _<|Bt h
def aG(F:Fm):Operand->Option V
 |.tmp t=>F.get t
 |.const v=>ofV v
 |.global g=>match Bb Dw g with
  |some cs=>some<|.box cs 0
  |none=>none
 |.func g=>some<|.clo g []
def fk(F:Fm):List Operand->Option (List V)
 |[]=>some []
 |x::r=>match aG F x with
  |some v=>match fk F r with
   |some vs=>some<|v::vs
   |none=>none
  |none=>none
def mX(F:Fm):List (Nat×Operand)->Option (List<|Nat×V)
 |[]=>some []
 |(i,x)::r=>match aG F x with
  |some v=>match mX F r with
   |some vs=>some<|(i,v)::vs
   |none=>none
  |none=>none
section
variable{S S':Nat->Prop}{w w':World}{ρ ρ':Nat->Option Value}{a:Act}{n:Nat}{F:Fm}
theorem Io{x:Value}(h:Jr x=some v):VRel S w ρ v x:=by
 unfold Jr at h;split at h<;>first|(simp only[aaa]at h;subst h;simp only[VRel];done)|cases h
theorem HU:∀{xs:List Value} {vs:List V},EM xs=some vs->LRel S w ρ vs xs
 |[],vs,h=>by simp only[EM,aaa]at h;subst h;simp[LRel]
 | x::r,vs,h=>by
  simp only[EM]at h;split at h
  ·rename_i v hv;split at h
   ·rename_i us hu;simp only[aaa]at h;subst h;exact⟨x,r,I,Io hv,HU hu⟩
   ·cases h
  ·cases h
theorem Rp{x:Value}(h:ofV x=some v):VRel S w ρ v x:=by
 unfold ofV at h;split at h
 ·split at h
  ·rename_i l hl;simp only[aaa]at h;subst h;simp only[VRel];exact⟨_,rfl,HU hl⟩
  ·cases h
 ·exact Io h
theorem al(hF:FRel S w ρ a n F)(h:aG F x=some v):Opd S w ρ a x v:=by
 unfold aG at h;split at h
 ·rename_i t;obtain⟨y,h1,h2⟩:=hF.get t v h;exact⟨y,h1,h2⟩
 ·rename_i c;exact⟨c,I,Rp h⟩
 ·rename_i g;split at h
  ·rename_i cs E;injection h with h;subst h
   exact⟨_,I,(hF.gl _<|Bt E).pure<|by rfl⟩
  ·cases h
 ·rename_i g;injection h with h;subst h
  exact⟨_,rfl,by simp only[VRel,LRel];exact⟨[],rfl,rfl⟩⟩
theorem qh(hF:FRel S w ρ a n F):∀{l:List Operand} {vs:List V},fk F l=some vs->∃xs,rK (fA a) l=some xs∧LRel S w ρ vs xs
 |[],vs,h=>by simp only[fk,aaa]at h;subst h;exact⟨[],rfl,by simp[LRel]⟩
 | x::r,vs,h=>by
  simp only[fk]at h;split at h
  ·rename_i v hv;split at h
   ·rename_i us hu;simp only[aaa]at h;subst h;obtain⟨y,h1,h2⟩:=al hF hv;obtain⟨ys,h3,h4⟩:=qh hF hu;exact⟨y::ys,by simp only[rK,h1,h3],⟨y,ys,rfl,h2,h4⟩⟩
   ·cases h
  ·cases h
theorem rc(hF:FRel S w ρ a n F):∀{l:List<|Nat×Operand} {vs:List<|Nat×V},mX F l=some vs->∃ys,eb (fA a) l=some ys∧iT S w ρ vs ys
 |[],vs,h=>by simp only[mX,aaa]at h;subst h;exact⟨[],rfl,by simp[iT]⟩
 | (i,x)::r,vs,h=>by
  simp only[mX]at h;split at h
  ·rename_i v hv;split at h
   ·rename_i us hu;simp only[aaa]at h;subst h;obtain⟨y,h1,h2⟩:=al hF hv;obtain⟨ys,h3,h4⟩:=rc hF hu;exact⟨(i,y)::ys,by simp only[eb,h1,h3],⟨y,ys,rfl,h2,h4⟩⟩
   ·cases h
  ·cases h
end
def iEq:Int->Int->Bool
 |.ofNat a,.ofNat b=>Nat.beq a b
 |.negSucc a,.negSucc b=>Nat.beq a b
 |_,_=>false
def iLt:Int->Int->Bool
 |.ofNat a,.ofNat b=>Nat.blt a b
 |.negSucc a,.negSucc b=>Nat.blt b a
 |.negSucc _,.ofNat _=>true
 |.ofNat _,.negSucc _=>false
def inR:Int->Bool
 |.ofNat a=>Nat.ble a 9223372036854775807
 |.negSucc a=>Nat.ble a 9223372036854775807
def lEq:YB->YB->Bool
 |[],[]=>true
 |a::r,b::q=>match Nat.beq a.toNat b.toNat with
  |true=>lEq r q
  |false=>false
 |_,_=>false
def kEq:IntKind->IntKind->Bool
 |.i64,.i64=>true
 |.u8,.u8=>true
 |_,_=>false
theorem yt(m l:Int):iEq m l=(m==l):=by rw[Bool.eq_iff_iff];cases m<;>cases l<;>simp[iEq]<;>omega
theorem vO(m l:Int):iLt m l=decide (m<l):=by rw[Bool.eq_iff_iff];cases m<;>cases l<;>simp[iLt]<;>omega
theorem RG{n:Int}(h:inR n=true):-9223372036854775808<=n∧n<=9223372036854775807:=by
 cases n with
 |ofNat a=>simp only[inR,Nat.ble_eq]at h;simp only[Int.ofNat_eq_natCast];omega
 |negSucc a=>simp only[inR,Nat.ble_eq]at h;omega
theorem vQ:∀(m l:YB),lEq m l=(m==l)
 |[],[]=>rfl
 |[],_::_=>rfl
 |_::_,[]=>rfl
 | a::r,b::q=>by
  simp only[lEq];split
  ·rename_i hb;have :a=b:=UInt8.toNat_inj.1 (aaf hb);subst this;simp[vQ r q]
  ·rename_i hb;have :a≠b:=λe=>by subst e;simp at hb
   simp[this]
theorem Ri{k k':IntKind}(h:kEq k k'=true):k=k':=by
 unfold kEq at h;split at h<;>first|rfl|cases h
def mkB(b:Bool):Option V:=match b with
 |true=>some<|.bool true
 |false=>some<|.bool false
theorem QX(b:Bool):mkB b=some (.bool b):=by cases b<;>rfl
def qa(f:Bool)(fast slow:Bool):Option V:=match f with
 |true=>mkB fast
 |false=>some<|.bool slow
theorem jM{f fast slow:Bool}(E:fast=slow)(h:qa f fast slow=some v):v=.bool slow:=by
 subst E;unfold qa at h;split at h
 ·rw[QX]at h;simpa using h.symm
 ·simpa using h.symm
def JO(f:Bool)(k:IntKind)(n:Int):Option V:=match f with
 |true=>match k with
  |.i64=>Ka n λn=>match inR n with
   |true=>some<|.int .i64 n
   |false=>none
  |_=>none
 |false=>some<|.int k<|k.wrap n
theorem GW{f:Bool}{k:IntKind}{n:Int}(h:JO f k n=some v):v=.int k (k.wrap n):=by
 unfold JO at h;split at h
 ·split at h
  ·rw[HV]at h;split at h
   ·rename_i hr;have e:IntKind.i64.wrap n=n:=IntWalk.i64_in _ (by have :=RG hr;omega);rw[e];simpa using h.symm
   ·cases h
  ·cases h
 ·simpa using h.symm
def Og (T:Tab) (op:BinOp) (t:TypeId):V->V->Option V
 |.int k m,.int k' l=>match kEq k k' with
  |false=>none
  |true=>match op with
   |.eql=>qa T.frc (iEq m l)<|m==l
   |.neq=>qa T.frc (!iEq m l)<|m !=l
   |.lss=>qa T.frc (iLt m l)<|decide<|m<l
   |.gtr=>qa T.frc (iLt l m)<|decide<|l<m
   |.leq=>qa T.frc (!iLt l m)<|decide<|m<=l
   |.geq=>qa T.frc (!iLt m l)<|decide<|l<=m
   |.add=>JO T.frc k<|m+l
   |.sub=>JO T.frc k<|m-l
   |_=>none
 |.str m,.str l=>match op with
  |.eql=>qa T.frc (lEq m l)<|m==l
  |.neq=>qa T.frc (!lEq m l)<|m !=l
  |.add=>match T.frc with
   |true=>match Nat.ble (m.length+l.length) 9223372036854775807 with
    |true=>listK (m++l) λr=>some<|.str r
    |false=>none
   |false=>none
  |_=>none
 |.bool m,.bool l=>match T.ty t with
  |some ⟨_,_,_,.bool⟩=>match op with
   |.eql=>qa T.frc (m==l)<|m==l
   |.neq=>qa T.frc (m !=l)<|m !=l
   |_=>none
  |_=>none
 |_,_=>none
def atV:List V->Nat->Option V
 |[],_=>none
 |x::_,0=>some x
 |_::r,i+1=>atV r i
theorem oR:∀(l:List V) (i:Nat),atV l i=l[i]?
 |[],i=>by simp[atV]
 |x::r,0=>by simp[atV]
 |x::r,i+1=>by simp[atV,oR r i]
def atB:YB->Nat->Option UInt8
 |[],_=>none
 |x::_,0=>some x
 |_::r,i+1=>atB r i
theorem Le:∀(l:YB) (i:Nat),atB l i=l[i]?
 |[],i=>by simp[atB]
 |x::r,0=>by simp[atB]
 |x::r,i+1=>by simp[atB,Le r i]
def atF:List (Nat×Nat×Bool)->Nat->Option (Nat×Nat×Bool)
 |[],_=>none
 |x::_,0=>some x
 |_::r,i+1=>atF r i
theorem Gf:∀(l:List<|Nat×Nat×Bool) (i:Nat),atF l i=l[i]?
 |[],i=>by simp[atF]
 |x::r,0=>by simp[atF]
 |x::r,i+1=>by simp[atF,Gf r i]
def JH(T:Tab)(t:TypeId)(i:Nat):Option (Nat×Nat×Bool):=match T.ty t with
 |some ⟨_,_,_,.struct fs⟩=>atF fs i
 |_=>none
def yX:List V->Nat->List V
 |l,0=>l
 |[],_+1=>[]
 |_::r,i+1=>yX r i
theorem xb:∀(l:List V) (i:Nat),yX l i=l.drop i
 |[],0=>rfl
 |_::_,0=>rfl
 |[],i+1=>by simp[yX]
 |_::r,i+1=>by simp[yX,xb r i]
def xa{α:Type}:List V->Nat->(List V->Option α)->Option α
 |_,0,c=>c []
 |[],_+1,_=>none
 |x::r,i+1,c=>xa r i λE=>c<|x::E
theorem wE{α:Type}:∀{l:List V} {i:Nat} {c:List V->Option α} {v:α},xa l i c=some v->i<=l.length∧c (l.take i)=some v
 |l,0,c,v,h=>by simpa[xa]using h
 |[],i+1,c,v,h=>by simp[xa]at h
 |x::r,i+1,c,v,h=>by simp only[xa]at h;have :=wE h;simpa using this
def qL(d:TD)(cs:List V)(o:Nat):Option V:=match d.agg with
 |true=>match Nat.blt 0 d.size with
  |true=>xa (yX cs o) d.size λl=>some<|.agg l
  |false=>none
 |false=>atV cs o
def Od(f:Bool)(m l:Int):Option V:=match f with
 |true=>match iLt m l with
  |true=>some<|.int .i64 l
  |false=>some<|.int .i64 m
 |false=>some<|.int .i64<|max m l
theorem Pl{f:Bool}{m l:Int}(h:Od f m l=some v):v=.int .i64 (max m l):=by
 unfold Od at h;split at h
 ·split at h
  ·rename_i hb;rw[vO]at hb;simp only[aas]at hb;injection h with h;rw[<-h,Int.max_eq_right<|by omega]
  ·rename_i hb;rw[vO]at hb;simp only[aaA]at hb;injection h with h;rw[<-h,Int.max_eq_left<|by omega]
 ·injection h with h;exact h.symm
def pa (T:Tab) (h:Nat->Ob) (F:Fm) (op:Op):Option V:=
 match op with
 |.move x=>aG F x
 |.assign x=>aG F x
 |.pick c x y=>match aG F c with
  |some (.bool true)=>aG F x
  |some (.bool false)=>aG F y
  |_=>none
 |.nilCheck x=>match aG F x with
  |some (.ptr id o)=>some<|.ptr id o
  |some (.el id sz i o)=>some<|.el id sz i o
  |some (.box cs o)=>some<|.box cs o
  |_=>none
 |.extract x i=>match aG F x with
  |some (.tup vs)=>atV vs i
  |_=>none
 |.unOp .not _ x=>match aG F x with
  |some (.bool b)=>qa T.frc (!b)<|!b
  |_=>none
 |.fieldAddr t x i=>match JH T t i with
  |some (k,_,_)=>match aG F x with
   |some (.ptr id o)=>fC (o+k) λr=>some<|.ptr id r
   |some (.el id sz j o)=>fC (o+k) λr=>some<|.el id sz j r
   |some (.box cs o)=>fC (o+k) λr=>some<|.box cs r
   |_=>none
  |none=>none
 |.field t x i=>match aG F x with
  |some (.agg cs)=>match JH T t i with
   |some (k,_,true)=>atV cs k
   |some (k,m,false)=>xa (yX cs k) m λl=>some<|.agg l
   |none=>none
  |_=>none
 |.binOp op t x y _=>match aG F x with
  |some a=>match aG F y with
   |some b=>Og T op t a b
   |none=>none
  |none=>none
 |.call ⟨.builtin .len,⟨[x]⟩,⟨[t]⟩⟩=>match T.ty t with
  |some ⟨_,_,_,.sl _⟩=>match aG F x with
   |some .nils=>some<|.int .i64 0
   |some (.row _ els)=>match T.frc with
    |true=>fC els.length λn=>some<|.int .i64<|.ofNat n
    |false=>some<|.int .i64 els.length
   |some (.sl id)=>match h id with
    |.row _ _ els=>match T.frc with
     |true=>fC els.length λn=>some<|.int .i64<|.ofNat n
     |false=>some<|.int .i64 els.length
    |_=>none
   |_=>none
  |some ⟨_,_,_,.str⟩=>match aG F x with
   |some (.str l)=>match T.frc with
    |true=>fC l.length λn=>some<|.int .i64<|.ofNat n
    |false=>some<|.int .i64 l.length
   |_=>none
  |_=>none
 |.call ⟨.builtin .max,⟨[x,y]⟩,⟨[t,u]⟩⟩=>match aG F x with
  |some (.int .i64 m)=>match aG F y with
   |some (.int .i64 l)=>Od T.frc m l
   |_=>none
  |_=>none
 |.index t x y=>match T.ty t with
  |some ⟨_,_,_,.str⟩=>match aG F x with
   |some (.str l)=>match aG F y with
    |some (.int .i64 (.ofNat i))=>match atB l i with
     |some c=>fC c.toNat λc=>some<|.int .u8<|.ofNat c
     |none=>none
    |_=>none
   |_=>none
  |_=>none
 |.indexAddr t x y=>match T.ty t with
  |some ⟨_,_,_,.sl e⟩=>match T.ty e with
   |some d=>match aG F x with
    |some (.row sz els)=>match aG F y with
     |some (.int .i64 (.ofNat i))=>match Nat.beq sz d.size with
      |true=>match atV els i with
       |some v=>listK v.cells λcs=>some<|.box cs 0
       |none=>none
      |false=>none
     |_=>none
    |some (.sl id)=>match h id with
     |.row _ sz els=>match aG F y with
      |some (.int .i64 (.ofNat i))=>match Nat.beq sz d.size&&Nat.blt i els.length with
       |true=>some<|.el id sz i 0
       |false=>none
      |_=>none
     |_=>none
    |_=>none
   |none=>none
  |_=>none
 |.build t ⟨ps⟩=>match T.ty t with
  |some ⟨_,_,z,.struct fs⟩=>match mX F ps with
   |some vs=>match uc (λi=>match atF fs i with|some (o,s,_)=>some (o,s)|none=>none) z.cells vs with
    |some cs=>listK cs λcs=>some<|.agg cs
    |none=>none
   |none=>none
  |some ⟨_,_,z,.arr _ e⟩=>match T.ty e with
   |some d=>match mX F ps with
    |some vs=>match uc (λi=>some (i*d.size,d.size)) z.cells vs with
     |some cs=>listK cs λcs=>some<|.agg cs
     |none=>none
    |none=>none
   |none=>none
  |_=>none
 |.slice t x lo hi none=>match T.ty t with
  |some ⟨_,_,_,.str⟩=>match aG F x with
   |some (.str l)=>match(match lo with|none=>some (V.int .i64<|.ofNat 0)|some y=>aG F y)with
    |some (.int .i64 (.ofNat i))=>match(match hi with|none=>some (V.int .i64<|.ofNat l.length)|some y=>aG F y)with
     |some (.int .i64 (.ofNat j))=>match Nat.ble i j&&Nat.ble j l.length with
      |true=>listK ((l.drop i).take<|j-i) λr=>some<|.str r
      |false=>none
     |_=>none
    |_=>none
   |_=>none
  |some ⟨_,_,_,.sl e⟩=>match T.ty e with
   |some d=>match aG F x with
    |some (.row sz els)=>match(match lo with|none=>some (V.int .i64<|.ofNat 0)|some y=>aG F y)with
     |some (.int .i64 (.ofNat i))=>match(match hi with|none=>some (V.int .i64<|.ofNat els.length)|some y=>aG F y)with
      |some (.int .i64 (.ofNat j))=>match Nat.ble i j&&Nat.ble j els.length&&Nat.beq sz d.size with
       |true=>listK ((els.drop i).take<|j-i) λr=>some<|.row sz r
       |false=>none
      |_=>none
     |_=>none
    |_=>none
   |none=>none
  |_=>none
 |.load t x=>match aG F x with
  |some (.box cs o)=>match T.ty t with
   |some d=>qL d cs o
   |none=>none
  |_=>none
 |_=>none
section
variable{P:Program}{T:Tab}{S:Nat->Prop}{w:World}{ρ:Nat->Option Value}{h:Nat->Ob}{a:Act}{n:Nat}{F:Fm}{ty:TypeId}
theorem RK{k:IntKind}{m l:Int}(fr:Fr a n<|fA a)(hx:Opd S w ρ a x<|.int k m)(hy:Opd S w ρ a y<|.int k l):Yld P S w ρ a ty (.binOp .add t x y u) (.int k<|k.wrap<|m+l):=
 ⟨.int k<|k.wrap<|m+l,by simp only[VRel],λw' _ _ _ _ _=>by simp only[execOp,fr.eval<|aW hx,fr.eval<|aW hy];simp[go_sem,eqGuard]⟩
theorem QI{k:IntKind}{m l:Int}(fr:Fr a n<|fA a)(hx:Opd S w ρ a x<|.int k m)(hy:Opd S w ρ a y<|.int k l):Yld P S w ρ a ty (.binOp .sub t x y u) (.int k<|k.wrap<|m-l):=
 ⟨.int k<|k.wrap<|m-l,by simp only[VRel],λw' _ _ _ _ _=>by simp only[execOp,fr.eval<|aW hx,fr.eval<|aW hy];simp[go_sem,eqGuard]⟩
theorem LL(m l:YB):(ByteArray.mk m.toArray++ByteArray.mk l.toArray)=⟨(m++l).toArray⟩:=by apply ByteArray.ext;simp[ByteArray.data_append]
theorem QP{m:YB}(fr:Fr a n<|fA a)(hx:Opd S w ρ a x<|.str m)(hy:Opd S w ρ a y<|.str l)(hl:m.length+l.length<=9223372036854775807):Yld P S w ρ a ty (.binOp .add t x y u) (.str<|m++l):=
 ⟨.string ⟨(m++l).toArray⟩,by simp only[VRel],λw' _ _ _ _ _=>by simp only[execOp,fr.eval<|jO hx,fr.eval<|jO hy];simp[go_sem,eqGuard,LL,show¬9223372036854775807<m.length+l.length by omega]⟩
theorem PH(hT:TabOk P T){op:BinOp}{c d:V}(fr:Fr a n<|fA a)(hx:Opd S w ρ a x c)(hy:Opd S w ρ a y d)(hv:Og T op t c d=some v):Yld P S w ρ a ty (.binOp op t x y u) v:=by
 unfold Og at hv;split at hv
 ·split at hv
  ·cases hv
  ·rename_i E;have :=Ri E;subst this;split at hv
   ·rw[jM (yt _ _) hv];exact SF fr hx hy
   ·rw[jM (by rw[yt];rfl) hv];exact SR fr hx hy
   ·rw[jM (vO _ _) hv];exact Sw fr hx hy
   ·rw[jM (vO _ _) hv];exact Sy fr hx hy
   ·rw[jM (by rw[vO,Bool.eq_iff_iff];simp) hv];exact Sn fr hx hy
   ·rw[jM (by rw[vO,Bool.eq_iff_iff];simp) hv];exact SE fr hx hy
   ·rw[GW hv];exact RK fr hx hy
   ·rw[GW hv];exact QI fr hx hy
   ·cases hv
 ·split at hv
  ·rw[jM (vQ _ _) hv];exact Sg fr hx hy
  ·rw[jM (by rw[vQ];rfl) hv];exact Se fr hx hy
  ·split at hv
   ·split at hv
    ·rename_i hb;rw[cW]at hv;simp only[aaa]at hv;subst hv;exact QP fr hx hy (by simpa using hb)
    ·cases hv
   ·cases hv
  ·cases hv
 ·split at hv
  ·rename_i G;have ht:=(hT.ty _ _ G).bool rfl;split at hv
   ·rw[jM rfl hv];exact Sl fr ht hx hy
   ·rw[jM rfl hv];exact SI fr ht hx hy
   ·cases hv
  ·cases hv
 ·cases hv
theorem Cg(hT:TabOk P T){s:Nat}{b:Bool}(hf:JH T t i=some (o,s,b)):gv P t i=some o∧(b=true->sA P t i=some o)∧(b=false->tg P t i=some (o,s)):=by
 unfold JH at hf;split at hf
 ·rename_i E;rw[Gf]at hf;exact((hT.ty _ _ E).fields I).2 i o s b hf
 ·cases hf
theorem wH (hT:TabOk P T) (hr:HRel S w ρ h) (hF:FRel S w ρ a n F) {op:Op} {v:V} (hv:pa T h F op=some v):Yld P S w ρ a ty op v:=by
 have fr:=hF.fr;unfold pa at hv;split at hv
 ·exact RX fr<|al hF hv
 ·exact Mj fr<|al hF hv
 ·split at hv
  ·exact Pc fr (al hF ‹_›)<|al hF hv
  ·exact PK fr (al hF ‹_›)<|al hF hv
  ·cases hv
 ·split at hv
  ·injection hv with hv;subst hv;exact Rf fr<|al hF ‹_›
  ·injection hv with hv;subst hv;exact RA fr<|al hF ‹_›
  ·injection hv with hv;subst hv;exact Rh fr<|al hF ‹_›
  ·cases hv
 ·split at hv
  ·rw[oR]at hv;exact SB fr (al hF ‹_›) hv
  ·cases hv
 ·split at hv
  ·rw[jM rfl hv];exact SA fr<|al hF ‹_›
  ·cases hv
 ·split at hv
  ·rename_i hfl;have hfo:=(Cg hT hfl).1;split at hv
   ·rw[dB]at hv;injection hv with hv;subst hv;exact Sr fr (al hF ‹_›) hfo
   ·rw[dB]at hv;injection hv with hv;subst hv;exact SL fr (al hF ‹_›) hfo
   ·rw[dB]at hv;injection hv with hv;subst hv;exact Sv fr (al hF ‹_›) hfo
   ·cases hv
  ·cases hv
 ·split at hv
  ·split at hv
   ·rename_i hfl;rw[oR]at hv;exact Tc fr (al hF ‹_›) ((Cg hT hfl).2.1 I) hv
   ·rename_i hfl;obtain⟨_,hv⟩:=wE hv;rw[xb]at hv;injection hv with hv;subst hv
    exact SG fr (al hF ‹_›)<|(Cg hT hfl).2.2 I
   ·cases hv
  ·cases hv
 ·split at hv
  ·split at hv
   ·exact PH hT fr (al hF ‹_›) (al hF ‹_›) hv
   ·cases hv
  ·cases hv
 ·split at hv
  ·rename_i hd;have ht:=(hT.ty _ _ hd).sl rfl;split at hv
   ·injection hv with hv;subst hv;exact RV fr ht<|al hF ‹_›
   ·split at hv
    ·rw[dB]at hv;injection hv with hv;subst hv;exact KN fr ht<|al hF ‹_›
    ·injection hv with hv;subst hv;exact KN fr ht<|al hF ‹_›
   ·split at hv
    ·split at hv
     ·rw[dB]at hv;injection hv with hv;subst hv;exact Ku hr ‹_› fr ht (al hF ‹_›)
     ·injection hv with hv;subst hv;exact Ku hr ‹_› fr ht (al hF ‹_›)
    ·cases hv
   ·cases hv
  ·rename_i hd;have ht:=(hT.ty _ _ hd).str rfl;split at hv
   ·split at hv
    ·rw[dB]at hv;injection hv with hv;subst hv;exact KC fr ht<|al hF ‹_›
    ·injection hv with hv;subst hv;exact KC fr ht<|al hF ‹_›
   ·cases hv
  ·cases hv
 ·split at hv
  ·split at hv
   ·rw[Pl hv];exact Qn fr (al hF ‹_›)<|al hF ‹_›
   ·cases hv
  ·cases hv
 ·split at hv
  ·rename_i hd;have ht:=(hT.ty _ _ hd).str rfl;split at hv
   ·split at hv
    ·split at hv
     ·rename_i hb;rw[Le]at hb;rw[dB]at hv;injection hv with hv;subst hv
      exact p_idxS fr ht (al hF ‹_›) (al hF ‹_›) hb
     ·cases hv
    ·cases hv
   ·cases hv
  ·cases hv
 ·split at hv
  ·rename_i hd;have ht:=(hT.ty _ _ hd).sl rfl;split at hv
   ·rename_i d he;have hz:=(hT.ty _ _ he).size;split at hv
    ·split at hv
     ·split at hv
      ·rename_i hb;have :=aaf hb;subst this;split at hv
       ·rename_i hi;rw[oR]at hi;rw[cW]at hv;injection hv with hv;subst hv
        exact p_idxR fr ht hz (al hF ‹_›) (al hF ‹_›) hi
       ·cases hv
      ·cases hv
     ·cases hv
    ·split at hv
     ·split at hv
      ·split at hv
       ·rename_i hb;simp only[aab,Nat.beq_eq,Nat.blt_eq]at hb;obtain⟨rfl,hlt⟩:=hb;injection hv with hv;subst hv
        exact p_idxO hr ‹_› fr ht hz (al hF ‹_›) (al hF ‹_›) hlt
       ·cases hv
      ·cases hv
     ·cases hv
    ·cases hv
   ·cases hv
  ·cases hv
 ·split at hv
  ·rename_i fs hd;have hf:=(hT.ty _ _ hd).fields rfl;obtain⟨z,hz1,hz2⟩:=(hT.ty _ _ hd).zeroT;split at hv
   ·rename_i vs hps;obtain⟨ys,g1,g2⟩:=rc hF hps;split at hv
    ·rename_i cs hfl;rw[cW]at hv;injection hv with hv;subst hv
     refine Iu fr g1 g2 hz1 (hz2 _ _ _) hf.1 (λi p hp=>?_) hfl;rw[Gf]at hp;split at hp
     ·rename_i o s b hi;simp only[aaa]at hp;subst hp;simp[hi]
     ·cases hp
    ·cases hv
   ·cases hv
  ·rename_i e hd;have ht:=(hT.ty _ _ hd).arr rfl;obtain⟨z,hz1,hz2⟩:=(hT.ty _ _ hd).zeroT;split at hv
   ·rename_i d he;have hz:=(hT.ty _ _ he).size;split at hv
    ·rename_i vs hps;obtain⟨ys,g1,g2⟩:=rc hF hps;split at hv
     ·rename_i cs hfl;rw[cW]at hv;injection hv with hv;subst hv
      exact MF fr g1 g2 hz1 (hz2 _ _ _) ht hz hfl
     ·cases hv
    ·cases hv
   ·cases hv
  ·cases hv
 ·rename_i t x lo hi;split at hv
  ·rename_i hd;have ht:=(hT.ty _ _ hd).str rfl;split at hv
   ·split at hv
    ·rename_i i hi1;split at hv
     ·rename_i j hj1;split at hv
      ·rename_i hb;simp only[aab,Nat.ble_eq]at hb;rw[cW]at hv;injection hv with hv;subst hv
       refine On fr ht (al hF ‹_›) ?_ ?_ hb.1 hb.2
       ·cases lo with
        |none=>injection hi1 with hi1;injection hi1 with _ hi1;injection hi1 with hi1;exact .inl ⟨rfl,hi1.symm⟩
        |some y=>exact .inr ⟨y,rfl,al hF hi1⟩
       ·cases hi with
        |none=>injection hj1 with hj1;injection hj1 with _ hj1;injection hj1 with hj1;exact .inl ⟨rfl,hj1.symm⟩
        |some y=>exact .inr ⟨y,rfl,al hF hj1⟩
      ·cases hv
     ·cases hv
    ·cases hv
   ·cases hv
  ·rename_i hd;have ht:=(hT.ty _ _ hd).sl rfl;split at hv
   ·rename_i d he;have hz:=(hT.ty _ _ he).size;split at hv
    ·split at hv
     ·rename_i i hi1;split at hv
      ·rename_i j hj1;split at hv
       ·rename_i hb;simp only[aab,Nat.ble_eq,Nat.beq_eq]at hb;obtain⟨⟨hb1,hb2⟩,rfl⟩:=hb;rw[cW]at hv;injection hv with hv;subst hv
        refine Ov fr ht hz (al hF ‹_›) ?_ ?_ hb1 hb2
        ·cases lo with
         |none=>injection hi1 with hi1;injection hi1 with _ hi1;injection hi1 with hi1;exact .inl ⟨rfl,hi1.symm⟩
         |some y=>exact .inr ⟨y,rfl,al hF hi1⟩
        ·cases hi with
         |none=>injection hj1 with hj1;injection hj1 with _ hj1;injection hj1 with hj1;exact .inl ⟨rfl,hj1.symm⟩
         |some y=>exact .inr ⟨y,rfl,al hF hj1⟩
       ·cases hv
      ·cases hv
     ·cases hv
    ·cases hv
   ·cases hv
  ·cases hv
 ·split at hv
  ·rename_i cs o hx;split at hv
   ·rename_i d hd;have td:=hT.ty _ _ hd;unfold qL at hv;split at hv
    ·rename_i ha;split at hv
     ·rename_i h0;obtain⟨hl,hv⟩:=wE hv;rw[xb]at hv hl;injection hv with hv;subst hv
      have h0':0<d.size:=by simpa using h0
      exact Nl fr (td.ag ha) (al hF hx) (by simp at hl;omega)
     ·cases hv
    ·rename_i ha;rw[oR]at hv;exact OT fr (td.sc ha) (al hF hx) hv
   ·cases hv
  ·cases hv
 ·cases hv
end
inductive ED where
 |nop
 |new (o:Ob)
 |set (id:Nat) (o:Ob)
 |repl (id:Nat) (o:Ob)
 |repl2 (id id2:Nat) (o:Ob)
def ED.app(h:Nat->Ob)(nid:Nat):ED->Nat->Ob
 |.nop=>h
 |.new o=>bi h nid o
 |.set id o=>bi h id o
 |.repl id o=>bi (bi h id .gone) nid o
 |.repl2 id E o=>bi (bi (bi h id .gone) E .gone) nid o
def ED.tch:ED->Nat->Prop
 |.nop,_=>False
 |.new _,_=>False
 |.set id _,i=>i=id
 |.repl id _,i=>i=id
 |.repl2 id E _,i=>i=id∨i=E
def zM(h:Nat->Ob)(sz:Nat):V->Option (List V)
 |.nils=>some []
 |.row sz' els=>match Nat.beq sz sz' with
  |true=>some els
  |false=>none
 |.sl g=>match h g with
  |.row _ sz' els=>match Nat.beq sz sz' with
   |true=>some els
   |false=>none
  |_=>none
 |_=>none
def oe (T :Tab) (h:Nat->Ob) (F:Fm) (nid:Nat) (op:Op):Option (Option V×ED):=
 match op with
 |.load t x=>match aG F x with
  |some (.ptr id o)=>match T.ty t with
   |some d=>match h id with
    |.var _ cs=>match qL d cs o with
     |some v=>some (some v,.nop)
     |none=>none
    |_=>none
   |none=>none
  |some (.el id sz i o)=>match T.ty t with
   |some d=>match h id with
    |.row _ sz' els=>match Nat.beq sz sz' with
     |true=>match atV els i with
      |some v0=>match qL d v0.cells o with
       |some v=>some (some v,.nop)
       |none=>none
      |none=>none
     |false=>none
    |_=>none
   |none=>none
  |_=>none
 |.alloc t=>match T.ty t with
  |some d=>listK d.zero.cells λcs=>some (some<|.ptr nid 0,.new<|.var t cs)
  |none=>none
 |.box t x=>match aG F x with
  |some v=>listK v.cells λcs=>some (some<|.ptr nid 0,.new<|.var t cs)
  |none=>none
 |.store t x y=>match T.ty t with
  |some d =>match aG F y with
   |some v =>match Nat.beq v.cells.length d.size&&v.cells.all V.one with
    |true =>match aG F x with
     |some (.ptr id o)=>match h id with
      |.var tb cs=>match Nat.ble (o+d.size) cs.length with
       |true=>listK (tO cs o v.cells) λcs=>some (none,.set id<|.var tb cs)
       |false=>none
      |_=>none
     |some (.el id sz i o)=>match h id with
      |.row e sz' els=>match Nat.beq sz sz' with
       |true=>match atV els i with
        |some v0=>match Nat.ble (o+d.size) v0.cells.length with
         |true=>match v0 with
          |.agg cs=>listK (els.set i<|V.over (.agg cs) o v.cells) λels=>some (none,.set id<|.row e sz els)
          |v0=>match v.one with
           |true=>listK (els.set i<|v0.over o v.cells) λels=>some (none,.set id<|.row e sz els)
           |false=>none
         |false=>none
        |none=>none
       |false=>none
      |_=>none
     |_=>none
    |false=>none
   |none=>none
  |none=>none
 |.buildSlice t m ⟨ps⟩=>match T.ty t with
  |some ⟨_,_,_,.sl e⟩=>match T.ty e with
   |some d=>match mX F ps with
    |some vs=>match lr d.size 0 vs with
     |some els=>match Nat.beq els.length m&&Nat.ble (m*d.size) 16777216&&Nat.ble m 16777216 with
      |true=>fC d.size λsz=>some (some<|.sl nid,.new<|.row e sz els)
      |false=>none
     |none=>none
    |none=>none
   |none=>none
  |_=>none
 |.makeSlice t x y=>match T.ty t with
  |some ⟨_,_,_,.sl e⟩=>match T.ty e with
   |some d=>match aG F x with
    |some (.int .i64 (.ofNat m))=>match aG F y with
     |some (.int .i64 (.ofNat m'))=>match Nat.beq m m'&&Nat.ble (d.bytes*m) 1000000&&Nat.ble m 1000000&&Nat.blt 0 d.size with
      |true=>listK (List.replicate m d.zero) λels=>fC d.size λsz=>some (some<|.sl nid,.new<|.row e sz els)
      |false=>none
     |_=>none
    |_=>none
   |none=>none
  |_=>none
 |.call ⟨.builtin .append,⟨[x,y]⟩,⟨[t,t']⟩⟩=>match T.frc&&Nat.beq t t' with
  |true =>match T.ty t with
   |some ⟨_,_,_,.sl e⟩=>match T.ty e with
    |some d=>match aG F y with
     |some v=>match zM h d.size v with
      |some news=>match aG F x with
       |some .nils=>match Nat.ble news.length 100000&&Nat.ble d.bytes 100000&&Nat.blt 0 d.size with
        |true=>fC d.size λsz=>some (some<|.sl nid,.new<|.row e sz news)
        |false=>none
       |some (.sl id)=>match h id with
        |.row e' sz els=>match Nat.beq e e'&&Nat.beq sz d.size&&Nat.ble (els.length+news.length) 100000&&Nat.ble d.bytes 100000&&Nat.blt 0 d.size with
         |true=>listK (els++news) λels=>some (some<|.sl nid,.repl id<|.row e sz els)
         |false=>none
        |_=>none
       |_=>none
      |none=>none
     |none=>none
    |none=>none
   |_=>none
  |false=>none
 |.slice t x none (some y) none=>match T.ty t with
  |some ⟨_,_,_,.sl e⟩=>match T.ty e with
   |some d=>match aG F x with
    |some (.sl id)=>match h id with
     |.row e' sz els=>match aG F y with
      |some (.int .i64 (.ofNat k))=>match Nat.beq e e'&&Nat.beq sz d.size&&Nat.ble k els.length with
       |true=>listK (els.take k) λels=>some (some<|.sl nid,.repl id<|.row e sz els)
       |false=>none
      |_=>none
     |_=>none
    |_=>none
   |none=>none
  |_=>none
 |_=>none
section
variable{P:Program}{T:Tab}{S:Nat->Prop}{w:World}{ρ:Nat->Option Value}{h:Nat->Ob}{a:Act}{n:Nat}{F:Fm}{ty:TypeId}
theorem qb(td:TdOk P t d)(hv:qL d cs o=some v):(cM P t=true∧cs[o]?=some v)∨(mK P t=some d.size∧o+d.size<=cs.length∧v=.agg ((cs.drop o).take d.size)):=by
 unfold qL at hv;split at hv
 ·rename_i E;split at hv
  ·rename_i G;obtain⟨hl,hv⟩:=wE hv;rw[xb]at hv hl;injection hv with hv;subst hv
   have J:0<d.size:=by simpa using G
   exact .inr ⟨td.ag E,by simp at hl;omega,rfl⟩
  ·cases hv
 ·rename_i E;rw[oR]at hv;exact .inl ⟨td.sc E,hv⟩
theorem xr(h:v.one=true):v.cells=[v]:=by cases v<;>first|rfl|cases h
theorem ze(hr:HRel S w ρ h)(hF:FRel S w ρ a n F){news:List V}(hy:aG F y=some v)(hs:zM h sz v=some news):∃u,aD (fA a) y=some u∧rm S w ρ sz news u:=by
 obtain⟨u,h1,h2⟩:=al hF hy;refine⟨u,h1,?_⟩;unfold zM at hs;split at hs
 ·injection hs with hs;subst hs;exact Mw h2
 ·split at hs
  ·rename_i hb;have :=aaf hb;subst this;injection hs with hs;subst hs;exact OX h2
  ·cases hs
 ·split at hs
  ·split at hs
   ·rename_i ho _ hb;have :=aaf hb;subst this;injection hs with hs;subst hs;exact Pd hr ho h2
   ·cases hs
  ·cases hs
 ·cases hs
theorem zd (hT:TabOk P T) (hr:HRel S w ρ h) (hF:FRel S w ρ a n F) {nid:Nat} (hn:h nid=.free) {op:Op} {v:Option V} {ed:ED} (hv:oe T h F nid op=some (v,ed)):Does P S w ρ h a ty op v (ed.app h nid) ed.tch:=by
 have fr:=hF.fr;unfold oe at hv;split at hv
 ·split at hv
  ·split at hv
   ·rename_i d hd;split at hv
    ·rename_i ho;split at hv
     ·rename_i u hu;simp only[aaa,Prod.mk.injEq]at hv;obtain⟨rfl,rfl⟩:=hv;rcases qb (hT.ty _ _ hd) hu with⟨h1,h2⟩|⟨h1,h2,rfl⟩
      ·exact QW hr fr (al hF ‹_›) ho h1 h2
      ·exact Px hr fr (al hF ‹_›) ho h1 h2
     ·cases hv
    ·cases hv
   ·cases hv
  ·split at hv
   ·rename_i d hd;split at hv
    ·rename_i ho;split at hv
     ·rename_i hb;have :=aaf hb;subst this;split at hv
      ·rename_i v0 hi;rw[oR]at hi;split at hv
       ·rename_i u hu;simp only[aaa,Prod.mk.injEq]at hv;obtain⟨rfl,rfl⟩:=hv;rcases qb (hT.ty _ _ hd) hu with⟨h1,h2⟩|⟨h1,h2,rfl⟩
        ·exact Iv hr fr (al hF ‹_›) ho h1 hi h2
        ·exact Fo hr fr (al hF ‹_›) ho h1 hi h2
       ·cases hv
      ·cases hv
     ·cases hv
    ·cases hv
   ·cases hv
  ·cases hv
 ·split at hv
  ·rename_i d hd;rw[cW]at hv;simp only[aaa,Prod.mk.injEq]at hv;obtain⟨rfl,rfl⟩:=hv;obtain⟨z,h1,h2⟩:=(hT.ty _ _ hd).zeroT;exact Qa hr hn h1 h2
  ·cases hv
 ·split at hv
  ·rw[cW]at hv;simp only[aaa,Prod.mk.injEq]at hv;obtain⟨rfl,rfl⟩:=hv;exact SJ hr fr hn<|al hF ‹_›
  ·cases hv
 ·split at hv
  ·rename_i d hd;have hz:=(hT.ty _ _ hd).size;split at hv
   ·rename_i u hu;split at hv
    ·rename_i hb;simp only[aab,Nat.beq_eq]at hb;split at hv
     ·split at hv
      ·split at hv
       ·rename_i ho _ hle;rw[cW]at hv;simp only[aaa,Prod.mk.injEq]at hv;obtain⟨rfl,rfl⟩:=hv;exact Qc hr fr (al hF ‹_›) (al hF hu) ho hz hb.1 hb.2 (Nat.le_of_ble_eq_true hle)
       ·cases hv
      ·cases hv
     ·split at hv
      ·rename_i ho;split at hv
       ·rename_i hq;have :=aaf hq;subst this;split at hv
        ·rename_i v0 hi;rw[oR]at hi;split at hv
         ·rename_i hle;split at hv
          ·rename_i cs;rw[cW]at hv;simp only[aaa,Prod.mk.injEq]at hv;obtain⟨rfl,rfl⟩:=hv;exact zK hr fr (al hF ‹_›) (al hF hu) ho hz hi hb.1 hb.2 (Nat.le_of_ble_eq_true hle) (.inl ⟨cs,I⟩)
          ·rename_i hna;split at hv
           ·rename_i h1;rw[cW]at hv;simp only[aaa,Prod.mk.injEq]at hv;obtain⟨rfl,rfl⟩:=hv;refine zK hr fr (al hF ‹_›) (al hF hu) ho hz hi hb.1 hb.2 (Nat.le_of_ble_eq_true hle) (.inr ⟨?_,xr h1⟩);cases v0 with
            |agg cs=>exact absurd rfl<|hna cs
            |_=>rfl
           ·cases hv
         ·cases hv
        ·cases hv
       ·cases hv
      ·cases hv
     ·cases hv
    ·cases hv
   ·cases hv
  ·cases hv
 ·split at hv
  ·rename_i e ht;split at hv
   ·rename_i d hd;split at hv
    ·rename_i vs hps;split at hv
     ·rename_i els hrp;split at hv
      ·rename_i hb;simp only[aab,Nat.beq_eq]at hb;rw[dB]at hv;simp only[aaa,Prod.mk.injEq]at hv;obtain⟨rfl,rfl⟩:=hv;obtain⟨ys,g1,g2⟩:=rc hF hps;obtain⟨z,h1,h2⟩:=(hT.ty _ _ hd).zeroT;exact MY hr fr hn g1 g2 ((hT.ty _ _ ht).sl I) (hT.ty _ _ hd).size h1 hrp hb.1.1 hb.1.2 hb.2
      ·cases hv
     ·cases hv
    ·cases hv
   ·cases hv
  ·cases hv
 ·split at hv
  ·rename_i e ht;split at hv
   ·rename_i d hd;split at hv
    ·split at hv
     ·split at hv
      ·rename_i hb;simp only[aab,Nat.beq_eq,Nat.ble_eq,Nat.blt_eq]at hb;obtain⟨⟨⟨rfl,hb1⟩,hb2⟩,hb3⟩:=hb;rw[cW,dB]at hv;simp only[aaa,Prod.mk.injEq]at hv;obtain⟨rfl,rfl⟩:=hv;obtain⟨z,h1,h2,h3,h4⟩:=(hT.ty _ _ hd).info;exact Kj hr fr hn (al hF ‹_›) (al hF ‹_›) ((hT.ty _ _ ht).sl rfl) h1 h3 hb3 h4 h2 (by omega) (by simp only[maxLen];omega)
      ·cases hv
     ·cases hv
    ·cases hv
   ·cases hv
  ·cases hv
 ·split at hv
  ·rename_i hb0;simp only[aab,Nat.beq_eq]at hb0;obtain⟨_,rfl⟩:=hb0;split at hv
   ·rename_i e ht;split at hv
    ·rename_i d hd;obtain⟨z,h1,h2,h3,h4⟩:=(hT.ty _ _ hd).info;split at hv
     ·rename_i u hu;split at hv
      ·rename_i news hs;obtain⟨y',g1,g2⟩:=ze hr hF hu hs;split at hv
       ·split at hv
        ·rename_i hb;simp only[aab,Nat.ble_eq,Nat.blt_eq]at hb;obtain⟨⟨hb1,hb2⟩,hb3⟩:=hb;rw[dB]at hv;simp only[aaa,Prod.mk.injEq]at hv;obtain⟨rfl,rfl⟩:=hv;refine KW hr fr hn g1 g2 ((hT.ty _ _ ht).sl rfl) h1 h3 hb3 (al hF ‹_›) (by simp only[maxLen];omega) ?_;exact aao (Nat.mul_le_mul hb1 hb2) (by decide)
        ·cases hv
       ·split at hv
        ·rename_i ho;split at hv
         ·rename_i hb;simp only[aab,Nat.ble_eq,Nat.blt_eq,Nat.beq_eq]at hb;obtain⟨⟨⟨⟨rfl,rfl⟩,hb1⟩,hb2⟩,hb3⟩:=hb;rw[cW]at hv;simp only[aaa,Prod.mk.injEq]at hv;obtain⟨rfl,rfl⟩:=hv;refine DW hr fr hn g1 g2 ((hT.ty _ _ ht).sl rfl) h1 h3 hb3 (al hF ‹_›) ho (by simp only[maxLen];omega) ?_;exact aao (Nat.mul_le_mul hb1 hb2) (by decide)
         ·cases hv
        ·cases hv
       ·cases hv
      ·cases hv
     ·cases hv
    ·cases hv
   ·cases hv
  ·cases hv
 ·split at hv
  ·rename_i e ht;split at hv
   ·rename_i d hd;split at hv
    ·split at hv
     ·rename_i ho;split at hv
      ·split at hv
       ·rename_i hb;simp only[aab,Nat.ble_eq,Nat.beq_eq]at hb;obtain⟨⟨rfl,rfl⟩,hb1⟩:=hb;rw[cW]at hv;simp only[aaa,Prod.mk.injEq]at hv;obtain⟨rfl,rfl⟩:=hv;exact In hr fr hn (al hF ‹_›) (al hF ‹_›) ho ((hT.ty _ _ ht).sl I) (hT.ty _ _ hd).size hb1
       ·cases hv
      ·cases hv
     ·cases hv
    ·cases hv
   ·cases hv
  ·cases hv
 ·cases hv
def ED.ok(h:Nat->Ob):ED->Prop
 |.nop=>True
 |.new o=>True
 |.set id o=>h id≠.gone∧h id≠.free
 |.repl id o=>h id≠.gone∧h id≠.free
 |.repl2 id E o=>(h id≠.gone∧h id≠.free)∧h E≠.gone∧h E≠.free
theorem uv{op:Op}{v:Option V}{ed:ED}(hv:oe T h F nid op=some (v,ed)):ed.ok h:=by
 unfold oe at hv
 repeat' (split at hv)
 all_goals first
  |(cases hv;done)
  |(simp only[cW,dB,aaa,Prod.mk.injEq]at hv;obtain⟨_,rfl⟩:=hv;first|exact trivial|(constructor<;>simp_all))
end
section
variable{P:Program}{ops:Array Oper}{Q:Exit->Act->World->Prop}{B S:World->Prop}
def wpB(P:Program)(ops:Array Oper)(Q:Exit->Act->World->Prop)(B S:World->Prop)(m:Nat):Nat->Array Bool->Act->World->Prop
 |0,listed,a,w=>Region.ready .any ops listed=[]∧Q .normal a w
 |fuel+1,listed,a,w=>
  (Region.ready .any ops listed=[]->Q .normal a w)∧
  ∀i∈Region.ready .any ops listed,wpOp P ops Q i (λa' w'=>B w'∧(S w'∨(listed.setIfInBounds i true).getD m false=true)∧wpB P ops Q B S m fuel (listed.setIfInBounds i true) a' w') a w
theorem By{m:Nat}:∀(fuel:Nat) (listed:Array Bool) (a:Act) (w:World),wpB P ops Q B S m fuel listed a w->wpAny P .any ops Q fuel listed a w
 |0,_,_,_,h=>h
 |fuel+1,_,_,_,h=>⟨h.1,λi hi=>wpOp_mono (λa' w' h'=>By fuel _ a' w' h'.2.2)<|h.2 i hi⟩
theorem zJ{B' S':World->Prop}{m:Nat}(E:∀w,B' w->B w)(G:∀w,B' w->S' w->S w):∀(fuel:Nat) (listed:Array Bool) (a:Act) (w:World),wpB P ops Q B' S' m fuel listed a w->wpB P ops Q B S m fuel listed a w
 |0,_,_,_,h=>h
 |fuel+1,_,_,_,h=>⟨h.1,λi hi=>wpOp_mono (λa' w' h'=>⟨E _ h'.1,h'.2.1.imp (G _ h'.1) id,zJ E G fuel _ a' w' h'.2.2⟩)<|h.2 i hi⟩
theorem wpB_pure {m:Nat} {i:Nat} {oi:Oper} {v:Value} (him:i≠m) (hi:ops[i]?=some oi) (hsel:∀(j:Nat) (o:Oper) cs b,ops[j]?=some o->o.op≠.select cs b)
    (hQ:∀c a w,Q (.panic c) (a.put oi.dst v) w->Q (.panic c) a w):
    ∀ (fuel:Nat) (listed:Array Bool) (a:Act) (w:World),
      (∀j oj,ops[j]?=some oj->j≠i->listed.getD j true=false->(∀e∈oj.after,Region.binds .any e=true->e.on≠i)->oi.apart ops oj=true)->
      i∈Region.ready .any ops listed->YieldsIf P ops B oi v a->B w->(S w∨listed.getD m false=true)->
      wpB P ops Q B S m fuel (listed.setIfInBounds i true) (a.put oi.dst v) w->wpB P ops Q B S m (fuel+1) listed a w:=by
  intro fuel
  induction fuel with
  | zero=>
    intro listed a w _ hr hy hB hS H;refine⟨λh=>(by rw[h]at hr;cases hr),λj hj=>?_⟩;by_cases hji:j=i
    ·subst hji;exact hy.wpOp hi hB ⟨hB,hS.imp id nQ,H⟩
    · have :=ready_mono hj hji;rw[H.1]at this;cases this
  | succ fuel ih=>
    intro listed a w hfree hr hy hB hS H;refine⟨λh=>(by rw[h]at hr;cases hr),λj hj=>?_⟩;by_cases hji:j=i
    ·subst hji;exact hy.wpOp hi hB ⟨hB,hS.imp id nQ,H⟩
    · have h1:=H.2 j (ready_mono hj hji);obtain⟨hjun,oj,hoj,hall⟩:=mem_ready.1 hj;have hnot:=CJ (j:=j) hr hall;have h2:=wpOp_putIf hoj (hfree j oj hoj hji hjun hnot) (λcs b=>hsel i oi cs b hi) (λcs b=>hsel j oj cs b hoj) hQ hy h1;have hfree':∀k ok,ops[k]?=some ok->k≠i->(listed.setIfInBounds j true).getD k true=false->
          (∀e∈ok.after,Region.binds .any e=true->e.on≠i)->oi.apart ops ok=true:=λk ok hk hki hun hno=>by
        refine hfree k ok hk hki ?_ hno;by_cases hjk:j=k
        ·subst hjk;exact hjun
        ·rw[getD_set_ne true hjk]at hun;exact hun
      refine wpOp_mono (λa' w' h3=>?_) h2;have hS3:S w'∨(listed.setIfInBounds j true).getD m false=true:=h3.2.2.1.imp id λh=>by rw[Array.setIfInBounds_comm _ _ λe=>hji e.symm,getD_set_ne false him]at h;exact h
      refine⟨h3.2.1,hS3,ih (listed.setIfInBounds j true) a' w' hfree' (ready_mono hr<|Ne.symm hji) h3.1 h3.2.1 hS3 ?_⟩;rw[Array.setIfInBounds_comm _ _ hji];exact h3.2.2.2
theorem FT {m:Nat} {i:Nat} {oi:Oper} {v:Value} (him:i≠m) (hwt:zf .any ops m i=true) (hi:ops[i]?=some oi) (hsel:∀(j:Nat) (o:Oper) cs b,ops[j]?=some o->o.op≠.select cs b)
    (hQ:∀c a w,Q (.panic c) (a.put oi.dst v) w->Q (.panic c) a w):
    ∀ (fuel:Nat) (listed:Array Bool) (a:Act) (w:World),
      (∀j oj,ops[j]?=some oj->j≠i->listed.getD j true=false->(∀e∈oj.after,Region.binds .any e=true->e.on≠i)->oi.apart ops oj=true)->
      i∈Region.ready .any ops listed->YieldsIf P ops (λw=>B w∧S w) oi v a->B w->S w->listed.getD m false=false->
      wpB P ops Q B S m fuel (listed.setIfInBounds i true) (a.put oi.dst v) w->wpB P ops Q B S m (fuel+1) listed a w:=by
  intro fuel
  induction fuel with
  | zero=>
    intro listed a w _ hr hy hB hS _ H;refine⟨λh=>(by rw[h]at hr;cases hr),λj hj=>?_⟩;by_cases hji:j=i
    ·subst hji;exact hy.wpOp hi ⟨hB,hS⟩ ⟨hB,.inl hS,H⟩
    · have :=ready_mono hj hji;rw[H.1]at this;cases this
  | succ fuel ih=>
    intro listed a w hfree hr hy hB hS hlm H;refine⟨λh=>(by rw[h]at hr;cases hr),λj hj=>?_⟩;by_cases hji:j=i
    ·subst hji;exact hy.wpOp hi ⟨hB,hS⟩ ⟨hB,.inl hS,H⟩
    · have h1:=H.2 j (ready_mono hj hji);obtain⟨hjun,oj,hoj,hall⟩:=mem_ready.1 hj;have hnot:=CJ (j:=j) hr hall;have hjm:j≠m:=by
        rintro rfl;unfold zf at hwt;rw[hoj]at hwt;obtain⟨e,he,hb⟩:=Array.any_eq_true'.1 hwt;simp only[aab,aar]at hb;exact hnot e he hb.1 hb.2
      have h2:=wpOp_putIf hoj (hfree j oj hoj hji hjun hnot) (λcs b=>hsel i oi cs b hi) (λcs b=>hsel j oj cs b hoj) hQ hy h1;have hfree':∀k ok,ops[k]?=some ok->k≠i->(listed.setIfInBounds j true).getD k true=false->
          (∀e∈ok.after,Region.binds .any e=true->e.on≠i)->oi.apart ops ok=true:=λk ok hk hki hun hno=>by
        refine hfree k ok hk hki ?_ hno;by_cases hjk:j=k
        ·subst hjk;exact hjun
        ·rw[getD_set_ne true hjk]at hun;exact hun
      refine wpOp_mono (λa' w' h3=>?_) h2;have hlm':(listed.setIfInBounds j true).getD m false=false:=by rw[getD_set_ne false hjm];exact hlm
      have hS':S w':=by
        rcases h3.2.2.1 with h|h
        ·exact h
        · rw[Array.setIfInBounds_comm _ _ λe=>hji e.symm,getD_set_ne false him,hlm']at h;cases h
      refine⟨h3.2.1,.inl hS',ih (listed.setIfInBounds j true) a' w' hfree' (ready_mono hr<|Ne.symm hji) h3.1 h3.2.1 hS' hlm' ?_⟩;rw[Array.setIfInBounds_comm _ _ hji];exact h3.2.2.2
end
inductive EI where
 |seq (c:Code)
 |blk (id:Nat)
 |loop (c:Code) (j:Nat)
 |scp
inductive EP where
 |code (c:Code)
 |ops (all:Array Oper) (rest:List Oper)
 |ex (e:Exit)
 |drw (all:Array Oper) (L:List Nat) (m left:Nat) (listed:Array Bool)
def dI(P:Program)(Q:Exit->Act->World->Prop):List EI->Exit->Act->World->Prop
 |[]=>Q
 |.seq c::s=>Exit.then (c.wp P<|dI P Q s)<|dI P Q s
 |.blk id::s=>Exit.inBlock id<|dI P Q s
 |.loop c j::s=>Exit.then (Code.rounds P c (dI P Q s) j)<|dI P Q s
 |.scp::s=>Exit.noGoto<|dI P Q s
def sJ:Value->Option Nat
 |.pointer (some a)=>some a.block
 |.slice (some a) _ _=>some a.block
 |.tuple xs=>match(xs[0]?:Option Value)with
  |some (Value.slice (some a) _ _)=>some a.block
  |_=>none
 |_=>none
def Ls(ρ:Nat->Option Value)(L:YN)(w w':World):Prop:=∀id,id∈L->∀x b,ρ id=some x->sJ x=some b->w'.heap[b]?=w.heap[b]?
def EP.wp(P:Program)(Q:Exit->Act->World->Prop)(p:EP)(s:List EI)(S:Nat->Prop)(w:World)(ρ:Nat->Option Value)(a:Act):Prop:=
 match p with
 |.code c=>c.wp P (dI P Q s) a w
 |.ops all rest=>wpList P all (dI P Q s) rest a w
 |.ex e=>dI P Q s e a w
 |.drw all L m left listed=>Region.noSelect all=true->wpB P all (NoPanic<|dI P Q s) (Agree S w) (Ls ρ L w) m left listed a w
structure Hp where
 nx:Nat
 es:List (Nat×Ob)
def aA:List (Nat×Ob)->Nat->Ob
 |[],_=>.gone
 |(i,o)::r,j=>match Nat.beq i j with
  |true=>o
  |false=>aA r j
def Hp.get(H:Hp)(i:Nat):Ob:=match Nat.blt i H.nx with
 |true=>aA H.es i
 |false=>.free
def Jl{α:Type}(id:Nat)(o:Ob):List (Nat×Ob)->(List (Nat×Ob)->α)->α
 |[],c=>c []
 |(i,p)::r,c=>match Nat.beq i id with
  |true=>c<|(i,o)::r
  |false=>Jl id o r λE=>c<|(i,p)::E
def yr{α:Type}(id:Nat):List (Nat×Ob)->(List (Nat×Ob)->α)->α
 |[],c=>c []
 |(i,p)::r,c=>match Nat.beq i id with
  |true=>yr id r c
  |false=>yr id r λE=>c<|(i,p)::E
def Hp.ap(H:Hp)(e:ED)(c:Hp->α):α:=match e with
 |.nop=>c H
 |.new o=>fC H.nx λk=>fC (k+1) λn=>c ⟨n,(k,o)::H.es⟩
 |.set id o=>Jl id o H.es λes=>fC H.nx λk=>c ⟨k,es⟩
 |.repl id o=>yr id H.es λes=>fC H.nx λk=>fC (k+1) λn=>c ⟨n,(k,o)::es⟩
 |.repl2 id E o=>yr id H.es λes=>yr E es λes=>fC H.nx λk=>fC (k+1) λn=>c ⟨n,(k,o)::es⟩
def ud(id:Nat)(o:Ob):List (Nat×Ob)->List (Nat×Ob)
 |[]=>[]
 |(i,p)::r=>match Nat.beq i id with
  |true=>(i,o)::r
  |false=>(i,p)::ud id o r
def nM(id:Nat):List (Nat×Ob)->List (Nat×Ob)
 |[]=>[]
 |(i,p)::r=>match Nat.beq i id with
  |true=>nM id r
  |false=>(i,p)::nM id r
theorem Hg{α:Type}{id:Nat}{o:Ob}:∀(l:List<|Nat×Ob) (c:List (Nat×Ob)->α),Jl id o l c=c (ud id o l)
 |[],c=>rfl
 |(i,p)::r,c=>by
  simp only[Jl,ud];split
  ·rfl
  ·rw[Hg r]
theorem zc{α:Type}{id:Nat}:∀(l:List<|Nat×Ob) (c:List (Nat×Ob)->α),yr id l c=c (nM id l)
 |[],c=>rfl
 |(i,p)::r,c=>by
  simp only[yr,nM];split
  ·rw[zc r]
  ·rw[zc r]
theorem nbF{a:Nat}(h:a≠b):Nat.beq a b=false:=by
 cases hb:Nat.beq a b
 ·rfl
 ·exact absurd (aaf hb) h
theorem nbT(a:Nat):Nat.beq a a=true:=by simp
theorem nlT{a:Nat}(h:a<b):Nat.blt a b=true:=by simpa[Nat.blt_eq]using h
theorem zE{id i:Nat}{o:Ob}(hi:i≠id):∀{l:List<|Nat×Ob},aA (ud id o l) i=aA l i
 |[]=>rfl
 | (j,p)::r=>by
  simp only[ud];split
  ·rename_i hb;have e1:=aaf hb;subst e1;simp only[aA,nbF<|Ne.symm hi]
  ·simp only[aA];rw[zE hi]
theorem xx{id:Nat}{o:Ob}:∀{l:List<|Nat×Ob},aA l id≠.gone->aA (ud id o l) id=o
 |[],h=>absurd rfl h
 | (j,p)::r,h=>by
  simp only[ud];split
  ·rename_i hb;simp only[aA,hb]
  ·rename_i hb;simp only[aA,hb]at h⊢;exact xx h
theorem kp{id i:Nat}:∀{l:List<|Nat×Ob},aA (nM id l) i=if i=id then .gone else aA l i
 |[]=>by simp[aA,nM]
 | (j,p)::r=>by
  simp only[nM,aA];split
  ·rename_i hb;have e1:=aaf hb;subst e1;rw[kp];by_cases hi:i=j
   ·simp[hi]
   ·simp[hi,nbF<|Ne.symm hi]
  ·rename_i hb;have hne:=Nat.ne_of_beq_eq_false hb;simp only[aA];split
   ·rename_i hb2;have e2:=aaf hb2;subst e2;rw[if_neg hne]
   ·exact kp
def Hp.app(H:Hp):ED->Hp
 |.nop=>H
 |.new o=>⟨H.nx+1,(H.nx,o)::H.es⟩
 |.set id o=>⟨H.nx,ud id o H.es⟩
 |.repl id o=>⟨H.nx+1,(H.nx,o)::nM id H.es⟩
 |.repl2 id E o=>⟨H.nx+1,(H.nx,o)::nM E (nM id H.es)⟩
theorem Hp.ap_eq(H:Hp)(e:ED)(c:Hp->α):H.ap e c=c (H.app e):=by cases e<;>simp[Hp.ap,Hp.app,dB,Hg,zc]
theorem Hp.get_free(H:Hp):H.get H.nx=.free:=by
 unfold Hp.get;have :Nat.blt H.nx H.nx=false:=by simp[Bool.eq_false_iff]
 rw[this]
theorem Hp.get_app{H:Hp}{e:ED}(he:e.ok H.get):(H.app e).get=e.app H.get H.nx:=by
 funext i
 cases e with
 |nop=>rfl
 | new o=>
  simp only[Hp.app,ED.app];by_cases hi:i=H.nx
  ·subst hi;rw[aP];simp only[Hp.get,aA,nlT<|Nat.lt_succ_self H.nx,nbT]
  ·rw[aY _ _ hi];have hb:Nat.beq H.nx i=false:=nbF<|Ne.symm hi;have :Nat.blt i (H.nx+1)=Nat.blt i H.nx:=by rw[Bool.eq_iff_iff];simp[Nat.blt_eq];omega
   simp[Hp.get,aA,hb,this]
 | set id o=>
  simp only[Hp.app,ED.app];have h1:aA H.es id≠.gone:=by
   have :=he.1;unfold Hp.get at this;split at this
   ·exact this
   ·rename_i hc;exact absurd (by unfold Hp.get;rw[hc]) he.2
  by_cases hi:i=id
  ·subst hi;rw[aP];have h2:=he.2;unfold Hp.get at h2⊢;split at h2
   ·rename_i hc;simp only[hc];exact xx h1
   ·exact absurd I h2
  ·rw[aY _ _ hi];unfold Hp.get;simp only[];rw[zE hi]
 | repl id o=>
  simp only[Hp.app,ED.app];have hid:id<H.nx:=by
   have h2:=he.2;unfold Hp.get at h2;split at h2
   ·rename_i hc;simpa[Nat.blt_eq]using hc
   ·exact absurd I h2
  by_cases hi:i=H.nx
  ·subst hi;rw[aP];simp only[Hp.get,aA,nlT<|Nat.lt_succ_self H.nx,nbT]
  ·rw[aY _ _ hi];have hb:Nat.beq H.nx i=false:=nbF<|Ne.symm hi;have hlt:Nat.blt i (H.nx+1)=Nat.blt i H.nx:=by rw[Bool.eq_iff_iff];simp[Nat.blt_eq];omega
   by_cases hii:i=id
   ·subst hii;rw[aP];have :Nat.blt i H.nx=true:=by simpa[Nat.blt_eq]using hid
    simp[Hp.get,aA,hb,hlt,this,kp]
   ·rw[aY _ _ hii];simp[Hp.get,aA,hb,hlt,kp,hii]
 | repl2 id id2 o=>
  simp only[Hp.app,ED.app];have lt:∀{k},H.get k≠.free->k<H.nx:=λ{k} h2=>by
   unfold Hp.get at h2;split at h2
   ·rename_i hc;simpa[Nat.blt_eq]using hc
   ·exact absurd I h2
  have hid:=lt he.1.2;have hid2:=lt he.2.2;by_cases hi:i=H.nx
  ·subst hi;rw[aP];simp only[Hp.get,aA,nlT<|Nat.lt_succ_self H.nx,nbT]
  ·rw[aY _ _ hi];have hb:Nat.beq H.nx i=false:=nbF<|Ne.symm hi;have hlt:Nat.blt i (H.nx+1)=Nat.blt i H.nx:=by rw[Bool.eq_iff_iff];simp[Nat.blt_eq];omega
   by_cases hi2:i=id2
   ·subst hi2;rw[aP];have :Nat.blt i H.nx=true:=by simpa[Nat.blt_eq]using hid2
    simp[Hp.get,aA,hb,hlt,this,kp]
   ·rw[aY _ _ hi2];by_cases hii:i=id
    ·subst hii;rw[aP];have :Nat.blt i H.nx=true:=by simpa[Nat.blt_eq]using hid
     simp[Hp.get,aA,hb,hlt,this,kp]
    ·rw[aY _ _ hii];simp[Hp.get,aA,hb,hlt,kp,hii,hi2]
theorem FV(a b:List<|Nat×Ob)(i:Nat):aA (a++b) i=aA a i∨(aA a i=.gone∧aA (a++b) i=aA b i):=by
 induction a with
 |nil=>exact .inr ⟨rfl,rfl⟩
 |cons p r ih=>
  obtain⟨j,o⟩:=p;simp only[aap,aA];split
  ·exact .inl I
  ·exact ih
end Go.Proofs.YtehhanlhfdoiaaaGreat
