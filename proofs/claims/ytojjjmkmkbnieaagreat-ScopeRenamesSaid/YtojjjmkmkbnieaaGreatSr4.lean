/- Contracts of the functions that the law reaches, part 4. -/
import Derived.Test.YtojjjmkmkbnieaaGreatSr3
set_option linter.unusedVariables false
set_option linter.unusedSimpArgs false
namespace Go.Proofs.YtojjjmkmkbnieaaGreat
open _root_.Go.Proofs.Tryz
open Go.RowKit Lx Sx
set_option maxRecDepth 100000
def ur:List (List UInt8)→List V→Bool
 |[],[]=>true
 |s::r,.str l::q=>lEq s l&&ur r q
 |_,_=>false
def vy(ls:List (List UInt8)):V→Bool
 |.nils=>ls.isEmpty
 |.row sz els=>Nat.beq sz 1&&ur ls els
 |_=>false
mutual
def treeB:Tree→V→Bool
 |.node k s ls ks,v=>match v with
  |.agg [.int .i64 k',.str s',l,r]=>iEq k k'&&lEq s s'&&vy ls l&&(match r with
   |.nils=>ks.isEmpty
   |.row sz els=>Nat.beq sz 4&&kidsB ks els
   |_=>false)
  |_=>false
def kidsB:List Tree→List V→Bool
 |[],vs=>match vs with
  |[]=>true
  |_=>false
 |t::r,vs=>match vs with
  |v::q=>treeB t v&&kidsB r q
  |[]=>false
end
section
variable{S:Nat→Prop}{w:World}
theorem vj{ρ:Nat→Option Value}:∀{ls:List (List UInt8)} {els:List V} {xs:List Value},ur ls els=true→CRel S w ρ 1 els xs→els.length=ls.length∧xs=ls.map aE
 |[],[],xs,_,G=>by simp only[CRel]at G;subst G;exact⟨rfl,rfl⟩
 |s::r,v::q,xs,E,G=>by
  cases v<;>simp only[ur]at E<;>first|(cases E;done)|skip
  rename_i l;simp only[Bool.and_eq_true]at E;have J:=E.1;rw[oy]at J;simp only[beq_iff_eq]at J;subst J;simp only[CRel]at G;obtain⟨x,ys,rfl,_,O,U⟩:=G;simp only[VRel]at O;subst O;obtain⟨Z,h6⟩:=vj E.2 U;exact⟨by simp[Z],by simp[h6,Value.cells]⟩
 |[],_::_,_,E,_=>by cases E
 |_::_,[],_,E,_=>by cases E
theorem AQ{ρ:Nat→Option Value}{ls:List (List UInt8)}{v:V}{x:Value}(q:vy ls v=true)(hx:VRel S w ρ v x):∃A m,x=.slice A ls.length m∧ls.length≤m∧m≤maxLen∧RowIn S w 1 A ls.length (ls.map aE):=by
 cases v<;>simp only[vy]at q<;>first|(cases q;done)|skip
 ·simp only[List.isEmpty_iff]at q;subst q;simp only[VRel]at hx;subst hx;exact⟨none,0,rfl,Nat.le_refl _,by decide,RowIn.none_⟩
 ·rename_i sz els;simp only[Bool.and_eq_true,Nat.beq_eq]at q;obtain⟨rfl,q⟩:=q;simp only[VRel]at hx;obtain⟨A,c,xs,rfl,E,J,O,G⟩:=hx;obtain⟨U,rfl⟩:=vj q O;rw[U]at E G⊢;exact⟨A,c,rfl,E,J,G⟩
mutual
theorem treeB_ok{ρ:Nat→Option Value}:∀{t:Tree} {v:V} {x:Value},treeB t v=true→VRel S w ρ v x→∃c,x=.agg c.toArray∧TreeIs S w t c
 | .node k s ls ks,v,x,hb,hx=>by
  unfold treeB at hb;split at hb
  ·rename_i k' s' l r;simp only[Bool.and_eq_true]at hb;obtain⟨⟨⟨hb1,hb2⟩,hb3⟩,hb4⟩:=hb;rw[pC]at hb1;rw[oy]at hb2;simp only[beq_iff_eq]at hb1 hb2;subst hb1 hb2;simp only[VRel]at hx;obtain⟨xs,rfl,hl⟩:=hx;simp only[LRel]at hl;obtain⟨x0,_,rfl,h0,x1,_,rfl,h1,x2,_,rfl,h2,x3,_,rfl,h3,rfl⟩:=hl;simp only[VRel]at h0 h1;subst h0 h1;obtain⟨A,m,rfl,g1,g2,g3⟩:=AQ hb3 h2;have kk:∃B n,x3=.slice B ks.length n∧ks.length≤n∧n≤maxLen∧∃cs,KidsAre S w ks cs∧RowIn S w 4 B ks.length cs:=by
    split at hb4
    ·simp only[List.isEmpty_iff]at hb4;subst hb4;simp only[VRel]at h3;subst h3;exact⟨none,0,rfl,Nat.le_refl _,by decide,[],by simp only[KidsAre],RowIn.none_⟩
    ·rename_i sz els;simp only[Bool.and_eq_true,Nat.beq_eq]at hb4;obtain⟨rfl,hb4⟩:=hb4;simp only[VRel]at h3;obtain⟨B,c,ys,rfl,q3,q4,q5,q6⟩:=h3;obtain⟨q7,q8⟩:=kidsB_ok hb4 q5;rw[q7]at q3 q6⊢;exact⟨B,c,rfl,q3,q4,ys,q8,q6⟩
    ·cases hb4
   obtain⟨B,n,rfl,k1,k2,cs,k3,k4⟩:=kk;exact⟨_,rfl,qD g1 g2 k1 k2 g3 k3 k4⟩
  ·cases hb
theorem kidsB_ok{ρ:Nat→Option Value}:∀{ts:List Tree} {vs:List V} {xs:List Value},kidsB ts vs=true→CRel S w ρ 4 vs xs→vs.length=ts.length∧KidsAre S w ts xs
 |[],vs,xs,hb,hc=>by
  unfold kidsB at hb;split at hb
  ·simp only[CRel]at hc;subst hc;exact⟨rfl,by simp only[KidsAre]⟩
  ·cases hb
 | t::r,vs,xs,hb,hc=>by
  unfold kidsB at hb;split at hb
  ·rename_i v q;simp only[Bool.and_eq_true]at hb;simp only[CRel]at hc;obtain⟨x,ys,rfl,_,h3,h4⟩:=hc;obtain⟨c,rfl,hT⟩:=treeB_ok hb.1 h3;obtain⟨h5,h6⟩:=kidsB_ok hb.2 h4;exact⟨by simp[h5],by simp only[KidsAre];exact⟨c,ys,by simp[Value.cells],hT,h6⟩⟩
  ·cases hb
end
end
def vi(T:Tab)(k:Nat)(fid:FuncId)(vs:List V):Option (List V):=match BB T k fid vs ⟨0,[]⟩with
 |some (rs,H1)=>uR 0 H1 rs λrs' _=>some rs'
 |none=>none
theorem pz(i:Nat):(⟨0,[]⟩:Hp).get i=.free:=by
 unfold Hp.get;have :Nat.blt i 0=false:=by cases i<;>rfl
 simp only[this]
theorem CJ{w:World}{S:Nat→Prop}(E:SOk S w):HRel S w (λ_=>none) (⟨0,[]⟩:Hp).get:=
 ⟨λi=>by rw[pz];rfl,λi b q=>by rw[pz]at q;exact q.elim,λi j b q _=>by rw[pz]at q;exact q.elim,E⟩
variable{k:Nat}
theorem DW{P:Program}{T:Tab}(U:TabOk P T)(Z:P.follows .mixedOrders=true){fid:FuncId}{vs rs:List V}(h:vi T k fid vs=some rs){S:Nat→Prop}{w:World}{xs:List Value}(hg:SOk S w)(hx:LRel S w (λ_=>none) vs xs):
  Calls P fid xs.toArray w λe w'=>∃S' ρ' ys,e=.returned (kR ys)∧SOk S' w'∧(∀b,S b→S' b)∧(∀b,S' b→S b∨w.heap.size≤b)∧Chg [] w w'∧LRel S' w' ρ' rs ys:=by
 unfold vi at h;split at h
 ·rename_i J H1 E;obtain⟨rs2,H2,e1,_,e3⟩:=tk 0 J H1;rw[e1]at h;injection h with h;subst h
  refine(Dq U Z E (CJ hg) hx).2.mono λe w' hR=>?_;obtain⟨S',ρ',ys,rfl,hr,hi,hl⟩:=hR;obtain⟨S2,a1,O,a3,a4⟩:=e3 _ S' w' ρ' ys hr hi hl;have G:∀b,¬∃id,own (λ_=>none) id ((⟨0,[]⟩:Hp).get id) b:=λb ⟨id,q⟩=>by rw[pz]at q;exact q
  refine⟨S2,ρ',ys,rfl,a1.slt,O.s0,λb q=>?_,⟨hi.chg.os,hi.chg.tape,hi.chg.output,hi.chg.size,λb q _=>hi.chg.block b q (G b)⟩,a4⟩;rcases O.s1 b q with h|h|h
  ·exact .inl h
  ·exact absurd h (G b)
  ·exact .inr h
 ·cases h
def Cn(fid:FuncId)(vs:List V):Option V:=match Nat.beq fid 66 with
 |true=>match vs with
  |[.str s,.int .u8 (.ofNat c)]=>yp (Lib.indexByte s c.toUInt8) λn=>some (.int .i64 n)
  |_=>none
 |false=>none
noncomputable def zn:Tab:=⟨true,lK tyL,lK fnL,Cn,λf=>Nat.beq f 22⟩
theorem DS:TabOk prog zn:=by
 refine⟨At,FG,λi vs v hv=>?_⟩;replace hv:Cn i vs=some v:=hv;unfold Cn at hv;split at hv
 ·rename_i E;have :=Nat.eq_of_beq_eq_true E;subst this;split at hv
  ·rename_i s c;rw[xa]at hv;injection hv with hv;subst hv
   refine⟨by kernel_rfl,λS w ρ xs hx=>?_⟩;simp only[LRel]at hx;obtain⟨G,_,rfl,q,J,_,rfl,h1,rfl⟩:=hx;simp only[VRel]at q h1;subst q h1;exact⟨_,by simp only[VRel];rfl,zj _ _ _⟩
  ·cases hv
 ·cases hv
def qm(t:Tree):Option (List V)→Bool
 |some [v,.int .i64 a,.int .i64 e]=>treeB t v&&iEq a 0&&iEq e 0
 |_=>false
variable{t:Tree}
theorem zM{l:List UInt8}(h:qm t (vi zn k 12 [.str l])=true){S:Nat→Prop}{w:World}(Z:SOk S w):Calls prog 12 [aE l].toArray w λe w'=>∃S' c0 q E G,e=.returned (.tuple #[.agg #[c0,q,E,G],.int .i64 0,.int .i64 0])∧SOk S' w'∧(∀b,S b→S' b)∧(∀b,S' b→S b∨w.heap.size≤b)∧TreeIs S' w' t [c0,q,E,G]∧Chg [] w w':=by
 unfold qm at h;split at h
 ·rename_i v a e hr;simp only[Bool.and_eq_true,pC,beq_iff_eq]at h;obtain⟨⟨h1,rfl⟩,rfl⟩:=h;refine(DW DS (by kernel_rfl) hr Z (xs:=[aE l]) ⟨_,[],rfl,by simp only[VRel],rfl⟩).mono λe w' hR=>?_;obtain⟨S',ρ',ys,rfl,g0,g1,g2,g4,O⟩:=hR;simp only[LRel]at O;obtain⟨x0,_,rfl,h0,x1,_,rfl,h2,x2,_,rfl,U,rfl⟩:=O;simp only[VRel]at h2 U;subst h2 U;obtain⟨c,rfl,J⟩:=treeB_ok h1 h0;have h4:=J.four
  match c,h4,J with
  |[c0,q,E,G],_,J=>exact⟨S',c0,q,E,G,rfl,g0,g1,g2,J,g4⟩
 ·cases h
section
variable{S:Nat→Prop}{w:World}{ρ:Nat→Option Value}
theorem we:∀ls:List (List UInt8),CRel S w ρ 1 (ls.map .str) (ls.map aE)
 |[]=>by simp[CRel]
 |s::r=>by
  simp only[List.map_cons,CRel];exact⟨aE s,r.map aE,by simp[Value.cells,aE],⟨rfl,rfl⟩,by unfold VRel;rfl,we r⟩
theorem vO:∀ls:List Int,CRel S w ρ 1 (ls.map (V.int .i64)) (ls.map λz=>.int .i64 z)
 |[]=>by simp[CRel]
 |s::r=>by
  simp only[List.map_cons,CRel];exact⟨.int .i64 s,_,by simp[Value.cells],⟨rfl,rfl⟩,by unfold VRel;rfl,vO r⟩
mutual
theorem TreeIs.vrel:∀{ρ:Nat→Option Value} {t:Tree} {c:List Value},TreeIs S w t c→LRel S w ρ (ak t) c
 |ρ,.node k s ls ks,c,h=>by
  simp only[TreeIs]at h;obtain⟨A,m,B,n,rfl,h1,h2,h3,h4,h5,cs,h6,h7⟩:=h;simp only[ak,Tree.kind,Tree.text,Tree.leads,Tree.kids,LRel,VRel];exact⟨_,_,rfl,rfl,_,_,rfl,rfl,_,_,rfl,⟨A,m,_,by simp,by simpa using h1,h2,we ls,by simpa using h5⟩,_,_,rfl,⟨B,n,cs,by simp[gU],by simpa[gU]using h3,h4,KidsAre.crel h6,by simpa[gU]using h7⟩,rfl⟩
theorem KidsAre.crel:∀{ρ:Nat→Option Value} {ts:List Tree} {cs:List Value},KidsAre S w ts cs→CRel S w ρ 4 (kidsV ts) cs
 |ρ,[],cs,h=>by simp only[KidsAre]at h;simp only[kidsV,CRel];exact h
 |ρ,t::r,cs,h=>by
  simp only[KidsAre]at h;obtain⟨c,d,rfl,h1,h2⟩:=h;simp only[kidsV,CRel,ig];exact⟨.agg c.toArray,d,by simp[Value.cells],⟨by simp[Value.cells,h1.four],by simpa[Value.cells]using h1.one⟩,by simp only[VRel];exact⟨c,rfl,h1.vrel⟩,KidsAre.crel h2⟩
end
end
theorem Dr{l:List UInt8}(h:qm t (vi zn k 12 [.str l])=true):nJ prog 12 [.str l] (.tup [.agg (ak t),.int .i64 0,.int .i64 0]):=by
 refine⟨rfl,rfl,λS w ρ xs hr hx=>?_⟩;simp only[LRel,VRel]at hx;obtain⟨x,ys,rfl,rfl,rfl⟩:=hx;refine(zM h hr.slt).mono ?_;rintro e w' ⟨S',c0,E,G,J,rfl,U,Z,g2,hT,O⟩;have g:=hr.chg0 O;refine⟨_,S',ρ,_,⟨0,[]⟩,rfl,rfl,⟨λi=>?_,λi b q=>?_,λi j b q _=>?_,U⟩,⟨ChgP.of0 O,Z,λb q=>(g2 b q).elim .inl λh=>.inr (.inr h),λid b q=>.inl ⟨id,q⟩,λid x h=>?_⟩,?_⟩
 ·have :=g.ob i;rw[pz]at this⊢;exact this
 ·rw[pz]at q;exact q.elim
 ·rw[pz]at q;exact q.elim
 ·simp only[mH]at h;split at h
  ·exact h
  ·cases h
 ·have hk:=TreeIs.vrel (ρ:=ρ) hT;simp only[VRel];exact⟨[.agg #[c0,E,G,J],.int .i64 0,.int .i64 0],rfl,.agg #[c0,E,G,J],_,rfl,by simp only[VRel];exact⟨_,rfl,hk⟩,_,_,rfl,by simp only[VRel],_,_,rfl,by simp only[VRel],rfl⟩
set_option maxHeartbeats 1000000
def f0(n:Int)(least leads list:Nat)(most:Int):Int:=if 0≤most∧most<n then-1 else if n<least then-1 else if most<0∧(list:Int)<n then leads+(n-list-1)else leads
def cH(k n:Int):Int:=if k=1 then(if n<0 then-1 else 3)else if k=2 then f0 n 2 6 2 (-1)else if k=16 then f0 n 0 3 0 (-1)else if k=18 then f0 n 1 2 0 (-1)else if k=3 then f0 n 1 3 0 1 else if k=4 then f0 n 1 2 0 1 else if k=8 then f0 n 1 2 0 1 else if k=22 then f0 n 1 2 0 1 else if k=17 then f0 n 1 0 0 1 else if k=19 then f0 n 3 3 0 3 else if k=20 then f0 n 2 4 0 2 else if k=21 then f0 n 2 1 0 2 else if k=5∨k=6∨k=7∨k=9∨k=10∨k=11∨k=12∨k=13∨k=14∨k=15 then f0 n 0 1 0 0 else-1
theorem ni(a b c:Int):dC a b c (if a<b then-1 else c):=qE 0 _ _ _ _ ⟨λh=>by rw[if_pos h],λh=>by rw[if_neg h]⟩
theorem Em(a b c:Int):bB a b c (if a=b then c else-1):=pk 0 _ _ _ _ ⟨λh=>by rw[if_pos h],λh=>by rw[if_neg h]⟩
variable{n:Int}
theorem Eg(m:Nat)(E:0≤n)(h1:n≤1000000000)(a b c:Nat)(z:Int)(G:b≤10)(J:c≤2)(q:¬(0≤z∧z<n)):iI (m+1) n a b c z (f0 n a b c z):=by
 refine rq m _ _ _ _ _ _ ⟨λh=>⟨λh'=>⟨by omega,by omega,by omega,_,ni _ _ _,?_⟩,λh'=>⟨_,ni _ _ _,?_⟩⟩,λh=>⟨_,ni _ _ _,?_⟩⟩
 ·simp only[f0,if_neg q,h,h',true_and,if_true]
 ·simp only[f0,if_neg q,h,h',true_and,if_false]
 ·simp only[f0,if_neg q,h,false_and,if_false]
theorem Ek(m:Nat)(q:0≤n)(h1:n≤1000000000)(a b c:Nat)(z:Int)(E:b≤10)(G:c≤2):aA (m+2) n a b c z (f0 n a b c z):=by
 refine ri (m+1) _ _ _ _ _ _ ⟨λh=>⟨λh'=>?_,λh'=>Eg m q h1 _ _ _ _ E G (by omega)⟩,λh=>Eg m q h1 _ _ _ _ E G (by omega)⟩;simp[f0,h,h']
theorem Db{k:Int}(J:0≤n)(h1:n≤1000000000):lw k n (cH k n):=by
 have O:∀{r:Int} (a b c:Nat) (z:Int),b≤10→c≤2→r=f0 n a b c z→aA 3 n a b c z r:=λa b c z q E e=>by rw[e];exact Ek 1 J h1 a b c z q E
 have G:∀{r:Int} (a b c:Nat) (z:Int),b≤10→c≤2→r=f0 n a b c z→aA 4 n a b c z r:=λa b c z q E e=>by rw[e];exact Ek 2 J h1 a b c z q E
 refine sG 4 _ _ _ ?_
 repeat' first|(refine⟨_,ni _ _ _,?_⟩)|(refine And.intro (λ_=>?_) (λ_=>?_))|(refine rB 3 _ _ _ _ ?_)
 all_goals first|(refine G _ _ _ _ (by decide) (by decide) ?_)|(refine O _ _ _ _ (by decide) (by decide) ?_)|skip
 all_goals simp_all[cH]
theorem oB{k:Int}(q:0≤n)(h1:n≤1000000000):dt k n (cH k n):=by
 refine pf 2 _ _ _ ?_
 repeat' first|(refine⟨_,Em _ _ _,?_⟩)|(refine And.intro (λ_=>?_) (λ_=>?_))|(refine ou 1 _ _ _ _ ?_)|(refine nY 0 _ _ _ _ ?_)|(refine And.intro (by omega) ?_)
 all_goals simp_all[cH]
 all_goals (try unfold f0)
 all_goals (repeat' split)
 all_goals omega
def sJ(x:List UInt8):Bool:=x==[43]||x==[45]||x==[42]||x==[60]||x==[61,61]
def oM(k:Int)(x:List UInt8):Bool:=if k=1∨k=3 then(bq x:Int)==2 else if k=2∨k=4∨k=12∨k=20 then(bq x:Int)==1 else if k=9 then(bq x:Int)==2||(bq x:Int)==4 else if k=16 then(bq x:Int)==1||(bq x:Int)==3 else if k=10 then(bq x:Int)==5 else if k=11 then(bq x:Int)==6 else if k=21 then sJ x else x==[]
theorem yK(x:List UInt8):jv x (sJ x):=by
 refine pO 0 _ _ ?_
 repeat' (refine And.intro (λ_=>?_) (λ_=>?_))
 all_goals simp_all[sJ]
theorem wM(x:List UInt8):eU x (sJ x):=by
 refine mu 0 _ _ ?_
 repeat' (refine And.intro (λ_=>?_) (λ_=>?_))
 all_goals simp_all[sJ]
theorem BK(k:Int)(x:List UInt8)(hx:x.length≤281474976710656):kw k x (oM k x):=by
 refine rM 2 _ _ _ ?_;refine⟨_,CZ x hx,?_⟩
 repeat' first|(refine⟨_,yK _,?_⟩)|(refine And.intro (λ_=>?_) (λ_=>?_))|(refine qK 1 _ _ _ _ _ ?_)|(refine qI 0 _ _ _ _ _ ?_)
 all_goals simp_all[oM]
theorem AW(k:Int)(x:List UInt8)(hx:x.length≤281474976710656):ga k x (oM k x):=by
 refine mY 2 _ _ _ ?_;refine⟨_,Bu x hx,?_⟩
 repeat' first|(refine⟨_,wM _,?_⟩)|(refine And.intro (λ_=>?_) (λ_=>?_))|(refine mD 1 _ _ _ _ _ ?_)|(refine mQ 0 _ _ _ _ _ ?_)
 all_goals simp_all[oM]
def iX(k:Int):Bool:=decide (5≤k∧k≤9)
def kS(k:Int):Bool:=decide (10≤k∧k≤22∧k≠17)
def qy(k:Int):Bool:=kS k&&decide (k≠19∧k≠20∧k≠21)
theorem BI(k:Int):iB k (iX k):=rp 0 _ _ ⟨λh=>by simp[iX,h],λh=>by simp[iX,h]⟩
theorem AY(k:Int):eM k (iX k):=oq 0 _ _ ⟨λh=>by simp[iX,h],λh=>by simp[iX,h]⟩
theorem ql(a b:Int):(a !=b)=decide (a≠b):=by by_cases h:a=b<;>simp[h]
theorem vF(k:Int):da k (kS k):=nC 0 _ _ ⟨λh=>⟨λh'=>by simp[kS,h,h',ql],λh'=>by simp[kS,h,h']⟩,λh=>by simp[kS,h]⟩
theorem tW(k:Int):di k (kS k):=nV 0 _ _ ⟨λh=>⟨λh'=>by simp[kS,h,h',ql],λh'=>by simp[kS,h,h']⟩,λh=>by simp[kS,h]⟩
theorem Cw(k:Int):kL k (qy k):=by
 refine ru 0 _ _ ⟨_,vF k,?_⟩
 repeat' (refine And.intro (λ_=>?_) (λ_=>?_))
 all_goals simp_all[qy,ql]
theorem pV(k:Int):eF k (qy k):=by
 refine og 0 _ _ ⟨_,tW k,?_⟩
 repeat' (refine And.intro (λ_=>?_) (λ_=>?_))
 all_goals simp_all[qy,ql]
def gj(k n:Int)(i:Int)(kk:Int):Bool:=if k=1 then kk==2||kk==3 else if k=2 then(if i=n-1 then kS kk else if i=n-2 then iX kk else kk==4)else if k=3∨k=4∨k=8 then iX kk else if k=16 then kk==17 else if k=21 then qy kk||(decide (i=0)&&kk==21)else kS kk
variable{u:Tree}{i:Nat}
theorem Dg(q:t.kids[i]?=some u):ln t i (gj t.kind t.kids.length i u.kind):=by
 refine sL 1 _ _ _ ⟨i,rfl,u,q,?_⟩
 repeat' first|(refine⟨_,vF _,?_⟩)|(refine⟨_,BI _,?_⟩)|(refine⟨_,Cw _,?_⟩)|(refine And.intro (λ_=>?_) (λ_=>?_))|(refine re 0 _ _ _ _ _ ?_)
 all_goals simp_all[gj]
theorem Gi(t:Tree)(i:Nat)(kk:Int):ju t i kk (gj t.kind t.kids.length i kk):=by
 refine qc 1 _ _ _ _ ?_
 repeat' first|(refine⟨_,tW _,?_⟩)|(refine⟨_,AY _,?_⟩)|(refine⟨_,pV _,?_⟩)|(refine And.intro (λ_=>?_) (λ_=>?_))|(refine pm 0 _ _ _ _ _ ?_)
 all_goals simp_all[gj]
mutual
def shapeK:Tree→Bool
 |.node k s _ ks=>decide (0≤cH k ks.length)&&oM k s&&shapeKs k ks.length 0 ks
def shapeKs(k n:Int):Nat→List Tree→Bool
 |_,[]=>true
 |i,t::r=>gj k n i t.kind&&shapeK t&&shapeKs k n (i+1) r
end
theorem dR(t:Tree):shapeK t=(decide (0≤cH t.kind t.kids.length)&&oM t.kind t.text&&shapeKs t.kind t.kids.length 0 t.kids):=by cases t;simp only[shapeK];rfl
theorem Bs:∀t:Tree,tbulk t≤1000000000→iJ t (shapeK t):=cn λt ih hb=>by
 have hk:=dB t;have ht:=co t;have loop:∀m i,t.kids.length-i≤m→(0≤cH t.kind t.kids.length∧oM t.kind t.text=true)→ij (m+1) t i (shapeKs t.kind t.kids.length i (t.kids.drop i)):=λm=>by
  induction m with
  |zero=>
   intro i hi hw;refine mn 0 _ _ _ ⟨λh=>by omega,λh=>?_⟩;rw[List.drop_of_length_le (by omega),shapeKs]
  | succ m ihm=>
   intro i hi hw;refine mn (m+1) _ _ _ ⟨λh=>?_,λh=>?_⟩
   ·obtain⟨u,hu,_⟩|h':=aB t.kids i
    ·rw[cm hu,shapeKs];have hbu:=dO hu;refine⟨u,hu,_,Dg hu,λh1=>by simp[h1],λh1=>⟨_,ih i u hu (by omega),λh2=>by simp[h1,h2],λh2=>⟨by omega,?_⟩⟩⟩;simp only[h1,h2,Bool.true_and];exact ihm (i+1) (by omega) hw
    ·exact absurd h h'
   ·rw[List.drop_of_length_le (by omega),shapeKs]
 rw[dR];refine rK (t.kids.length+1) _ _ ⟨_,Db (by omega) (by omega),λh=>?_,λh=>⟨_,BK _ _ (by omega),λh1=>by simp[h1],λh1=>?_⟩⟩
 ·rw[decide_eq_false (by omega)];rfl
 ·rw[decide_eq_true (by omega),h1];exact loop _ 0 (by omega) ⟨by omega,h1⟩
theorem tB:∀t:Tree,tbulk t≤1000000000→df t (shapeK t):=cn λt ih hb=>by
 have hk:=dB t;have ht:=co t;have loop:∀m i,t.kids.length-i≤m→dW (m+1) t i (shapeKs t.kind t.kids.length i (t.kids.drop i)):=λm=>by
  induction m with
  |zero=>
   intro i hi;refine jH 0 _ _ _ ⟨λh=>by omega,λh=>?_⟩;rw[List.drop_of_length_le (by omega),shapeKs]
  | succ m ihm=>
   intro i hi;refine jH (m+1) _ _ _ ⟨λh=>?_,λh=>?_⟩
   ·obtain⟨u,hu,_⟩|h':=aB t.kids i
    ·rw[cm hu,shapeKs];have hbu:=dO hu;refine⟨u,hu,_,Gi _ _ _,λh1=>by simp[h1],λh1=>⟨u,hu,_,ih i u hu (by omega),λh2=>by simp[h1,h2],λh2=>?_⟩⟩;simp only[h1,h2,Bool.true_and];exact ihm (i+1) (by omega)
    ·exact absurd h h'
   ·rw[List.drop_of_length_le (by omega),shapeKs]
 rw[dR];refine ox (t.kids.length+1) _ _ ⟨_,oB (by omega) (by omega),λh=>?_,λh=>⟨_,AW _ _ (by omega),λh1=>by simp[h1],λh1=>?_⟩⟩
 ·rw[decide_eq_false (by omega)];rfl
 ·rw[decide_eq_true (by omega),h1];exact loop _ 0 (by omega)
mutual
def nodK:Tree→List Int→List (List Int×Tree)
 |.node k s ls ks,q=>(q,.node k s ls ks)::nodKs ks q 0
def nodKs:List Tree→List Int→Nat→List (List Int×Tree)
 |[],_,_=>[]
 |t::r,q,i=>nodK t (q++[(i:Int)])++nodKs r q (i+1)
end
theorem xk(t:Tree)(q:List Int):nodK t q=(q,t)::nodKs t.kids q 0:=by cases t;simp only[nodK];rfl
mutual
theorem nodK_len:∀(t:Tree) (q:List Int),(nodK t q).length≤tbulk t
 |.node k s ls ks,q=>by have :=nodKs_len ks q 0;simp only[nodK,tbulk,List.length_cons];omega
theorem nodKs_len:∀(l:List Tree) (q:List Int) (i:Nat),(nodKs l q i).length≤kbulk l
 |[],_,_=>by simp[nodKs,kbulk]
 |t::r,q,i=>by have :=nodK_len t (q++[(i:Int)]);have :=nodKs_len r q (i+1);simp only[nodKs,kbulk,List.length_append];omega
end
def atK:Tree→List Int→Option Tree
 |t,[]=>some t
 |t,i::r=>if i<0 then none else match t.kids[i.toNat]? with
  |none=>none
  |some u=>atK u r
theorem nZ:∀(t:Tree) (q r:List Int),atK t (q++r)=(atK t q).bind λu=>atK u r
 |t,[],r=>rfl
 | t,i::q,r=>by
  simp only[List.cons_append,atK];split
  ·rfl
  ·split
   ·rfl
   ·rename_i u hu;exact nZ u q r
theorem ea(h:t.kids[i]?=some u):atK t [(i:Int)]=some u:=by
 simp[atK,h,show¬((i:Int)<0) by omega]
mutual
theorem nodK_at(root:Tree):∀(t:Tree) (q:List Int),atK root q=some t→∀x∈nodK t q,atK root x.1=some x.2
 |.node k s ls ks,q,h,x,hx=>by
  simp only[nodK,List.mem_cons]at hx;rcases hx with rfl|hx
  ·exact h
  ·exact nodKs_at root (.node k s ls ks) q h ks 0 rfl x hx
theorem nodKs_at(root t:Tree)(q:List Int)(h:atK root q=some t):∀(l:List Tree) (i:Nat),t.kids.drop i=l→∀x∈nodKs l q i,atK root x.1=some x.2
 |[],_,_,x,hx=>by simp[nodKs]at hx
 | u::r,i,hd,x,hx=>by
  simp only[nodKs,List.mem_append]at hx;have hu:t.kids[i]?=some u:=by
   have :=congrArg (·[0]?) hd;simpa using this
  rcases hx with hx|hx
  ·exact nodK_at root u (q++[(i:Int)]) (by rw[nZ,h];exact ea hu) x hx
  ·exact nodKs_at root t q h r (i+1) (by rw[←List.tail_drop,hd];rfl) x hx
end
theorem xR(l:List Int)(q:l.length≤1000000000):iY l l:=st 0 _ _ λb E=>⟨λh=>(List.length_eq_zero_iff.1 (E h)).symm,λ_=>⟨q,rfl⟩⟩
theorem vR(l:List Int)(q:l.length≤1000000000):gW l l:=qF 0 _ _ λb E=>⟨λh=>(List.length_eq_zero_iff.1 (E h)).symm,λ_=>⟨q,rfl⟩⟩
theorem ms(l:List Int):bh l l true:=by
 have loop:∀m i,l.length-i≤m→cg (m+1) l l i true:=λm=>by
  induction m with
  |zero=>intro i hi;exact dh 0 _ _ _ _ ⟨λh=>by omega,λh=>rfl⟩
  |succ m q=>
   intro i hi;refine dh (m+1) _ _ _ _ ⟨λh=>?_,λh=>rfl⟩;obtain⟨u,E,_⟩|h':=aB l i
   ·exact⟨u,E,u,E,λh=>absurd rfl h,λ_=>q (i+1) (by omega)⟩
   ·exact absurd h h'
 exact fp (l.length+1) _ _ _ ⟨λh=>absurd rfl h,λ_=>loop l.length 0 (by omega)⟩
section
variable{S:Nat→Prop}{w:World}
theorem tG{ρ:Nat→Option Value}:∀{ls:List (List UInt8)} {xs:List Value},CRel S w ρ 1 (ls.map .str) xs→xs=ls.map aE
 |[],xs,h=>by simpa[CRel]using h
 |s::r,xs,h=>by
  simp only[List.map_cons,CRel,VRel]at h;obtain⟨x,ys,rfl,_,rfl,h2⟩:=h;rw[tG h2];simp[Value.cells,aE]
mutual
theorem LRel.tree:∀{ρ:Nat→Option Value} {t:Tree} {c:List Value},LRel S w ρ (ak t) c→TreeIs S w t c
 |ρ,.node k s ls ks,c,h=>by
  simp only[ak,Tree.kind,Tree.text,Tree.leads,Tree.kids,LRel,VRel]at h;obtain⟨_,_,rfl,rfl,_,_,rfl,rfl,_,_,rfl,⟨A,m,xs,rfl,h1,h2,h3,h4⟩,_,_,rfl,⟨B,n,cs,rfl,h5,h6,h7,h8⟩,rfl⟩:=h;have e:=tG h3;subst e;simp only[TreeIs];exact⟨A,m,B,n,by simp[gU],by simpa using h1,h2,by simpa[gU]using h5,h6,by simpa using h4,cs,CRel.kids h7,by simpa[gU]using h8⟩
theorem CRel.kids:∀{ρ:Nat→Option Value} {ts:List Tree} {cs:List Value},CRel S w ρ 4 (kidsV ts) cs→KidsAre S w ts cs
 |ρ,[],cs,h=>by simpa only[kidsV,CRel,KidsAre]using h
 |ρ,t::r,cs,h=>by
  simp only[kidsV,CRel,ig,VRel]at h;obtain⟨x,ys,rfl,⟨g1,g2⟩,⟨xs,rfl,h2⟩,h3⟩:=h;simp only[KidsAre];exact⟨xs,ys,by simp[Value.cells],LRel.tree h2,CRel.kids h3⟩
end
end
theorem Am(t:Tree)(ht:tbulk t≤1000000000):nT t t:=by
 refine⟨rfl,rfl,λS w ρ xs hr hx=>?_⟩;simp only[LRel]at hx;obtain⟨x,ys,rfl,hx,rfl⟩:=hx;simp only[VRel]at hx;obtain⟨ct,rfl,hx⟩:=hx;refine(qP t w S ct ht (LRel.tree hx)).mono ?_;rintro e w' ⟨c,rfl,E,G⟩;have g:=hr.chg0 E;refine⟨_,λb=>S b∨(w.heap.size≤b∧b<w'.heap.size),ρ,_,⟨0,[]⟩,rfl,rfl,⟨λi=>?_,λi b q=>?_,λi j b q _=>?_,g.slt.up (ρ:=ρ0) (ρ':=ρ0) ⟨λ_ h=>.inl h,λ_ _ _=>rfl,λ_ _ h=>h⟩ (λb q=>q.elim (g.slt b) (·.2))⟩,⟨ChgP.of0 E,λ_ h=>.inl h,λb q=>q.elim .inl (λh=>.inr (.inr h.1)),λid b q=>by rw[iZ]at q;exact q.elim,λid x h=>?_⟩,?_⟩
 ·have :=g.ob i;rw[iZ]at this⊢;exact this
 ·rw[iZ]at q;exact q.elim
 ·rw[iZ]at q;exact q.elim
 ·simp only[mH]at h;split at h
  ·exact h
  ·cases h
 ·simp only[VRel];exact⟨c,rfl,(G.keepB (S':=λb=>S b∨(w.heap.size≤b∧b<w'.heap.size)) (λb h1 h2=>.inr ⟨h1,h2⟩) (λ_ _ _=>rfl)).vrel⟩
theorem ya(t:Tree)(q:List Int)(hq:q.length≤1000000000):nO t q ((atK t q).getD (.node 0 [] [] [])) (atK t q).isSome:=by
 have loop:∀m i (u:Tree),q.length-i≤m→kX (m+1) q u i ((atK u (q.drop i)).getD (.node 0 [] [] [])) (atK u (q.drop i)).isSome:=λm=>by
  induction m with
  |zero=>
   intro i u hi;refine pi 0 _ _ _ _ _ ⟨λh=>by omega,λh=>?_⟩;rw[List.drop_of_length_le (by omega)];exact⟨rfl,rfl⟩
  | succ m ihm=>
   intro i u hi;refine pi (m+1) _ _ _ _ _ ⟨λh=>?_,λh=>?_⟩
   ·obtain⟨x,hx,_⟩|h':=aB q i
    ·rw[cm hx,atK];refine⟨x,hx,λh1=>by simp[h1],λh1=>⟨λh2=>?_,λh2=>?_⟩⟩
     ·have :u.kids[x.toNat]?=none:=List.getElem?_eq_none (by omega);simp[h1,this]
     ·obtain⟨y,hy,_⟩|h3:=aB u.kids x.toNat
      ·refine⟨x.toNat,by omega,y,hy,by omega,?_⟩;simp only[if_neg h1,hy];exact ihm (i+1) y (by omega)
      ·omega
    ·exact absurd h h'
   ·rw[List.drop_of_length_le (by omega)];exact⟨rfl,rfl⟩
 have :=loop q.length 0 t (by omega);exact wh _ _ _ _ _ (by simpa using this)
theorem xS:∀(q:List Int) (t u:Tree),atK t q=some u→tbulk u≤tbulk t
 |[],t,u,h=>by simp only[atK,Option.some.injEq]at h;subst h;exact Nat.le_refl _
 | x::q,t,u,h=>by
  simp only[atK]at h;split at h
  ·cases h
  ·split at h
   ·cases h
   ·rename_i y hy;have :=xS q y u h;have :=dO hy;omega
theorem FN(t:Tree)(q:List Int)(ht:tbulk t≤1000000000)(G:q.length≤1000000000):nc t q ((atK t q).getD (.node 0 [] [] [])) (atK t q).isSome:=by
 refine zq 0 _ _ _ _ ⟨_,_,ya t q G,λh=>?_,λh=>?_⟩
 ·cases E:atK t q with
  |none=>exact⟨rfl,rfl⟩
  |some u=>rw[E]at h;cases h
 ·cases E:atK t q with
  |none=>rw[E]at h;cases h
  |some u=>exact⟨u,Am u (Nat.le_trans (xS q t u E) ht),rfl,rfl⟩
def bH:List ab→List UInt8→List Int×Bool
 |[],_=>([],false)
 |b::r,w=>if b.name=w then(b.path,true)else bH r w
theorem vq{α:Type}{l:List α}{n:Nat}{x:α}(h:l[n]?=some x):(l.take (n+1)).reverse=x::(l.take n).reverse:=by
 rw[List.take_add_one,h];simp
theorem BP(stk:List ab)(w:List UInt8)(hs:stk.length≤1000000000)(hp:∀b∈stk,b.path.length≤1000000000):ir stk w (bH stk.reverse w).1 (bH stk.reverse w).2:=by
 have loop:∀n,n≤stk.length→eG (n+1) stk w ((n:Int)-1) (bH (stk.take n).reverse w).1 (bH (stk.take n).reverse w).2:=λn=>by
  induction n with
  |zero=>intro _;exact kf 0 _ _ _ _ _ ⟨λh=>by omega,λ_=>⟨rfl,rfl⟩⟩
  | succ n ih=>
   intro hn;obtain⟨x,hx,_⟩|h':=aB stk n
   ·rw[vq hx,bH];refine kf (n+1) _ _ _ _ _ ⟨λ_=>⟨n,by omega,x,hx,λh=>⟨n,by omega,x,hx,_,xR _ (hp x (List.mem_of_getElem? hx)),by rw[if_pos h],by rw[if_pos h]⟩,λh=>⟨by omega,?_⟩⟩,λh=>by omega⟩;rw[if_neg h,show((n+1:Nat):Int)-1-1=(n:Int)-1 by omega];exact ih (by omega)
   ·omega
 have :=loop stk.length (Nat.le_refl _);rw[List.take_length]at this;exact oD (stk.length+1) _ _ _ _ this
mutual
def nodE:Tree→List Int→List ab→List (List Int×Tree×List ab)
 |.node k s ls ks,q,E=>(q,.node k s ls ks,E)::nodEs k s ks q 0 E
def nodEs(k:Int)(s:List UInt8):List Tree→List Int→Nat→List ab→List (List Int×Tree×List ab)
 |[],_,_,_=>[]
 |t::r,q,i,E=>nodE t (q++[(i:Int)]) (if k=20∧i=1 then E++[⟨s,q⟩]else E)++nodEs k s r q (i+1) E
end
theorem qe(t:Tree)(q:List Int)(E:List ab):nodE t q E=(q,t,E)::nodEs t.kind t.text t.kids q 0 E:=by cases t;simp only[nodE];rfl
mutual
theorem nodE_nodK:∀(t:Tree) (q:List Int) (E:List ab),(nodE t q E).map (λx=>(x.1,x.2.1))=nodK t q
 |.node k s ls ks,q,E=>by simp only[nodE,nodK,List.map_cons,nodEs_nodKs ks]
theorem nodEs_nodKs{k:Int}{s:List UInt8}:∀(l:List Tree) (q:List Int) (i:Nat) (E:List ab),(nodEs k s l q i E).map (λx=>(x.1,x.2.1))=nodKs l q i
 |[],q,i,E=>by simp only[nodEs,nodKs,List.map_nil]
 |t::r,q,i,E=>by simp only[nodEs,nodKs,List.map_append,nodE_nodK t,nodEs_nodKs r]
end
theorem BS(t:Tree)(q:List Int)(E:List ab):(nodE t q E).length≤tbulk t:=by
 have :=nodK_len t q;rw[←nodE_nodK t q E,List.length_map]at this;exact this
def kM(q:List Int)(w:List UInt8)(E:List ab):ah:=⟨q,(bH E.reverse w).1,!(bH E.reverse w).2⟩
def bU:List (List Int×Tree×List ab)→List ah
 |[]=>[]
 |x::r=>(if x.2.1.kind=12 then[kM x.1 x.2.1.text x.2.2]else[])++bU r
theorem qd:∀a b,bU (a++b)=bU a++bU b
 |[],b=>rfl
 |x::r,b=>by simp only[List.cons_append,bU,qd r b,List.append_assoc]
theorem tH:∀a,(bU a).length≤a.length
 |[]=>Nat.le_refl _
 |x::r=>by have :=tH r;simp only[bU,List.length_append,List.length_cons];split<;>simp <;>omega
theorem BU:∀(t:Tree) (E:List ab) (q:List Int) (fd:List ah),q.length+tbulk t≤1000000000→fd.length+tbulk t≤1000000000→E.length+tbulk t≤1000000000→(∀b∈E,b.path.length≤1000000000)→dm E q fd t E q (fd++bU (nodE t q E)):=cn λt ih E q fd hq hf hE hp=>by
 have hk:=dB t;have ht:=co t;have hb:=bo t;have loop:∀k i fd,t.kids.length-i≤k→fd.length+kbulk (t.kids.drop i)≤1000000000→bF (3*k+1) t fd E q i E q (fd++bU (nodEs t.kind t.text (t.kids.drop i) q i E)):=λk=>by
  induction k with
  |zero=>
   intro i fd hi hf;refine iH 0 _ _ _ _ _ _ _ _ ⟨λh=>by omega,λh=>⟨rfl,rfl,?_⟩⟩;rw[List.drop_of_length_le (by omega)];simp[nodEs,bU]
  | succ k ihk=>
   intro i fd hi hf;rw[show 3*(k+1)+1=(3*k+1+1+1)+1 by omega];refine iH _ _ _ _ _ _ _ _ _ ⟨λh=>?_,λh=>⟨rfl,rfl,?_⟩⟩
   ·obtain⟨u,hu,_⟩|h':=aB t.kids i
    ·have hd:=cm hu;rw[hd,kbulk]at hf;have hbu:=dO hu;have key:∀b:Bool,((b=true)↔(t.kind=20∧i=1))→de (3*k+1+1+1) t fd u E q i b i E q (fd++bU (nodEs t.kind t.text (t.kids.drop i) q i E)):=λb hbb=>by
      have hl:=BS u (q++[(i:Int)]) (if t.kind=20∧i=1 then E++[⟨t.text,q⟩]else E);have hl2:=tH (nodE u (q++[(i:Int)]) (if t.kind=20∧i=1 then E++[⟨t.text,q⟩]else E));have hih:=ih i u hu (if t.kind=20∧i=1 then E++[⟨t.text,q⟩]else E) (q++[(i:Int)]) fd (by simp;omega) (by omega) (by
       split
       ·simp only[List.length_append,List.length_cons,List.length_nil];omega
       ·omega) (by
       split
       ·intro b hb;simp only[List.mem_append,List.mem_singleton]at hb;rcases hb with hb|rfl
        ·exact hp b hb
        ·simp only;omega
       ·exact hp)
      have hnx:=ihk (i+1) (fd++bU (nodE u (q++[(i:Int)]) (if t.kind=20∧i=1 then E++[⟨t.text,q⟩]else E))) (by omega) (by simp;omega);rw[hd,nodEs,qd,←List.append_assoc];cases b with
      |true=>
       have hc:=hbb.1 rfl;rw[if_pos hc]at hih hnx⊢;refine iC _ _ _ _ _ _ _ _ _ _ _ _ ⟨λ_=>⟨_,vR q (by omega),by simp;omega,?_⟩,λh=>by cases h⟩;refine iK _ _ _ _ _ _ _ _ _ _ _ _ ⟨by simp;omega,_,_,_,hih,q.length,by simp,by simp,λ_=>⟨E.length,by simp,by simp,by omega,?_⟩,λh=>by cases h⟩;simpa using hnx
      |false=>
       have hc:¬(t.kind=20∧i=1):=λh=>by have :=hbb.2 h;cases this
       rw[if_neg hc]at hih hnx⊢;refine iC _ _ _ _ _ _ _ _ _ _ _ _ ⟨λh=>(by cases h),λ_=>?_⟩;refine iK _ _ _ _ _ _ _ _ _ _ _ _ ⟨by simp;omega,_,_,_,hih,q.length,by simp,by simp,λh=>(by cases h),λ_=>⟨by omega,?_⟩⟩;simpa using hnx
     refine⟨u,hu,λh20=>key _ ?_,λh20=>key _ ?_⟩
     ·simp[h20];omega
     ·simp[h20]
    ·exact absurd h h'
   ·rw[List.drop_of_length_le (by omega)];simp[nodEs,bU]
 rw[qe,bU];refine mC (3*t.kids.length+1) _ _ _ _ _ _ _ ⟨λh=>?_,λh=>?_⟩
 ·simp only;rw[if_pos h];refine⟨_,_,BP E t.text (by omega) hp,_,vR q (by omega),by simp;omega,?_⟩;have :=loop t.kids.length 0 (fd++[kM q t.text E]) (by omega) (by simp;omega);rw[←List.append_assoc];exact this
 ·simp only;rw[if_neg h];have :=loop t.kids.length 0 fd (by omega) (by rw[List.drop_zero];omega);simpa using this
def zT0:Tree:=.node 0 [] [] []
def atD(t:Tree)(q:List Int):Tree:=(atK t q).getD zT0
def eX(t:Tree)(q:List Int):Nat→List (List Int)
 |0=>[]
 |n+1=>(if(atD t (q.take n)).kind=20∧q[n]?=some 1 then[q.take n]else[])++eX t q n
theorem vV(t:Tree)(q:List Int):∀n,(eX t q n).length≤n
 |0=>Nat.le_refl _
 |n+1=>by have :=vV t q n;simp only[eX,List.length_append];split<;>simp <;>omega
def mh(n:Nat):List (List Int):=(List.range n).map λ(i:Nat)=>[(i:Int)]
def arP(t:Tree)(q:List Int):List (List Int):=if(atK t q).isSome=false then[]else match q with
 |[]=>[]
 |i::_=>if i=(t.kids.length:Int)-1 then eX t q q.length++mh (t.kids.length-2)else[]
def bW(t:Tree)(x:List Int):ab:=⟨(atD t x).text,x⟩
def cv(t:Tree):Bool:=t.kind==2&&shapeK t
theorem uu(t:Tree)(ht:tbulk t≤1000000000):eW t (cv t):=qH 0 _ _ ⟨λh=>⟨_,Bs t ht,by simp[cv,h]⟩,λh=>by simp[cv,h]⟩
theorem fP(h:cv t=true):2≤t.kids.length:=by
 simp only[cv,Bool.and_eq_true,beq_iff_eq]at h;have h2:=h.2;rw[dR,h.1]at h2;simp only[Bool.and_eq_true,decide_eq_true_eq]at h2;have :=h2.1.1;simp only[cH,f0]at this
 repeat' split at this
 all_goals omega
theorem tU:∀{l:List Tree} {q:List Int} {i:Nat} {x:List Int×Tree},x∈nodKs l q i→∃j w,l[j]?=some w∧x∈nodK w (q++[((i+j:Nat):Int)])
 |[],q,i,x,h=>by simp[nodKs]at h
 | t::r,q,i,x,h=>by
  simp only[nodKs,List.mem_append]at h;rcases h with h|h
  ·exact⟨0,t,rfl,h⟩
  ·obtain⟨j,w,h1,h2⟩:=tU h;exact⟨j+1,w,by simpa using h1,by rw[show i+(j+1)=i+1+j by omega];exact h2⟩
theorem tJ{k:Int}{s:List UInt8}:∀{l:List Tree} {q:List Int} {i:Nat} {E:List ab} {x:List Int×Tree×List ab},x∈nodEs k s l q i E→∃j w,l[j]?=some w∧x∈nodE w (q++[((i+j:Nat):Int)]) (if k=20∧i+j=1 then E++[⟨s,q⟩]else E)
 |[],q,i,E,x,h=>by simp[nodEs]at h
 | t::r,q,i,E,x,h=>by
  simp only[nodEs,List.mem_append]at h;rcases h with h|h
  ·exact⟨0,t,rfl,h⟩
  ·obtain⟨j,w,h1,h2⟩:=tJ h;exact⟨j+1,w,by simpa using h1,by rw[show i+(j+1)=i+1+j by omega];exact h2⟩
theorem fZ{k n:Int}:∀{l:List Tree} {i j:Nat} {u:Tree},shapeKs k n i l=true→l[j]?=some u→gj k n ((i+j:Nat):Int) u.kind=true∧shapeK u=true
 |[],i,j,u,_,h=>by simp at h
 |t::r,i,0,u,h,q=>by
  simp only[shapeKs,Bool.and_eq_true]at h;simp only[List.getElem?_cons_zero,Option.some.injEq]at q;subst q;exact⟨by simpa using h.1.1,h.1.2⟩
 |t::r,i,j+1,u,h,q=>by
  simp only[shapeKs,Bool.and_eq_true]at h;have :=fZ (i:=i+1) (j:=j) h.2 (by simpa using q);exact⟨by rw[show i+(j+1)=i+1+j by omega];exact this.1,this.2⟩
theorem GL:∀(v:Tree) (q:List Int),shapeK v=true→(iX v.kind=true∨v.kind=4)→∀x∈nodK v q,x.2.kind≠12:=cn λv ih q E O x hx=>by
 rw[xk,List.mem_cons]at hx;rw[dR]at E;simp only[Bool.and_eq_true,decide_eq_true_eq]at E;have U:(5≤v.kind∧v.kind≤9)∨v.kind=4:=by
  rcases O with h|h
  ·exact .inl (by simpa[iX]using h)
  ·exact .inr h
 rcases hx with rfl|hx
 ·simp only;omega
 ·obtain⟨j,w,G,Z⟩:=tU hx;obtain⟨h1,h2⟩:=fZ E.2 G;have J:=(List.getElem?_eq_some_iff.1 G).1;refine ih j w G _ h2 (.inl ?_) x Z;have hl:=E.1.1;by_cases h4:v.kind=4
  ·rw[h4]at h1;simpa[gj]using h1
  ·by_cases h8:v.kind=8
   ·rw[h8]at h1;simpa[gj]using h1
   ·exfalso;have h5:v.kind=5∨v.kind=6∨v.kind=7∨v.kind=9:=by omega
    have :cH v.kind v.kids.length=f0 v.kids.length 0 1 0 0:=by
     rcases h5 with e|e|e|e<;>rw[e]<;>rfl
    have h6:f0 v.kids.length 0 1 0 0=-1:=by
     unfold f0;rw[if_pos ⟨by omega,by omega⟩]
    omega
theorem vL(t:Tree)(q s:List Int):∀n,n≤q.length→eX t (q++s) n=eX t q n
 |0,_=>rfl
 |n+1,h=>by
  simp only[eX,vL t q s n (by omega)];rw[List.take_append_of_le_length (by omega),List.getElem?_append_left (by omega)]
theorem vY{v:Tree}{q:List Int}{b:Int}{r:List Int}{j:Nat}(J:q=b::r)(E:b=(t.kids.length:Int)-1)(h1:atK t q=some v)(h2:(atK t (q++[(j:Int)])).isSome=true):arP t (q++[(j:Int)])=(if v.kind=20∧j=1 then[q]else[])++arP t q:=by
 subst J;have O:arP t (b::r)=eX t (b::r) (b::r).length++mh (t.kids.length-2):=by
  unfold arP;rw[h1];simp[E]
 have U:arP t (b::r++[(j:Int)])=eX t (b::r++[(j:Int)]) (b::r++[(j:Int)]).length++mh (t.kids.length-2):=by
  unfold arP;rw[if_neg (by rw[h2];simp)];simp only[List.cons_append];rw[if_pos E]
 rw[O,U,←List.append_assoc]
 congr 1
 rw[List.length_append,List.length_singleton,eX,vL t (b::r) _ _ (Nat.le_refl _)]
 congr 1
 have Z:(b::r++[(j:Int)]).take (b::r).length=b::r:=by rw[List.take_append_of_le_length (Nat.le_refl _),List.take_length]
 have e4:(b::r++[(j:Int)])[(b::r).length]?=some (j:Int):=by rw[List.getElem?_append_right (Nat.le_refl _)];simp
 rw[Z,e4];have e5:atD t (b::r)=v:=by unfold atD;rw[h1];rfl
 rw[e5];by_cases h:v.kind=20∧j=1
 ·rw[if_pos h,if_pos ⟨h.1,by rw[h.2];rfl⟩]
 ·rw[if_neg h,if_neg (λG=>h ⟨G.1,by have :=G.2;injection this with this;omega⟩)]
theorem zD{b:Int}(hb:b=(t.kids.length:Int)-1):∀(v:Tree) (q:List Int) (E:List ab),atK t q=some v→(∃r,q=b::r)→E.reverse=(arP t q).map (bW t)→∀x∈nodE v q E,x.2.2.reverse=(arP t x.1).map (bW t):=cn λv ih q E J hr O x hx=>by
 rw[qe,List.mem_cons]at hx;rcases hx with rfl|hx
 ·exact O
 ·obtain⟨j,w,U,Z⟩:=tJ hx;rw[Nat.zero_add]at Z;have G:atK t (q++[(j:Int)])=some w:=by rw[nZ,J];exact ea U
  obtain⟨r,hr⟩:=hr;refine ih j w U _ _ G ⟨r++[(j:Int)],by rw[hr];rfl⟩ ?_ x Z;rw[vY hr hb J (by rw[G];rfl),List.map_append,←O];by_cases h:v.kind=20∧j=1
  ·rw[if_pos h,if_pos h,List.reverse_append];have :bW t q=⟨v.text,q⟩:=by unfold bW atD;rw[J];rfl
   simp[this]
  ·rw[if_neg h,if_neg h];rfl
def jz(t:Tree):List (List Int×Tree)→List ah
 |[]=>[]
 |x::r=>(if x.2.kind=12 then[⟨x.1,(bH ((arP t x.1).map (bW t)) x.2.text).1,!(bH ((arP t x.1).map (bW t)) x.2.text).2⟩]else[])++jz t r
theorem wn(t:Tree):∀a b,jz t (a++b)=jz t a++jz t b
 |[],b=>rfl
 |x::r,b=>by simp only[List.cons_append,jz,wn t r b,List.append_assoc]
theorem wa(t:Tree):∀a,(jz t a).length≤a.length
 |[]=>Nat.le_refl _
 |x::r=>by have :=wa t r;simp only[jz,List.length_append,List.length_cons];split<;>simp <;>omega
theorem tw(t:Tree):∀a,(∀x∈a,x.2.kind≠12)→jz t a=[]
 |[],_=>rfl
 |x::r,h=>by rw[jz,if_neg (h x (by simp)),tw t r λy hy=>h y (by simp[hy])];rfl
theorem vf{t:Tree}:∀X:List (List Int×Tree×List ab),(∀x∈X,x.2.2.reverse=(arP t x.1).map (bW t))→bU X=jz t (X.map λx=>(x.1,x.2.1))
 |[],_=>rfl
 |x::r,h=>by
  rw[List.map_cons,jz,bU,vf r λy hy=>h y (by simp[hy])]
  congr 1
  rw[kM,h x (by simp)]
def eJ:Nat→List Tree→List ab
 |_,[]=>[]
 |i,t::r=>⟨t.text,[(i:Int)]⟩::eJ (i+1) r
theorem lV:∀(i:Nat) (l:List Tree) (t:Tree),eJ i (l++[t])=eJ i l++[⟨t.text,[((i+l.length:Nat):Int)]⟩]
 |i,[],t=>rfl
 |i,u::r,t=>by
  simp only[List.cons_append,eJ,lV (i+1) r t,List.length_cons];rw[show i+1+r.length=i+(r.length+1) by omega]
theorem rf:∀(i:Nat) (l:List Tree),(eJ i l).length=l.length
 |i,[]=>rfl
 |i,t::r=>by simp[eJ,rf (i+1) r]
theorem ua:∀(i:Nat) (l:List Tree),∀b∈eJ i l,b.path.length=1
 |i,[],b,h=>by simp[eJ]at h
 |i,t::r,b,h=>by
  simp only[eJ,List.mem_cons]at h;rcases h with rfl|h
  ·rfl
  ·exact ua (i+1) r b h
def cF(t:Tree):List ab:=(eJ 0 (t.kids.take (t.kids.length-2))).reverse
theorem vo(t:Tree)(h2:2≤t.kids.length)(ht:t.kids.length≤400000000):jd t (cF t):=by
 have loop:∀(n:Nat) (l:List ab),n≤t.kids.length→l.length+n≤1000000000→iF (n+1) t l ((n:Int)-1) (l++(eJ 0 (t.kids.take n)).reverse):=λn=>by
  induction n with
  |zero=>intro l _ _;exact mI 0 _ _ _ _ ⟨λh=>by omega,λ_=>by simp[eJ]⟩
  | succ n ih=>
   intro l hn hl;obtain⟨x,hx,_⟩|h':=aB t.kids n
   ·refine mI (n+1) _ _ _ _ ⟨λ_=>⟨n,by omega,x,hx,by simp;omega,by omega,?_⟩,λh=>by omega⟩;rw[show((n+1:Nat):Int)-1-1=(n:Int)-1 by omega];have :=ih (l++[⟨x.text,[((n+1:Nat):Int)-1]⟩]) (by omega) (by simp;omega);rw[List.take_add_one,hx,Option.toList_some,lV,List.length_take,List.reverse_append];rw[show min n t.kids.length=n by omega,Nat.zero_add];rw[show((n+1:Nat):Int)-1=(n:Int) by omega]at this⊢;simpa using this
   ·omega
 have :=loop (t.kids.length-2) [] (by omega) (by simp;omega);rw[show((t.kids.length-2:Nat):Int)-1=(t.kids.length:Int)-3 by omega]at this;exact sv _ _ _ (by simpa[cF]using this)
def bc(t:Tree):List ah:=if cv t=true then jz t (nodK t [])else[]
theorem nf(hf:cv t=true)(hu:t.kids[t.kids.length-1]?=some u):bU (nodE u [(t.kids.length:Int)-1] (cF t))=jz t (nodK t []):=by
 have h2:=fP hf;have hb:((t.kids.length-1:Nat):Int)=(t.kids.length:Int)-1:=by omega
 have hat:atK t [(t.kids.length:Int)-1]=some u:=by rw[←hb];exact ea hu
 have henv:=zD (t:=t) (b:=(t.kids.length:Int)-1) rfl u [(t.kids.length:Int)-1] (cF t) hat ⟨[],rfl⟩ (by
  rw[cF,List.reverse_reverse];have e:arP t [(t.kids.length:Int)-1]=eX t [(t.kids.length:Int)-1] 1++mh (t.kids.length-2):=by
   unfold arP;rw[hat];simp
  simp only[cv,Bool.and_eq_true,beq_iff_eq]at hf;have e2:eX t [(t.kids.length:Int)-1] 1=[]:=by
   simp only[eX,List.append_nil];rw[if_neg];intro h;have :=h.1;simp only[List.take_zero,atD,atK,Option.getD_some]at this;omega
  rw[e,e2,List.nil_append,mh,List.map_map];have key:∀n,n≤t.kids.length→eJ 0 (t.kids.take n)=(List.range n).map (bW t∘λ(i:Nat)=>[(i:Int)]):=λn=>by
   induction n with
   |zero=>intro _;simp[eJ]
   | succ n ih=>
    intro hn;obtain⟨x,hx,_⟩|h':=aB t.kids n
    ·rw[List.take_add_one,hx,Option.toList_some,lV,ih (by omega),List.range_succ,List.map_append,List.length_take];rw[show min n t.kids.length=n by omega,Nat.zero_add]
     congr 1
     simp only[List.map_cons,List.map_nil,Function.comp];have :atK t [(n:Int)]=some x:=ea hx;simp[bW,atD,this]
    ·omega
  exact key _ (by omega))
 rw[vf _ henv,nodE_nodK,xk t []];simp only[cv,Bool.and_eq_true,beq_iff_eq]at hf;rw[jz,if_neg (by simp only;omega),List.nil_append];have hs:=hf.2;rw[dR,hf.1]at hs;simp only[Bool.and_eq_true]at hs;have key:∀k i,t.kids.length-1-i=k→i≤t.kids.length-1→jz t (nodKs (t.kids.drop i) [] i)=jz t (nodK u [(t.kids.length:Int)-1]):=λk=>by
  induction k with
  |zero=>
   intro i hk hi;have e:i=t.kids.length-1:=by omega
   subst e;rw[cm hu,nodKs,List.drop_of_length_le (by omega),nodKs,List.append_nil,hb];rfl
  | succ k ih=>
   intro i hk hi;obtain⟨x,hx,_⟩|h':=aB t.kids i
   ·rw[cm hx,nodKs,wn,ih (i+1) (by omega) (by omega)];obtain⟨g1,g2⟩:=fZ hs.2 hx;rw[Nat.zero_add]at g1;rw[tw t _ (GL x _ g2 ?_)]
    ·rfl
    ·simp only[gj]at g1;rw[if_neg (by omega),if_pos trivial,if_neg (by omega)]at g1;split at g1
     ·exact .inl g1
     ·exact .inr (by simpa using g1)
   ·omega
 exact(key _ 0 rfl (by omega)).symm
theorem mF(t:Tree)(ht:tbulk t≤100000000):eu t (bc t):=by
 have J:=dB t;refine pU 0 _ _ ⟨_,uu t (by omega),λh=>by simp[bc,h],λh=>?_⟩;have h2:=fP h;obtain⟨u,q,_⟩|h':=aB t.kids (t.kids.length-1)
 ·have E:=dO q;have O:(cF t).length≤t.kids.length:=by
   rw[cF,List.length_reverse,rf,List.length_take];omega
  have hv:=BU u (cF t) [(t.kids.length:Int)-1] [] (by simp;omega) (by simp;omega) (by omega) (λb G=>by
   have :=ua 0 _ b (List.mem_reverse.1 G);omega)
  rw[List.nil_append,nf h q]at hv;exact⟨_,vo t h2 (by omega),t.kids.length-1,by omega,u,q,_,_,_,hv,by simp[bc,h]⟩
 ·omega
def fK:Tree→List Int→Tree→Tree
 |_,[],u=>u
 |t,x::q,u=>match t.kids[x.toNat]? with
  |some y=>.node t.kind t.text t.leads (t.kids.set x.toNat (fK y q u))
  |none=>t
def nM(t:Tree)(s:List UInt8):Tree:=.node t.kind s t.leads t.kids
def hd(t:Tree):Int×List UInt8×Nat×List (List UInt8):=(t.kind,t.text,t.kids.length,t.leads)
def hdK(t:Tree)(x:List Int):Option (Int×List UInt8×Nat×List (List UInt8)):=(atK t x).map hd
theorem yb(t:Tree):hdK t []=some (hd t):=rfl
theorem lA(t:Tree)(i:Int)(r:List Int):hdK t (i::r)=if i<0 then none else(t.kids[i.toNat]?).bind λu=>hdK u r:=by
 simp only[hdK,atK];split
 ·rfl
 ·cases t.kids[i.toNat]?<;>rfl
theorem wd(s:List UInt8):∀(q:List Int) (g u:Tree),atK g q=some u→∀x,hdK (fK g q (nM u s)) x=if x=q then some (u.kind,s,u.kids.length,u.leads)else hdK g x
 |[],g,u,h,x=>by
  simp only[atK,Option.some.injEq]at h;subst h;cases x with
  |nil=>rfl
  |cons i r=>rw[if_neg (by simp),fK,lA,lA];rfl
 | i ::q,g,u,h,x=>by
  simp only[atK]at h;split at h
  ·cases h
  rename_i hi;split at h
  ·cases h
  rename_i y hy;have hl:i.toNat<g.kids.length:=(List.getElem?_eq_some_iff.1 hy).1;have e:fK g (i::q) (nM u s)=.node g.kind g.text g.leads (g.kids.set i.toNat (fK y q (nM u s))):=by simp only[fK,hy]
  rw[e];cases x with
  |nil=>rw[if_neg (by simp),yb,yb];simp[hd,Tree.kind,Tree.text,Tree.kids,Tree.leads]
  | cons j r=>
   have ek:(Tree.node g.kind g.text g.leads (g.kids.set i.toNat (fK y q (nM u s)))).kids=g.kids.set i.toNat (fK y q (nM u s)):=rfl;rw[lA,lA,ek];simp only[List.cons.injEq];by_cases hj:j<0
   ·rw[if_pos hj,if_pos hj,if_neg (by omega)]
   ·rw[if_neg hj,if_neg hj];by_cases hij:j=i
    ·subst hij;rw[List.getElem?_set_self hl,hy];simp only[Option.bind_some,true_and];exact wd s q y u h r
    ·rw[List.getElem?_set_ne (by omega),if_neg (by simp[hij])]
theorem vm{x:List Int}(h:atK t x=some u):hdK t x=some (hd u):=by simp[hdK,h]
def Rel(S:List Int→Bool)(f g:Tree):Prop:=∀x,hdK g x=(hdK f x).map λh=>(h.1,if S x=true then[113]else h.2.1,h.2.2)
theorem Rel.start(f:Tree):Rel (λ_=>false) f f:=λx=>by simp
variable{S:List Int→Bool}{f g:Tree}
theorem Rel.some_{x:List Int}(h:Rel S f g)(E:atK f x=some u):∃q,atK g x=some q∧q.kind=u.kind∧q.text=(if S x=true then[113]else u.text)∧q.kids.length=u.kids.length∧q.leads=u.leads:=by
 have :=h x;rw[vm E,Option.map_some,hdK,Option.map_eq_some_iff]at this;obtain⟨q,h1,h2⟩:=this;simp only[hd,Prod.mk.injEq]at h2;exact⟨q,h1,h2.1,h2.2.1,h2.2.2.1,h2.2.2.2⟩
theorem Rel.set{q:List Int}(h:Rel S f g)(G:atK g q=some u):Rel (λx=>S x||x==q) f (fK g q (nM u [113])):=λx=>by
 rw[wd _ q g u G];by_cases hx:x=q
 ·subst hx;rw[if_pos rfl];have h1:=h x;rw[vm G]at h1;obtain⟨a,J,E⟩:=Option.map_eq_some_iff.1 h1.symm;rw[J];simp only[hd,Prod.mk.injEq]at E;simp[←E.1,E.2.2]
 ·rw[if_neg hx,h x];have :(x==q)=false:=by simpa using hx
  simp only[this,Bool.or_false]
theorem Rel.root(h:Rel S f g):g.kind=f.kind∧g.text=(if S []=true then[113]else f.text)∧g.kids.length=f.kids.length∧g.leads=f.leads:=by
 obtain⟨q,h1,h2⟩:=h.some_ (x:=[]) (u:=f) rfl;simp only[atK,Option.some.injEq]at h1;subst h1;exact h2
theorem Rel.kid(h:Rel S f g)(q:f.kids[i]?=some u):∃E,g.kids[i]?=some E∧Rel (λx=>S ((i:Int)::x)) u E:=by
 have G:=h.root.2.2.1;have hi:i<g.kids.length:=by rw[G];exact(List.getElem?_eq_some_iff.1 q).1
 refine⟨g.kids[i],List.getElem?_eq_getElem hi,λx=>?_⟩;have :=h ((i:Int)::x);rw[lA,lA,if_neg (by omega),if_neg (by omega),Int.toNat_natCast,q,List.getElem?_eq_getElem hi]at this;simpa using this
theorem Rel.congr{S':List Int→Bool}(h:Rel S f g)(e:∀x,S x=S' x):Rel S' f g:=λx=>by rw[h x,e x]
theorem tq:∀{l l':List Tree},l'.length=l.length→(∀(j:Nat) (u q:Tree),l[j]?=some u→l'[j]?=some q→tbulk q≤2*tbulk u)→kbulk l'≤2*kbulk l
 |[],[],h,k=>Nat.le_refl _
 |[],_::_,h,k=>by simp at h
 |_::_,[],h,k=>by simp at h
 |t::r,E::G,h,k=>by
  have h1:=k 0 t E rfl rfl;have h2:=tq (l:=r) (l':=G) (by simpa using h) λj u q a b=>k (j+1) u q (by simpa using a) (by simpa using b);simp only[kbulk];omega
theorem ux:∀(f g:Tree) (S:List Int→Bool),Rel S f g→tbulk g≤2*tbulk f:=cn λf ih g S h=>by
 obtain⟨h1,h2,O,U⟩:=h.root;have hk:kbulk g.kids≤2*kbulk f.kids:=tq O λj u Z E q=>by
  obtain⟨G,J,hr⟩:=h.kid E;have :G=Z:=by rw[q]at J;exact(Option.some.inj J).symm
  subst this;exact ih j u E G _ hr
 have ht:g.text.length≤f.text.length+1:=by rw[h2];split<;>simp
 rw[bo g,bo f,U];omega
theorem sw{k n:Int}:∀{l:List Tree} {i:Nat},(∀j u,l[j]?=some u→gj k n ((i+j:Nat):Int) u.kind=true∧shapeK u=true)→shapeKs k n i l=true
 |[],i,h=>rfl
 |t::r,i,h=>by
  have q:=h 0 t rfl;rw[Nat.add_zero]at q;rw[shapeKs,q.1,q.2,sw (l:=r) (i:=i+1) λj u E=>by have :=h (j+1) u (by simpa using E);rwa [show i+1+j=i+(j+1) by omega]];rfl
theorem AI:∀(f g:Tree) (S:List Int→Bool),Rel S f g→(∀x u,atK f x=some u→S x=true→u.kind=4∨u.kind=12∨u.kind=20)→shapeK f=true→shapeK g=true:=cn λf ih g S h U G=>by
 obtain⟨h1,h2,Z,h4⟩:=h.root;rw[dR]at G⊢;simp only[Bool.and_eq_true]at G⊢;obtain⟨⟨g1,g2⟩,g3⟩:=G;refine⟨⟨by rw[h1,Z];exact g1,?_⟩,sw λj u' q=>?_⟩
 ·rw[h1,h2];by_cases J:S []=true
  ·rw[if_pos J];rcases U [] f rfl J with O|O|O<;>rw[O]<;>decide+kernel
  ·rw[if_neg J];exact g2
 ·obtain⟨u,E,_⟩|h':=aB f.kids j
  ·obtain⟨u2,e2,hr⟩:=h.kid E;have :u2=u':=by rw[q]at e2;exact(Option.some.inj e2).symm
   subst this;obtain⟨s1,s2⟩:=fZ g3 E;refine⟨?_,ih j u E u2 _ hr (λx w hw hx=>U ((j:Int)::x) w ?_ hx) s2⟩
   ·rw[h1,Z,hr.root.1];exact s1
   ·rw[atK,if_neg (by omega),Int.toNat_natCast,E];exact hw
  ·have :=(List.getElem?_eq_some_iff.1 q).1;omega
def kc(B:List Int)(b:ab):ab:=⟨if b.path=B then[113]else b.name,b.path⟩
theorem AE(B:List Int):∀(l:List ab) (s:List UInt8),(∀b∈l,b.name≠[113])→bH l s=(B,true)→bH (l.map (kc B)) [113]=(B,true)
 |[],s,h,e=>by simp[bH]at e
 | b::r,s,h,e=>by
  simp only[List.map_cons,bH,kc];by_cases hp:b.path=B
  ·simp[hp]
  ·rw[if_neg hp,if_neg (h b (by simp))];simp only[bH]at e;split at e
   ·simp only[Prod.mk.injEq,and_true]at e;exact absurd e hp
   ·exact AE B r s (λc hc=>h c (by simp[hc])) e
theorem Ag(B:List Int):∀(l:List ab) (s:List UInt8),s≠[113]→bH l s≠(B,true)→bH (l.map (kc B)) s=bH l s
 |[],s,hs,e=>rfl
 | b::r,s,hs,e=>by
  simp only[List.map_cons,bH,kc]at e⊢;by_cases hn:b.name=s
  ·rw[if_pos hn]at e;have hp:b.path≠B:=λh=>e (by rw[h]);rw[if_neg hp,if_pos hn,if_pos hn]
  ·rw[if_neg hn]at e⊢;have :(if b.path=B then[113]else b.name)≠s:=by
    split
    ·exact λh=>hs h.symm
    ·exact hn
   rw[if_neg this];exact Ag B r s hs e
def Nd(S:List Int→Bool)(B:List Int)(x:List Int×Tree×List ab):Prop:=x.2.1.text≠[113]∧(x.2.1.kind=12→(S x.1=true↔bH x.2.2.reverse x.2.1.text=(B,true)))∧(x.2.1.kind=20→(S x.1=true↔x.1=B))
theorem Cf(S:List Int→Bool)(B:List Int):∀(t t':Tree) (p:List Int) (E:List ab),Rel (λx=>S (p++x)) t t'→(∀b∈E,b.name≠[113])→(∀x∈nodE t p E,Nd S B x)→bU (nodE t' p (E.map (kc B)))=bU (nodE t p E):=cn λt ih t' p E h hE hN=>by
 obtain⟨h1,h2,h3,h4⟩:=h.root;rw[List.append_nil]at h2;rw[qe]at hN⊢;rw[qe t];obtain⟨n1,n2,n3⟩:=hN _ (List.mem_cons_self ..);have kids:∀(m i:Nat),t.kids.length-i≤m→bU (nodEs t'.kind t'.text (t'.kids.drop i) p i (E.map (kc B)))=bU (nodEs t.kind t.text (t.kids.drop i) p i E):=λm=>by
  induction m with
  |zero=>intro i hi;rw[List.drop_of_length_le (by omega),List.drop_of_length_le (by omega)];simp only[nodEs]
  | succ m ihm=>
   intro i hi;obtain⟨u,hu,hul⟩|h':=aB t.kids i
   ·obtain⟨u',hu',hr⟩:=h.kid hu;rw[cm hu,cm hu'];simp only[nodEs,qd];rw[ihm (i+1) (by omega)]
    congr 1
    have hm:∀x∈nodE u (p++[(i:Int)]) (if t.kind=20∧i=1 then E++[⟨t.text,p⟩]else E),Nd S B x:=λx hx=>hN x (List.mem_cons_of_mem _ (by
     have :∀(l:List Tree) (j k:Nat),l[k]?=some u→x∈nodE u (p++[((j+k:Nat):Int)]) (if t.kind=20∧j+k=1 then E++[⟨t.text,p⟩]else E)→x∈nodEs t.kind t.text l p j E:=λl=>by
      induction l with
      |nil=>intro j k h;simp at h
      |cons y r ihl=>
       intro j k h hx;simp only[nodEs,List.mem_append];cases k with
       |zero=>simp only[List.getElem?_cons_zero,Option.some.injEq]at h;subst h;exact .inl hx
       |succ k=>exact .inr (ihl (j+1) k (by simpa using h) (by rw[show j+1+k=j+(k+1) by omega];exact hx))
     exact this t.kids 0 i hu (by simpa using hx)))
    have he:(if t'.kind=20∧i=1 then E.map (kc B)++[⟨t'.text,p⟩]else E.map (kc B))=(if t.kind=20∧i=1 then E++[⟨t.text,p⟩]else E).map (kc B):=by
     rw[h1];by_cases hk:t.kind=20∧i=1
     ·rw[if_pos hk,if_pos hk,List.map_append,h2];simp only[List.map_cons,List.map_nil,kc];have :=n3 hk.1;by_cases hp:p=B
      ·rw[if_pos hp,if_pos (this.2 hp)]
      ·rw[if_neg hp,if_neg λe=>hp (this.1 e)]
     ·rw[if_neg hk,if_neg hk]
    rw[he];refine ih i u hu u' _ _ (hr.congr λx=>by simp) (λb hb=>?_) hm;split at hb
    ·rcases List.mem_append.1 hb with hb|hb
     ·exact hE b hb
     ·rw[List.mem_singleton]at hb;subst hb;exact n1
    ·exact hE b hb
   ·rw[List.drop_of_length_le (by omega),List.drop_of_length_le (by omega)];simp only[nodEs]
 have hk:=kids t.kids.length 0 (by omega);simp only[List.drop_zero]at hk;have e:(if t'.kind=12 then[kM p t'.text (E.map (kc B))]else[])=(if t.kind=12 then[kM p t.text E]else[]):=by
  rw[h1];by_cases h12:t.kind=12
  ·rw[if_pos h12,if_pos h12];have n2':=n2 h12;have e:bH (E.map (kc B)).reverse t'.text=bH E.reverse t.text:=by
    rw[←List.map_reverse,h2];by_cases hs:S p=true
    ·rw[if_pos hs];have :=n2'.1 hs;rw[this];exact AE B _ t.text (λb hb=>hE b (by simpa using hb)) this
    ·rw[if_neg hs];exact Ag B _ _ n1 λe=>hs (n2'.2 e)
   simp only[kM,e]
  ·rw[if_neg h12,if_neg h12]
 simp only[bU];rw[hk,e]
theorem xo(S:List Int→Bool)(B:List Int):∀(l l':List Tree) (i:Nat),l'.length=l.length→(∀j u q,l[j]?=some u→l'[j]?=some q→q.text=if[((i+j:Nat):Int)]=B then[113]else u.text)→eJ i l'=(eJ i l).map (kc B)
 |[],[],i,h,k=>rfl
 |[],_::_,i,h,k=>by simp at h
 |_::_,[],i,h,k=>by simp at h
 |t::r,E::G,i,h,k=>by
  have :=k 0 t E rfl rfl;simp only[eJ,List.map_cons,kc];rw[xo S B r G (i+1) (by simpa using h) λj u q h1 h2=>by have :=k (j+1) u q (by simpa using h1) (by simpa using h2);rwa [show i+1+j=i+(j+1) by omega]];rw[this];rfl
theorem no{v:ah}:∀{X:List (List Int×Tree×List ab)},v∈bU X↔∃x∈X,x.2.1.kind=12∧v=kM x.1 x.2.1.text x.2.2
 |[]=>by simp[bU]
 |x::r=>by
  simp only[bU,List.mem_append,no (X:=r),List.mem_cons,exists_eq_or_imp];by_cases h:x.2.1.kind=12
  ·rw[if_pos h,List.mem_singleton];simp[h]
  ·rw[if_neg h];simp[h]
theorem rm:∀{l:List ab} {s:List UInt8} {B:List Int},bH l s=(B,true)→∃b∈l,b.path=B
 |[],s,B,h=>by simp[bH]at h
 |b::r,s,B,h=>by
  simp only[bH]at h;split at h
  ·simp only[Prod.mk.injEq,and_true]at h;exact⟨b,by simp,h⟩
  ·obtain⟨c,q,e⟩:=rm h;exact⟨c,by simp[q],e⟩
theorem uC{t:Tree}{q x:List Int}:∀{n:Nat},x∈eX t q n→(atD t x).kind=20
 |0,h=>by simp[eX]at h
 | n+1,h=>by
  simp only[eX,List.mem_append]at h;rcases h with h|h
  ·split at h
   ·rename_i hc;rw[List.mem_singleton]at h;subst h;exact hc.1
   ·cases h
  ·exact uC h
theorem vT{b:ab}:∀{l:List Tree} {i:Nat},b∈eJ i l→∃j t,l[j]?=some t∧b=⟨t.text,[((i+j:Nat):Int)]⟩
 |[],i,h=>by simp[eJ]at h
 | t::r,i,h=>by
  simp only[eJ,List.mem_cons]at h;rcases h with h|h
  ·exact⟨0,t,rfl,by simpa using h⟩
  ·obtain⟨j,u,h1,h2⟩:=vT h;exact⟨j+1,u,by simpa using h1,by rw[h2,show i+1+j=i+(j+1) by omega]⟩
theorem uE{q x:List Int}(hf:cv t=true)(h:x∈arP t q):∃w,atK t x=some w∧(w.kind=4∨w.kind=20):=by
 unfold arP at h;split at h
 ·cases h
 split at h
 ·cases h
 split at h
 ·rcases List.mem_append.1 h with h|h
  ·have :=uC h;unfold atD at this;cases J:atK t x with
   |none=>rw[J]at this;exact absurd this (by decide)
   |some w=>rw[J]at this;exact⟨w,rfl,.inr this⟩
  ·simp only[mh,List.mem_map,List.mem_range]at h;obtain⟨j,U,rfl⟩:=h;have h2:=fP hf;obtain⟨w,O,_⟩|h':=aB t.kids j
   ·refine⟨w,ea O,.inl ?_⟩;simp only[cv,Bool.and_eq_true,beq_iff_eq]at hf;have G:=hf.2;rw[dR,hf.1]at G;simp only[Bool.and_eq_true]at G;have E:=(fZ G.2 O).1;rw[Nat.zero_add]at E;simp only[gj]at E;rw[if_neg (by omega),if_pos trivial,if_neg (by omega),if_neg (by omega)]at E;simpa using E
   ·omega
 ·cases h
theorem uy(hf:cv t=true)(hu:t.kids[t.kids.length-1]?=some u):∀x∈nodE u [(t.kids.length:Int)-1] (cF t),x.2.2.reverse=(arP t x.1).map (bW t):=by
 have h2:=fP hf;have hb:((t.kids.length-1:Nat):Int)=(t.kids.length:Int)-1:=by omega
 have hat:atK t [(t.kids.length:Int)-1]=some u:=by rw[←hb];exact ea hu
 refine zD (t:=t) (b:=(t.kids.length:Int)-1) rfl u [(t.kids.length:Int)-1] (cF t) hat ⟨[],rfl⟩ ?_;rw[cF,List.reverse_reverse];have e:arP t [(t.kids.length:Int)-1]=eX t [(t.kids.length:Int)-1] 1++mh (t.kids.length-2):=by
  unfold arP;rw[hat];simp
 simp only[cv,Bool.and_eq_true,beq_iff_eq]at hf;have e2:eX t [(t.kids.length:Int)-1] 1=[]:=by
  simp only[eX,List.append_nil];rw[if_neg];intro h;have :=h.1;simp only[List.take_zero,atD,atK,Option.getD_some]at this;omega
 rw[e,e2,List.nil_append,mh,List.map_map];have key:∀n,n≤t.kids.length→eJ 0 (t.kids.take n)=(List.range n).map (bW t∘λ(i:Nat)=>[(i:Int)]):=λn=>by
  induction n with
  |zero=>intro _;simp[eJ]
  | succ n ih=>
   intro hn;obtain⟨x,hx,_⟩|h':=aB t.kids n
   ·rw[List.take_add_one,hx,Option.toList_some,lV,ih (by omega),List.range_succ,List.map_append,List.length_take];rw[show min n t.kids.length=n by omega,Nat.zero_add]
    congr 1
    simp only[List.map_cons,List.map_nil,Function.comp];have :atK t [(n:Int)]=some x:=ea hx;simp[bW,atD,this]
   ·omega
 exact key _ (by omega)
mutual
theorem nodE_pre:∀(t:Tree) (q:List Int) (E:List ab),∀x∈nodE t q E,∃r,x.1=q++r
 |.node k s ls ks,q,E,x,h=>by
  simp only[nodE,List.mem_cons]at h;rcases h with h|h
  ·subst h;exact⟨[],by simp⟩
  ·exact nodEs_pre ks q 0 E x h
theorem nodEs_pre{k:Int}{s:List UInt8}:∀(l:List Tree) (q:List Int) (i:Nat) (E:List ab),∀x∈nodEs k s l q i E,∃r,x.1=q++r
 |[],q,i,E,x,h=>by simp[nodEs]at h
 |t::l,q,i,E,x,h=>by
  simp only[nodEs,List.mem_append]at h;rcases h with h|h
  ·obtain⟨r,e⟩:=nodE_pre t _ _ x h;exact⟨[(i:Int)]++r,by rw[e];simp⟩
  ·exact nodEs_pre l q (i+1) E x h
end
theorem Au{b:Int}{E:List ab}(x:List Int×Tree×List ab)(h:x∈nodE t [b] E):x.1.head?=some b:=by
 obtain⟨r,e⟩:=nodE_pre t [b] E x h;rw[e];rfl
def Sf(v:List ah)(B:List Int)(x:List Int):Bool:=x==B||v.any λv=>!v.Free&&v.Binder==B&&v.Path==x
theorem BC{b:ah}(hf:cv f=true)(hq:∀x u,atK f x=some u→u.text≠[113])(hb:b∈bc f)(hfr:b.Free=false)(hr:Rel (Sf (bc f) b.Binder) f g):bc g=bc f:=by
 obtain⟨B,hB⟩:∃B,B=b.Binder:=⟨_,rfl⟩;rw[←hB]at hr;have h2:=fP hf;obtain⟨u,hu,_⟩|h':=aB f.kids (f.kids.length-1)
 rotate_left
 ·omega
 have hn:((f.kids.length-1:Nat):Int)=(f.kids.length:Int)-1:=by omega
 have hat:atK f [(f.kids.length:Int)-1]=some u:=by rw[←hn];exact ea hu
 have hv:bc f=bU (nodE u [(f.kids.length:Int)-1] (cF f)):=by rw[bc,if_pos hf,nf hf hu]
 have hnode:∀x∈nodE u [(f.kids.length:Int)-1] (cF f),atK f x.1=some x.2.1:=λx hx=>by
  refine nodK_at f u _ hat (x.1,x.2.1) ?_;rw[←nodE_nodK u _ (cF f)];exact List.mem_map.2 ⟨x,hx,rfl⟩
 have U:∀x∈nodE u [(f.kids.length:Int)-1] (cF f),x.2.2.reverse=(arP f x.1).map (bW f):=uy hf hu;have q:∀v∈bc f,∃x∈nodE u [(f.kids.length:Int)-1] (cF f),x.2.1.kind=12∧v=kM x.1 x.2.1.text x.2.2:=λv h=>by rw[hv]at h;exact no.1 h
 have hbk:∃w,atK f B=some w∧(w.kind=4∨w.kind=20):=by
  obtain⟨x,hx,h12,e⟩:=q b hb;have h1:bH x.2.2.reverse x.2.1.text=(B,true):=by
   have Z:B=(bH x.2.2.reverse x.2.1.text).1:=by rw[hB,e];rfl
   have e2:(bH x.2.2.reverse x.2.1.text).2=true:=by rw[e]at hfr;simpa[kM]using hfr
   rw[Z,←e2]
  obtain⟨c,hc,hp⟩:=rm h1;rw[U x hx]at hc;obtain⟨y,hy,rfl⟩:=List.mem_map.1 hc;exact uE hf (by rw[←hp];exact hy)
 obtain⟨wB,hwB,hkB⟩:=hbk;have hS:∀x∈nodE u [(f.kids.length:Int)-1] (cF f),Nd (Sf (bc f) B) B x:=λx hx=>by
  have ha:=hnode x hx;refine⟨hq x.1 _ ha,λh12=>?_,λh20=>?_⟩
  ·have hxB:x.1≠B:=λe=>by
    rw[e,hwB]at ha;have :=Option.some.inj ha;rw[this]at hkB;omega
   simp only[Sf,Bool.or_eq_true,beq_iff_eq,List.any_eq_true,Bool.and_eq_true,Bool.not_eq_true'];constructor
   ·rintro(h|⟨v,G,⟨h3,h4⟩,h5⟩)
    ·exact absurd h hxB
    ·obtain⟨y,hy,E,e⟩:=q v G;have Z:y.1=x.1:=by rw[←h5,e];rfl
     have e2:y.2.1=x.2.1:=by have :=hnode y hy;rw[Z,ha]at this;exact(Option.some.inj this).symm
     have e3:y.2.2.reverse=x.2.2.reverse:=by rw[U y hy,U x hx,Z]
     have h6:(bH y.2.2.reverse y.2.1.text).1=B:=by rw[←h4,e];rfl
     have h7:(bH y.2.2.reverse y.2.1.text).2=true:=by rw[e]at h3;simpa[kM]using h3
     rw[←e3,←e2,←h6,←h7]
   ·intro h;refine .inr ⟨kM x.1 x.2.1.text x.2.2,by rw[hv];exact no.2 ⟨x,hx,h12,rfl⟩,⟨?_,?_⟩,rfl⟩
    ·simp[kM,h]
    ·simp[kM,h]
  ·simp only[Sf,Bool.or_eq_true,beq_iff_eq,List.any_eq_true,Bool.and_eq_true,Bool.not_eq_true'];refine⟨λh=>?_,.inl⟩;rcases h with h|⟨v,G,⟨h3,h4⟩,h5⟩
   ·exact h
   ·obtain⟨y,hy,E,e⟩:=q v G;have Z:y.1=x.1:=by rw[←h5,e];rfl
    have :=hnode y hy;rw[Z,ha]at this;rw[←Option.some.inj this]at E;omega
 have hSk:∀x w,atK f x=some w→Sf (bc f) B x=true→w.kind=4∨w.kind=12∨w.kind=20:=λx w O h=>by
  simp only[Sf,Bool.or_eq_true,beq_iff_eq,List.any_eq_true,Bool.and_eq_true,Bool.not_eq_true']at h;rcases h with h|⟨v,G,_,h5⟩
  ·rw[h,hwB]at O;have :=Option.some.inj O;rw[←this];omega
  ·obtain⟨y,hy,E,e⟩:=q v G;have Z:y.1=x:=by rw[←h5,e];rfl
   have :=hnode y hy;rw[Z,O]at this;rw[Option.some.inj this];exact .inr (.inl E)
 have hg:cv g=true:=by
  have hf':=hf;simp only[cv,Bool.and_eq_true,beq_iff_eq]at hf'⊢;exact⟨by rw[hr.root.1];exact hf'.1,AI f g _ hr hSk hf'.2⟩
 have J:=hr.root.2.2.1;obtain⟨u',hu',hru⟩:=hr.kid hu;have hvg:bc g=bU (nodE u' [(g.kids.length:Int)-1] (cF g)):=by rw[bc,if_pos hg,nf hg (by rw[J];exact hu')]
 have hstk:cF g=(cF f).map (kc B):=by
  simp only[cF,J,List.map_reverse]
  congr 1
  refine xo (Sf (bc f) B) B _ _ 0 (by simp[J]) λj w w' O hw'=>?_;rw[List.getElem?_take]at O hw';split at O
  ·rename_i hj;rw[if_pos hj]at hw';obtain⟨w2,e2,hr2⟩:=hr.kid O;have :w2=w':=by rw[hw']at e2;exact(Option.some.inj e2).symm
   subst this;rw[hr2.root.2.1,Nat.zero_add];have hk4:Sf (bc f) B [(j:Int)]=true↔[(j:Int)]=B:=by
    simp only[Sf,Bool.or_eq_true,beq_iff_eq,List.any_eq_true,Bool.and_eq_true,Bool.not_eq_true'];refine⟨λh=>?_,.inl⟩;rcases h with h|⟨v,G,_,h5⟩
    ·exact h
    ·obtain⟨y,hy,E,e⟩:=q v G;have Z:y.1=[(j:Int)]:=by rw[←h5,e];rfl
     have h6:y.1.head?=some ((f.kids.length:Int)-1):=Au y hy;rw[Z]at h6;simp only[List.head?_cons,Option.some.injEq]at h6;omega
   by_cases hB':[(j:Int)]=B
   ·rw[if_pos hB',if_pos (hk4.2 hB')]
   ·rw[if_neg hB',if_neg λh=>hB' (hk4.1 h)]
  ·cases O
 rw[hvg,hv,hstk,J];refine Cf (Sf (bc f) B) B u u' _ _ (hru.congr λx=>by rw[hn];rfl) (λc hc=>?_) hS;rw[cF,List.mem_reverse]at hc;obtain⟨j,w,O,rfl⟩:=vT hc;rw[List.getElem?_take]at O;split at O
 ·exact hq _ w (ea O)
 ·cases O
theorem sF{v:ah}(h:v∈bc f):cv f=true:=by
 unfold bc at h;split at h
 ·assumption
 ·cases h
theorem tK{v:ah}(h:v∈bc f):(∃w,atK f v.Path=some w)∧(v.Free=false→∃w,atK f v.Binder=some w):=by
 have hf:=sF h;have h2:=fP hf;obtain⟨u,E,_⟩|h':=aB f.kids (f.kids.length-1)
 rotate_left
 ·omega
 have O:((f.kids.length-1:Nat):Int)=(f.kids.length:Int)-1:=by omega
 have G:atK f [(f.kids.length:Int)-1]=some u:=by rw[←O];exact ea E
 have hv:bc f=bU (nodE u [(f.kids.length:Int)-1] (cF f)):=by rw[bc,if_pos hf,nf hf E]
 rw[hv]at h;obtain⟨x,hx,U,e⟩:=no.1 h;have hnode:atK f x.1=some x.2.1:=by
  refine nodK_at f u _ G (x.1,x.2.1) ?_;rw[←nodE_nodK u _ (cF f)];exact List.mem_map.2 ⟨x,hx,rfl⟩
 refine⟨⟨x.2.1,by rw[e];exact hnode⟩,λq=>?_⟩;have Z:(bH x.2.2.reverse x.2.1.text).2=true:=by rw[e]at q;simpa[kM]using q
 have h1:bH x.2.2.reverse x.2.1.text=(v.Binder,true):=by
  have e1:v.Binder=(bH x.2.2.reverse x.2.1.text).1:=by rw[e];rfl
  rw[e1,←Z]
 obtain⟨c,J,hp⟩:=rm h1;rw[uy hf E x hx]at J;obtain⟨y,hy,rfl⟩:=List.mem_map.1 J;obtain⟨w,hw,_⟩:=uE hf hy;exact⟨w,by rw[←hp];exact hw⟩
theorem wX:∀(q:List Int) (t u:Tree),atK t q=some u→q.length+tbulk u≤tbulk t
 |[],t,u,h=>by simp only[atK,Option.some.injEq]at h;subst h;simp
 | x::q,t,u,h=>by
  simp only[atK]at h;split at h
  ·cases h
  ·split at h
   ·cases h
   ·rename_i y hy;have :=wX q y u h;have :=dO hy;simp only[List.length_cons];omega
def Sk(v:List ah)(B:List Int)(k:Nat)(x:List Int):Bool:=x==B||(v.take k).any λv=>!v.Free&&v.Binder==B&&v.Path==x
theorem EU(v:List ah)(B:List Int)(x:List Int):Sk v B v.length x=Sf v B x:=by simp[Sk,Sf]
theorem El{v:List ah}{B:List Int}{y:ah}(hy:v[k]?=some y)(h:y.Free=false∧y.Binder=B)(x:List Int):(Sk v B k x||x==y.Path)=Sk v B (k+1) x:=by
 simp only[Sk,List.take_add_one,hy,Option.toList_some,List.any_append,List.any_cons,List.any_nil,h.1,h.2];have :(x==y.Path)=(y.Path==x):=by
  by_cases h:x=y.Path
  ·subst h;rfl
  ·have h1:(x==y.Path)=false:=by simpa using h
   have h2:(y.Path==x)=false:=by simpa using λe=>h e.symm
   rw[h1,h2]
 simp[this,Bool.or_assoc]
theorem CV{v:List ah}{B:List Int}{y:ah}(hy:v[k]?=some y)(h:¬(y.Free=false∧y.Binder=B))(x:List Int):Sk v B k x=Sk v B (k+1) x:=by
 simp only[Sk,List.take_add_one,hy,Option.toList_some,List.any_append,List.any_cons,List.any_nil];have :(!y.Free&&y.Binder==B&&y.Path==x)=false:=by
  cases hf:y.Free with
  |true=>simp
  |false=>
   have :(y.Binder==B)=false:=by simpa using λe=>h ⟨hf,e⟩
   simp[this]
 simp[this]
set_option maxHeartbeats 4000000
theorem rW{y v:Tree}{i:Nat}:∀(p:List Int) (r s:Tree),atK r p=some s→s.kids[i]?=some y→fK r (p++[(i:Int)]) v=fK r p (.node s.kind s.text s.leads (s.kids.set i v))
 |[],r,s,h,hy=>by
  simp only[atK,Option.some.injEq]at h;subst h;simp only[List.nil_append,fK,Int.toNat_natCast,hy]
 |j::p,r,s,h,hy=>by
  simp only[atK]at h;split at h
  ·cases h
  split at h
  ·cases h
  rename_i z q;simp only[List.cons_append,fK,q];rw[rW p z s h hy]
def Loc(w:World)(H br:Nat)(Sf:Nat→Prop)(r:Tree)(p:List Int)(s:Tree)(b:Nat)(pre c post:List Value)(lo hi:Nat):Prop:=
 Blk w b TT (pre++c++post)∧NestD w H lo hi s c∧hi≤H∧(b<lo∨hi≤b)∧atK r p=some s∧(∀x,(lo≤x∧x<hi)∨H≤x→Sf x)∧
 ∀(w':World) (q:Nat) (v:Tree) (cu:List Value),(∀x,x<w.heap.size→x≠q→w'.heap[x]?=w.heap[x]?)→(q=b∨(lo≤q∧q<hi))→Blk w' b TT (pre++cu++post)→TreeIs Sf w' v cu→∃cr,Blk w' br TT cr∧TreeIs Sf w' (fK r p v) cr
theorem Loc.start{w:World}{H br:Nat}{Sf:Nat→Prop}{r:Tree}{c:List Value}{lo hi:Nat}(q:Blk w br TT c)(E:NestD w H lo hi r c)(hH:hi≤H)(G:br<lo∨hi≤br)(J:∀x,(lo≤x∧x<hi)∨H≤x→Sf x):Loc w H br Sf r [] r br [] c [] lo hi:=
 ⟨by simpa using q,E,hH,G,rfl,J,λw' O v cu _ _ hB' hv=>⟨cu,by simpa using hB',hv⟩⟩
theorem Loc.step{w:World}{H br b:Nat}{Sf:Nat→Prop}{r s:Tree}{p:List Int}{pre c post:List Value}{lo hi:Nat}(h:Loc w H br Sf r p s b pre c post lo hi)(G:i<s.kids.length):
  ∃A m n g pre2 ci post2 q E,c=[.int .i64 s.kind,aE s.text,.slice A s.leads.length m,.slice (some ⟨g,0,none⟩) s.kids.length n]∧pre2.length=i*4∧lo≤g∧lo≤q∧Loc w H br Sf r (p++[(i:Int)]) s.kids[i] g pre2 ci post2 q E:=by
 obtain⟨h1,h2,h3,h4,O,U,h7⟩:=h;obtain⟨A,m,n,g,pre2,ci,post2,q,E,e,g1,g2,g3,g4,g5,g6,g7,g8⟩:=h2.step G h3;have Z:=List.getElem?_eq_getElem G;refine⟨A,m,n,g,pre2,ci,post2,q,E,e,g2,g3,by omega,g1,g7,by omega,.inl g4,?_,λx hx=>U x (by omega),λw' b2 v cu J hb hB hv=>?_⟩
 ·rw[nZ,O];exact ea Z
 ·have ht:=g8 w' b2 Sf v cu J hb U hB hv;obtain⟨cr,k1,k2⟩:=h7 w' b2 _ c J (.inr (by omega)) ((J b h1.lt (by omega)).trans h1) ht;exact⟨cr,k1,by rw[rW p r s O Z];exact k2⟩
theorem Loc.four{w:World}{H br b:Nat}{Sf:Nat→Prop}{r s:Tree}{p:List Int}{pre c post:List Value}{lo hi:Nat}(h:Loc w H br Sf r p s b pre c post lo hi):c.length=4:=h.2.1.four
theorem wI(t u s:Tree)(q:List Int)(w:World)(S:Nat→Prop)(ct cu:List Value)(A:Option Addr)(m:Nat)(hbt:tbulk t≤1000000000)(hbu:tbulk u≤1000000000)(hq:q.length≤1000000000)(hat:atK t q=some s)(hT:TreeIs S w t ct)(hU:TreeIs S w u cu)(hQ:RowIn S w 1 A q.length (q.map (Value.int .i64)))
    (hF:∀w1,Chg [] w w1→Calls prog 34 #[.agg ct.toArray,.slice A q.length m] w1 λe w'=>∃x:List Value,e=.returned (.tuple #[.agg x.toArray,.bool true])∧Chg [] w1 w'∧x.length=4∧x.all (·.oneCell')=true):
    Calls prog 20 #[.agg ct.toArray,.slice A q.length m,.agg cu.toArray] w λe w'=>∃c:List Value,e=.returned (.tuple #[.agg c.toArray,.bool true])∧Chg [] w w'∧TreeIs (λx=>w.heap.size≤x) w' (fK t q u) c:=by
  have t4:=hT.four;have u4:=hU.four;replace hT:=hT.keepB (S':=λx=>x<w.heap.size) (w':=w) (λx _ hx=>hx) (λ_ _ _=>rfl);replace hU:=hU.keepB (S':=λx=>x<w.heap.size) (w':=w) (λx _ hx=>hx) (λ_ _ _=>rfl);refine rE 43 func20 rfl rfl rfl ?_;intro a hf;refine rG 60 hf rfl ?_;clear hf a;intro a hf;obtain⟨w1,b1,he,hB1,hx1,e1,l1⟩:=nS (P:=prog) (t:=TT) (x:=(.tmp 0)) hf rfl rfl w 0;refine rV hf rfl he ?_;clear he hf a;intro a hf;obtain⟨w2,b2,he,hB2,hx2,e2,l2⟩:=nS (P:=prog) (t:=TT) (x:=(.tmp 2)) hf rfl rfl w1 0;refine rV hf rfl he ?_;clear he hf a;intro a hf;replace hB1:=hB1.c0 hx2;obtain⟨w3,b3,he,hB3,hx3,e3,l3⟩:=eT a w2 0;refine rV hf rfl he ?_;clear he hf a;intro a hf;replace hB1:=hB1.c0 hx3;replace hB2:=hB2.c0 hx3;have hC:Chg [] w w3:=(hx1.t0 hx2).t0 hx3;have s1:=hx1.size;have s2:=hx2.size;have s3:=hx3.size;refine rG 60 hf rfl ?_;clear hf a;intro a hf;refine rV hf rfl (eP (m:=4) hf rfl (by kernel_rfl) hB1 t4) ?_;clear hf a;intro a hf;refine rG 60 hf rfl ?_;clear hf a;intro a hf;refine rC hf rfl rfl (by kernel_rfl) (hF w3 hC) ?_;rintro _ w4 ⟨x,rfl,hx4,x4,x1⟩;refine⟨_,rfl,?_⟩;clear hf a;intro a hf;replace hB1:=hB1.c0 hx4;replace hB2:=hB2.c0 hx4;replace hB3:=hB3.c0 hx4;replace hC:=hC.t0 hx4;have s4:=hx4.size;refine rG 60 hf rfl ?_;clear hf a;intro a hf;obtain⟨w5,b8,he,hB8,hx5,e8,l8⟩:=eT a w4 0;refine rV hf rfl he ?_;clear he hf a;intro a hf;replace hB1:=hB1.c0 hx5;replace hB2:=hB2.c0 hx5;replace hB3:=hB3.c0 hx5;replace hC:=hC.t0 hx5;have s5:=hx5.size;obtain⟨w6,he,hB8',hx6⟩:=eN (.tmp 8) (.tmp 18) hf rfl rfl x4 x1 hB8 rfl 0;refine rS hf rfl he ?_;clear he hf a;intro a hf;have s6:=hx6.size;replace hB1:=hB1.chg hx6 (by simp;omega);replace hB2:=hB2.chg hx6 (by simp;omega);replace hB3:=hB3.chg hx6 (by simp;omega);replace hC:=hC.n1 hx6 (by omega);clear hx1 hx2 hx3 hx4 hx5 hx6 hB8 hB8' hF;replace hT:=hT.keepB (S':=λx=>x<w.heap.size) (w':=w6) (λx hx _=>hx) (λx _ hx=>hC.block x hx nm0);replace hU:=hU.keepB (S':=λx=>x<w.heap.size) (w':=w6) (λx hx _=>hx) (λx _ hx=>hC.block x hx nm0);refine rG 60 hf rfl ?_;clear hf a;intro a hf;refine rV hf rfl (eP (m:=4) hf rfl (by kernel_rfl) hB1 t4) ?_;clear hf a;intro a hf;refine rC hf rfl rfl (by kernel_rfl) (pI t w6 _ ct hbt hT) ?_;rintro _ w7 ⟨c,rfl,hx7,H,lo,hi,hN,g1,g2,g3,g4⟩;refine⟨_,rfl,?_⟩;clear hf a;intro a hf;replace hB1:=hB1.c0 hx7;replace hB2:=hB2.c0 hx7;replace hB3:=hB3.c0 hx7;replace hC:=hC.t0 hx7;have s7:=hx7.size;clear hB1 hT;replace hU:=hU.keepB (S':=λx=>x<w.heap.size) (w':=w7) (λx hx _=>hx) (λx h1 hx=>hx7.block x hx nm0);obtain⟨w8,b10,he,hB10,hx8,e10,l10⟩:=eT a w7 0;refine rV hf rfl he ?_;clear he hf a;intro a hf;replace hB2:=hB2.c0 hx8;replace hB3:=hB3.c0 hx8;replace hC:=hC.t0 hx8;have s8:=hx8.size;obtain⟨w9,he,hB10',hx9⟩:=eN (.tmp 10) (.tmp 24) hf rfl rfl hN.four hN.one hB10 rfl 0;refine rS hf rfl he ?_;clear he hf a;intro a hf;have s9:=hx9.size;replace hB2:=hB2.chg hx9 (by simp;omega);replace hB3:=hB3.chg hx9 (by simp;omega);replace hC:=hC.n1 hx9 (by omega);have hn9:∀x,x<w7.heap.size→w9.heap[x]?=w7.heap[x]?:=λx hx=>(hx9.block x (by omega) (by simp;omega)).trans (hx8.block x hx nm0);replace hN:=hN.keep (H':=H) (w':=w9) (Nat.le_refl _) (λx hx _=>hn9 x hx);replace hU:=hU.keepB (S':=λx=>x<w.heap.size) (w':=w9) (λx hx _=>hx) (λx h1 hx=>hn9 x hx);have hL:=Loc.start (Sf:=λx=>w6.heap.size≤x) hB10' hN g2 (.inr (by omega)) (λx hx=>by omega);clear hx7 hx8 hx9 hB10 hB10' hN hn9;refine rG 60 hf rfl ?_;clear hf a;intro a hf;refine rV hf rfl (ku hf underlying22 rfl) ?_;clear hf a;intro a hf;refine rG 60 hf rfl ?_;clear hf a;intro a hf;refine rL (λmm a w'=>∃(i:Nat) (s':Tree) (b:Nat) (pre c post:List Value) (lo hi:Nat),mm=q.length-i∧i≤q.length∧w'=w9∧Fr a 43 (fm [(5,.pointer (some ⟨b2,0,none⟩)),(6,.pointer (some ⟨b3,0,none⟩)),(10,.pointer (some ⟨b10,0,none⟩)),(11,.pointer (some ⟨b,pre.length,none⟩)),(25,.slice A q.length m),(26,.int .i64 (q.length:Nat)),(27,.int .i64 (i:Nat))])∧
      w6.heap.size≤b∧w6.heap.size≤lo∧atK s' (q.drop i)=some s∧Loc w9 H b10 (λx=>w6.heap.size≤x) t (q.take i) s' b pre c post lo hi) q.length
    ⟨0,t,b10,[],c,[],lo,hi,by omega,Nat.zero_le _,rfl,hf.pick ⟨rfl,rfl,rfl,rfl,rfl,rfl,rfl,trivial⟩,by omega,g1,by simpa using hat,by simpa using hL⟩ ?_
  clear hf a hL g1 g2 g3 c lo hi;rintro _ a w9 ⟨i,s',b,pre,c,post,lo,hi,rfl,hi1,rfl,hf,hb6,hlo6,hda,hL⟩;have hBl:=hL.1;by_cases hlt:i<q.length
  · skip
    obtain⟨qb,qo,rfl,hqS,hqb,hcell⟩:=hQ.2 (by omega);have hq0:q.drop i=q[i]::q.drop (i+1):=List.drop_eq_getElem_cons hlt;rw[hq0]at hda;simp only[atK]at hda;split at hda
    ·cases hda
    rename_i hge;split at hda
    ·cases hda
    rename_i y hy;obtain⟨hkl,hye⟩:=List.getElem?_eq_some_iff.1 hy;obtain⟨A3,m3,n3,g,pre2,ci,post2,lo2,hi2,rfl,hp2,hg1,hg2,hL2⟩:=hL.step hkl;have hqc:w9.cell? ⟨qb,qo+i*1,none⟩=some (.int .i64 q[i]):=by
      rw[hC.cell hqb nm0,Nat.mul_one,hcell i (by omega)];simp[hlt]
    refine rG 60 hf rfl ?_;clear hf a;intro a hf;refine rV hf rfl (lX (c:=true) hf rfl rfl (by simp;omega)) ?_;clear hf a;intro a hf;refine rG 60 hf rfl ?_;clear hf a;intro a hf;refine rV hf rfl (iQ (sz:=1) (k:=i) (r:=qo+i*1) hf underlying22 (by kernel_rfl) rfl rfl rfl hlt rfl) ?_;clear hf a;intro a hf;refine rV hf rfl (ex_load hf rfl (by kernel_rfl) hqc) ?_;clear hf a;intro a hf;refine rG 60 hf rfl ?_;clear hf a;intro a hf;refine rV hf rfl (ei hf rfl (by kernel_rfl) hBl (rQ _ _ _ _ _ _)) ?_;clear hf a;intro a hf;refine rG 60 hf rfl ?_;clear hf a;intro a hf;refine rV hf rfl (iQ (sz:=4) (k:=q[i].toNat) (r:=pre2.length) hf underlying25 (by kernel_rfl) rfl rfl (by omega) hkl (by omega)) ?_;clear hf a;intro a hf;refine rG 60 hf rfl ?_;clear hf a;intro a hf;refine rV hf rfl (tj (r:=((i+1:Nat):Int)) hf rfl rfl (by simp) (by omega)) ?_;clear hf a;intro a hf;refine rG 60 hf rfl ?_;clear hf a;intro a hf;refine rX ?_;refine⟨q.length-(i+1),by omega,i+1,s'.kids[q[i].toNat],g,pre2,ci,post2,lo2,hi2,rfl,hlt,rfl,hf.pick ⟨rfl,rfl,rfl,rfl,rfl,rfl,rfl,trivial⟩,by omega,by omega,?_,?_⟩
    ·rw[hye];exact hda
    · rw[List.take_succ_eq_append_getElem hlt];have e:((q[i].toNat:Nat):Int)=q[i]:=by omega
      rw[e]at hL2;exact hL2
  have hi':i=q.length:=by omega
  subst hi';rw[List.take_length]at hL;refine rG 60 hf rfl ?_;clear hf a;intro a hf;refine rV hf rfl (lX (c:=false) hf rfl rfl (by simp)) ?_;clear hf a;intro a hf;refine rG 60 hf rfl ?_;clear hf a;intro a hf;refine rO ?_;refine rG 60 hf rfl ?_;clear hf a;intro a hf;refine rV hf rfl (eP (m:=4) hf rfl (by kernel_rfl) hB2 u4) ?_;clear hf a;intro a hf;refine rC hf rfl rfl (by kernel_rfl) (qP u w9 _ cu hbu hU) ?_;rintro _ w10 ⟨c2,rfl,hx10,hT2⟩;refine⟨_,rfl,?_⟩;clear hf a;intro a hf;have hbl:=hBl.lt;have s10:=hx10.size;have hlb3:=hB3.lt;replace hB3:=hB3.c0 hx10;replace hBl:=hBl.c0 hx10;replace hC:=hC.t0 hx10;refine rG 60 hf rfl ?_;clear hf a;intro a hf;obtain⟨w11,he,hB11,hx11⟩:=tX (P:=prog) (t:=TT) (x:=(.tmp 41)) (y:=(.tmp 40)) (m:=4) hf rfl rfl (by kernel_rfl) hT2.four hT2.one hBl rfl hL.four 0;refine rS hf rfl he ?_;clear he hf a;intro a hf;have s11:=hx11.size;replace hC:=hC.n1 hx11 (by omega);replace hB3:=hB3.chg hx11 (by simp;omega);obtain⟨cr,hBr,hTr⟩:=hL.2.2.2.2.2.2 w11 b u c2 (λx hx hne=>(hx11.block x (by omega) (by simpa using hne)).trans (hx10.block x hx nm0)) (.inl rfl) hB11 (hT2.keepB (λx h _=>by omega) (λx h hx=>hx11.block x hx (by simp;omega)));refine rG 60 hf rfl ?_;clear hf a;intro a hf;refine rV hf rfl (eP (m:=4) hf rfl (by kernel_rfl) hBr hTr.four) ?_;clear hf a;intro a hf;obtain⟨w12,he,hB6,hx12⟩:=eN (.tmp 6) (.tmp 42) hf rfl rfl hTr.four hTr.one hB3 rfl 0;refine rS hf rfl he ?_;clear he hf a;intro a hf;refine rG 60 hf rfl ?_;clear hf a;intro a hf;exact rT (rs:=[.cell 6 TT,.tmp 7]) hf rfl ⟨_,_,_,_,_,rfl,rfl,by kernel_rfl,hB6,hTr.four,_,_,rfl,rfl,rfl⟩ ⟨_,rfl,hC.n1 hx12 (by omega),hTr.keepB (λx h _=>by omega) (λx h hx=>hx12.block x hx (by simp;omega))⟩
theorem tT{S:Nat→Prop}{w:World}{ρ:Nat→Option Value}:∀{ls:List Int} {xs:List Value},CRel S w ρ 1 (ls.map (V.int .i64)) xs→xs=ls.map (Value.int .i64)
 |[],xs,h=>by simpa[CRel]using h
 |s::r,xs,h=>by
  simp only[List.map_cons,CRel,VRel]at h;obtain⟨x,ys,rfl,_,rfl,h2⟩:=h;rw[tT h2];simp[Value.cells]
theorem yt(t u s:Tree)(q:List Int)(ht:tbulk t≤1000000000)(hu:tbulk u≤1000000000)(hq:q.length≤1000000000)(hat:atK t q=some s):oh t q u (fK t q u) true:=by
 refine⟨rfl,rfl,λS w ρ xs hr hx=>?_⟩;have hx':=hx;simp only[LRel]at hx;obtain⟨y0,_,rfl,G,y1,_,rfl,hx1,y2,_,rfl,U,rfl⟩:=hx;have hx0':=G;have Z:=hx1;simp only[VRel]at G hx1 U;obtain⟨ct,rfl,G⟩:=G;obtain⟨A,m,cs,rfl,_,_,hc,hrow⟩:=hx1;obtain⟨cu,rfl,U⟩:=U;have e:=tT hc;subst e;rw[List.length_map]at hrow;rw[List.length_map];rw[List.length_map]at Z;have hf:=ya t q hq;rw[hat]at hf;obtain⟨f1,f2,f3⟩:=hf;refine(wI t u s q w S ct cu A m ht hu hq hat (LRel.tree G) (LRel.tree U) hrow λw1 J=>?_).mono ?_
 ·have hr1:=hr.chg0 J;have up:Up S S w w1 ρ ρ:=⟨λ_ h=>h,λb E hlt=>J.block b hlt nm0,λ_ _ h=>h⟩;refine(f3 S w1 ρ [.agg ct.toArray,.slice A q.length m] hr1 ⟨_,_,rfl,VRel.up up hx0',_,_,rfl,VRel.up up Z,rfl⟩).mono λe w' hR=>?_;obtain⟨x,S',ρ',v,H',rfl,rfl,hr',O,hv⟩:=hR;simp only[VRel,LRel]at hv;obtain⟨_,rfl,_,_,rfl,⟨ys,rfl,hy⟩,_,_,rfl,rfl,rfl⟩:=hv;have hno:∀b,¬∃id,own ρ id ((⟨0,[]⟩:Hp).get id) b:=λb ⟨id,E⟩=>by rw[iZ]at E;exact E
  have hc:Chg [] w1 w':=⟨O.chg.os,O.chg.tape,O.chg.output,O.chg.size,λb E _=>O.chg.block b E (hno b)⟩;have hy':TreeIs S' w' _ ys:=LRel.tree (ρ:=ρ') (show LRel S' w' ρ' (ak ((some s).getD (.node 0 [] [] []))) ys by simp only[ak,LRel,VRel];exact hy);exact⟨ys,rfl,hc,hy'.four,hy'.one⟩
 rintro e w' ⟨c,rfl,J,hT⟩;have g:=hr.chg0 J;refine⟨_,λb=>S b∨(w.heap.size≤b∧b<w'.heap.size),ρ,_,⟨0,[]⟩,rfl,rfl,⟨λi=>?_,λi b E=>?_,λi j b E _=>?_,g.slt.up (ρ:=ρ0) (ρ':=ρ0) ⟨λ_ h=>.inl h,λ_ _ _=>rfl,λ_ _ h=>h⟩ (λb E=>E.elim (g.slt b) (·.2))⟩,⟨ChgP.of0 J,λ_ h=>.inl h,λb E=>E.elim .inl (λh=>.inr (.inr h.1)),λid b E=>by rw[iZ]at E;exact E.elim,λid x h=>?_⟩,?_⟩
 ·have :=g.ob i;rw[iZ]at this⊢;exact this
 ·rw[iZ]at E;exact E.elim
 ·rw[iZ]at E;exact E.elim
 ·simp only[mH]at h;split at h
  ·exact h
  ·cases h
 ·simp only[VRel,LRel];refine⟨[.agg c.toArray,.bool true],rfl,_,_,rfl,⟨c,rfl,?_⟩,_,_,rfl,rfl,rfl⟩;have hv:=(hT.keepB (S':=λb=>S b∨(w.heap.size≤b∧b<w'.heap.size)) (λb h1 h2=>.inr ⟨h1,h2⟩) (λ_ _ _=>rfl)).vrel (ρ:=ρ);exact hv
structure aa where
 Lead:(List UInt8)
 Text:(List UInt8)
abbrev aa.c(x:aa):List V:=[.str x.Lead,.str x.Text]
abbrev aa.w(x:aa):V:=.agg x.c
abbrev vA(a0:List Int)(a1:Int):Ob:=.var 94 [.row 1 (List.map (V.int .i64) a0),.int .i64 a1]
theorem vD(σ:List Nat)(l):renL σ (List.map aa.w l)=List.map aa.w l:=dN σ aa.w (λ_=>rfl) l
def gX(q:List UInt8)(p1 E:Bool):Prop:=qS 100 [.str q,.bool p1] (.bool E)
def li(q p1:List UInt8)(E:Bool):Prop:=qS 80 [.str q,.str p1] (.bool E)
def hW(q p1 E:Int):Prop:=qS 8 [qi q,qi p1] (qi E)
def mo(q b:List Int)(a:Int):Prop:=dd [] prog 28 [.row 1 (List.map (V.int .i64) q)] ⟨0,[]⟩ (λu G=>u=.ptr 0 0∧G=⟨1,[(0,vA b a)]⟩)
def iW(q:List Int)(E:Bool):Prop:=qS 4 [.row 1 (List.map (V.int .i64) q)] (.bool E)
def aM(c:List Int)(a:Int)(p1:(List (List UInt8)))(q:List UInt8)(d:List Int)(b:Int):Prop:=dd [] prog 73 [.ptr 0 0,.row 1 (List.map V.str p1)] ⟨1,[(0,vA c a)]⟩ (λu G=>u=.str q∧G=⟨1,[(0,vA d b)]⟩)
def bK(c:List Int)(a p1:Int)(q:Tree)(d:List Int)(b:Int):Prop:=dd [] prog 74 [.ptr 0 0,qi p1] ⟨1,[(0,vA c a)]⟩ (λu G=>u=.agg (ak q)∧G=⟨2,[(0,vA d b)]⟩)
def dk(c:List Int)(a p1:Int)(q:Tree)(d:List Int)(b:Int):Prop:=dd [] prog 94 [.ptr 0 0,qi p1] ⟨1,[(0,vA c a)]⟩ (λu G=>u=.agg (ak q)∧G=⟨2,[(0,vA d b)]⟩)
def aD(c:List Int)(a p1:Int)(q:Tree)(d:List Int)(b:Int):Prop:=dd [] prog 75 [.ptr 0 0,qi p1] ⟨1,[(0,vA c a)]⟩ (λu G=>u=.agg (ak q)∧G=⟨2,[(0,vA d b)]⟩)
def ke(c:List Int)(a:Int)(q:Tree)(d:List Int)(b:Int):Prop:=dd [] prog 49 [.ptr 0 0] ⟨1,[(0,vA c a)]⟩ (λu G=>u=.agg (ak q)∧G=⟨2,[(0,vA d b)]⟩)
def fO(c:List Int)(a:Int)(p1 q:Tree)(d:List Int)(b:Int):Prop:=dd [] prog 51 [.ptr 0 0,.agg (ak p1)] ⟨1,[(0,vA c a)]⟩ (λu G=>u=.agg (ak q)∧G=⟨2,[(0,vA d b)]⟩)
def iv(c:List Int)(a:Int)(p1:List UInt8)(q:Tree)(d:List Int)(b:Int):Prop:=dd [] prog 30 [.ptr 0 0,.str p1] ⟨1,[(0,vA c a)]⟩ (λu G=>u=.agg (ak q)∧G=⟨2,[(0,vA d b)]⟩)
def hJ(q:List Int)(E:List Tree):Prop:=qS 15 [.row 1 (List.map (V.int .i64) q)] (.row 4 (kidsV E))
def ay(c:List Int)(a p1 q:Int)(d:List Int)(b:Int):Prop:=dd [] prog 29 [.ptr 0 0,qi p1] ⟨1,[(0,vA c a)]⟩ (λu G=>u=qi q∧G=⟨1,[(0,vA d b)]⟩)
def hO(q:Int)(E:(List (List UInt8))):Prop:=dd [] prog 98 [qi q] ⟨0,[]⟩ (λu G=>u=.sl 0∧G=⟨1,[(0,.row 9 1 (List.map V.str E))]⟩)
def ii(q:Tree)(p1:Int)(E G:List UInt8):Prop:=qS 99 [.agg (ak q),qi p1,.str E] (.str G)
def dU(q:Tree)(p1:List UInt8)(E:Tree):Prop:=qS 77 [.agg (ak q),.str p1] (.agg (ak E))
def gK(q E:Tree):Prop:=qS 50 [.agg (ak q)] (.agg (ak E))
def dw(q:Tree)(E:Bool):Prop:=qS 31 [.agg (ak q)] (.bool E)
def dp(q:Tree)(E:Bool):Prop:=qS 52 [.agg (ak q)] (.bool E)
def fh(q:Tree)(E:Bool):Prop:=qS 78 [.agg (ak q)] (.bool E)
def eD(q:Tree)(E:Bool):Prop:=qS 53 [.agg (ak q)] (.bool E)
def fi(q:Tree)(E:Int):Prop:=qS 54 [.agg (ak q)] (qi E)
def it(q:Tree)(E:List UInt8):Prop:=qS 55 [.agg (ak q)] (.str E)
def kx(q:Tree)(E:List aa):Prop:=qS 79 [.agg (ak q)] (.row 2 (List.map aa.w E))
def aj(q:List aa)(p1:Tree)(E:List aa):Prop:=dd [] prog 101 [.sl 0,.agg (ak p1)] ⟨1,[(0,.row 110 2 (List.map aa.w q))]⟩ (λu G=>u=.sl 1∧G=⟨2,[(1,.row 110 2 (List.map aa.w E))]⟩)
def dj(q:List aa)(p1:Tree)(E J O:Int)(U:List aa):Prop:=dd [] prog 114 [.sl 0,.agg (ak p1),qi E,qi J,qi O] ⟨1,[(0,.row 110 2 (List.map aa.w q))]⟩ (λu G=>u=.sl 1∧G=⟨2,[(1,.row 110 2 (List.map aa.w U))]⟩)
def ai(q:Tree)(p1:Int)(E:List UInt8):Prop:=qS 113 [.agg (ak q),qi p1] (.str E)
theorem ml(m:Nat)(q p1 E:Int)(h:p1≠0∧(((Int.tmod q p1)<0)→InI ((Int.tmod q p1)+p1)∧((Int.tmod q p1)+p1)=E)∧((¬(Int.tmod q p1)<0)→(Int.tmod q p1)=E)):hW q p1 E:=by
 refine⟨rfl,rfl,?_⟩;refine qA 14 [] func8 λK J=>?_;refine gR 9 rfl ?_;obtain⟨G,h⟩:=h;refine gY (GP rfl rfl G) rfl rfl<|gR 10 rfl<|qBd 9 rfl rfl rfl h ?_ ?_<;>intro h;refine gR 4 rfl ?_;obtain⟨G,h⟩:=h;refine gR 1 rfl<|gV 12 (qi ((Int.tmod q p1)+p1)) rfl (an G rfl) rfl<|gR 10 rfl ?_;subst h;exact qN [.tmp 4];refine gR 10 rfl ?_;subst h;exact qN [.tmp 4]
theorem px(m:Nat)(q b:List Int)(a:Int)(h:q.length≤1000000000∧q=b∧0=a):mo q b a:=by
 refine qA 8 [] func28 λK E=>?_;refine gR 9 rfl ?_;obtain⟨G,h⟩:=h;refine gDo (.repl 0 (.row 3 1 (List.map (V.int .i64) q))) (bm ac rfl rfl rfl rfl rfl (List.nil_append _) (by rw[ax];exact G)) (okR rfl) rfl rfl rfl<|gR 6 rfl<|gFR 1 rfl (ie _ (λ_=>rfl) _) rfl rfl ?_;obtain⟨rfl,rfl⟩:=h;exact gE E [] [(2,.ptr 0 0)] [2] [.tmp 2]
theorem pq(m:Nat)(q:List Int)(E:Bool)(h:decide ((q.length:Int)≤120)=E):iW q E:=by
 refine⟨rfl,rfl,?_⟩;refine qA 6 [] func4 λK G=>?_;refine gR 9 rfl<|gV 4 (qi (q.length:Int)) rfl (aW (ax (V.int .i64) _)) rfl<|gLB 3 rfl (ax (V.int .i64) _) λa=>gR 5 rfl ?_;subst h;exact qN [.tmp 2]
theorem pP(m:Nat)(k:List Int)(c:Int)(p1:(List (List UInt8)))(q:List UInt8)(l:List Int)(d:Int)(h:∃e g i,ay k c (p1.length:Int) e g i∧∃a,e=((a:Nat):Int)∧∃b,p1[a]?=some b∧b=q∧g=l∧i=d):aM k c p1 q l d:=by
 refine qA 12 [0] func73 λK E=>?_;refine gR 11 rfl<|gV 8 (qi (p1.length:Int)) rfl (aW (ax V.str _)) rfl<|gLB 7 rfl (ax V.str _) λp=>?_;obtain⟨e,g,i,o,h⟩:=h;refine qC o [0] ?_;obtain⟨a,n,h⟩:=h;refine gV 9 (qi ((a:Nat):Int)) rfl (ds n) rfl ?_;obtain⟨b,j,h⟩:=h;refine gY (aG (au (f:=V.str) j) ac rfl rfl rfl rfl) rfl rfl<|gR 5 rfl ?_;obtain⟨rfl,rfl,rfl⟩:=h;exact gE E [] [(4,.str b)] [0] [.tmp 4]
def ep(m:Nat)(p1 b:Int)(c:List Int)(d:Int)(e:Bool)(q:Tree)(f:List Int)(a:Int):Prop:=∀(K:Ctx),ar K [0]→qLG K f74 (λu G=>u=.agg (ak q)∧G=⟨2,[(0,vA f a)]⟩) (cB (xE (cB (ae f74)))) [.blk 0,.seq (xA (ae f74))] 32 (mkF 32 0 [(0,.ptr 0 0),(1,qi p1),(4,.ptr 1 0),(6,qi b),(7,.bool e)]) ⟨2,[(1,vC 0 []),(0,vA c d)]⟩
theorem gk(m:Nat)(g:List Int)(e p1:Int)(E:Tree)(f:List Int)(b:Int)(h:∃a c d,ay g e 7 a c d∧((a=0)→ep m p1 a c d true E f b)∧((a≠0)→ep m p1 a c d (a==1) E f b)):bK g e p1 E f b:=by
 refine qA 32 [0] func74 λK q=>?_;refine gR 9 rfl ?_;obtain⟨a,c,d,i,h⟩:=h;refine qC i [0] ?_;refine gR 10 rfl<|qBeZ 7 8 rfl rfl rfl rfl h ?_ ?_<;>intro h;exact gR 3 rfl<|qJ q (h K q) [0,1];exact gR 6 rfl<|qJ q (h K q) [0,1]
theorem aU(m:Nat)(p1 c:Int)(d:List Int)(e:Int)(i:Bool)(q:Tree)(f:List Int)(a:Int)(h:((i=true)→(Tree.node 5 [] [] [])=q∧d=f∧e=a)∧((i=false)→((c=2)→(Tree.node 7 [] [] [])=q∧d=f∧e=a)∧((c≠2)→((c=3)→(Tree.node 6 [] [] [])=q∧d=f∧e=a)∧((c≠3)→((c=4)→∃g j k,aM d e [[84],[85],[65,46,84],[66,46,85]] g j k∧(Tree.node 9 g [] [])=q∧j=f∧k=a)∧((c≠4)→((p1<1)→(Tree.node 5 [] [] [])=q∧d=f∧e=a)∧((¬p1<1)→InI (p1-1)∧∃b l n,bK d e (p1-1) b l n∧(Tree.node 8 [] [] [b])=q∧l=f∧n=a)))))):ep (m+1) p1 c d e i q f a:=by
 intro K E;refine qBi 7 rfl rfl rfl h ?_ ?_<;>intro h;refine gR 10 rfl ?_;obtain⟨rfl,rfl,rfl⟩:=h;exact gE E [(1,vB ((Tree.node 5 [] [] []).kind) ((Tree.node 5 [] [] []).text) ((Tree.node 5 [] [] []).leads) ((Tree.node 5 [] [] []).kids))] [(4,.ptr 1 0)] [0,1] [.cell 4 31] (hH:=⟨⟨_,rfl,⟨rfl,(.cons .rfl (.cons .rfl (.cons (.nil 1) (.cons (.nil 4) .nil))))⟩⟩,⟨⟨_,rfl,⟨rfl,aH.rfl⟩⟩,trivial⟩⟩);refine gR 7 rfl<|qBeZ 11 12 rfl rfl rfl rfl h ?_ ?_<;>intro h;refine gR 10 rfl ?_;obtain⟨rfl,rfl,rfl⟩:=h;exact gE E [(1,vB ((Tree.node 7 [] [] []).kind) ((Tree.node 7 [] [] []).text) ((Tree.node 7 [] [] []).leads) ((Tree.node 7 [] [] []).kids))] [(4,.ptr 1 0)] [0,1] [.cell 4 31] (hH:=⟨⟨_,rfl,⟨rfl,(.cons .rfl (.cons .rfl (.cons (.nil 1) (.cons (.nil 4) .nil))))⟩⟩,⟨⟨_,rfl,⟨rfl,aH.rfl⟩⟩,trivial⟩⟩);refine gR 7 rfl<|qBeZ 14 15 rfl rfl rfl rfl h ?_ ?_<;>intro h;refine gR 10 rfl ?_;obtain⟨rfl,rfl,rfl⟩:=h;exact gE E [(1,vB ((Tree.node 6 [] [] []).kind) ((Tree.node 6 [] [] []).text) ((Tree.node 6 [] [] []).leads) ((Tree.node 6 [] [] []).kids))] [(4,.ptr 1 0)] [0,1] [.cell 4 31] (hH:=⟨⟨_,rfl,⟨rfl,(.cons .rfl (.cons .rfl (.cons (.nil 1) (.cons (.nil 4) .nil))))⟩⟩,⟨⟨_,rfl,⟨rfl,aH.rfl⟩⟩,trivial⟩⟩);refine gR 7 rfl<|qBeZ 17 18 rfl rfl rfl rfl h ?_ ?_<;>intro h;refine gR 5 rfl<|gFR 2 rfl rfl rfl rfl ?_;obtain⟨g,j,k,p,h⟩:=h;refine qC p [0] ?_;refine gR 7 rfl ?_;obtain⟨rfl,rfl,rfl⟩:=h;exact gE E [(1,vB ((Tree.node 9 g [] []).kind) ((Tree.node 9 g [] []).text) ((Tree.node 9 g [] []).leads) ((Tree.node 9 g [] []).kids))] [(4,.ptr 1 0)] [0,1] [.cell 4 31] (hH:=⟨⟨_,rfl,⟨rfl,(.cons .rfl (.cons .rfl (.cons (.nil 1) (.cons (.nil 4) .nil))))⟩⟩,⟨⟨_,rfl,⟨rfl,aH.rfl⟩⟩,trivial⟩⟩);refine gR 11 rfl<|qBd 24 rfl rfl rfl h ?_ ?_<;>intro h;refine gR 9 rfl ?_;obtain⟨rfl,rfl,rfl⟩:=h;exact gE E [(1,vB ((Tree.node 5 [] [] []).kind) ((Tree.node 5 [] [] []).text) ((Tree.node 5 [] [] []).leads) ((Tree.node 5 [] [] []).kids))] [(4,.ptr 1 0)] [0,1] [.cell 4 31] (hH:=⟨⟨_,rfl,⟨rfl,(.cons .rfl (.cons .rfl (.cons (.nil 1) (.cons (.nil 4) .nil))))⟩⟩,⟨⟨_,rfl,⟨rfl,aH.rfl⟩⟩,trivial⟩⟩);refine gR 7 rfl ?_;obtain⟨G,h⟩:=h;refine gR 1 rfl<|gV 28 (qi (p1-1)) rfl (an G rfl) rfl ?_;obtain⟨b,l,n,o,h⟩:=h;refine qC o [0] ?_;refine gR 1 rfl<|gHR 4 (kidsV [b]) rfl (lv b) rfl<|gR 5 rfl<|gFR 4 rfl (cN _) rfl rfl ?_;obtain⟨rfl,rfl,rfl⟩:=h;exact gE E [(1,vB ((Tree.node 8 [] [] [b]).kind) ((Tree.node 8 [] [] [b]).text) ((Tree.node 8 [] [] [b]).leads) ((Tree.node 8 [] [] [b]).kids))] [(4,.ptr 1 0)] [0,1] [.cell 4 31] (hH:=⟨⟨_,rfl,⟨rfl,(.cons .rfl (.cons .rfl (.cons (.nil 1) (.cons .rfl .nil))))⟩⟩,⟨⟨_,rfl,⟨rfl,aH.rfl⟩⟩,trivial⟩⟩)
theorem lZ(m:Nat)(i:List Int)(f p1:Int)(q:Tree)(g:List Int)(b:Int)(h:∃a c d,aD i f p1 a c d∧∃e,eF a.kind e∧((e=false)→(Tree.node 22 [] [] [a])=q∧c=g∧d=b)∧((e=true)→a=q∧c=g∧d=b)):dk i f p1 q g b:=by
 refine qA 17 [0] func94 λK E=>?_;refine gR 9 rfl ?_;obtain⟨a,c,d,j,h⟩:=h;refine qC j [0] ?_;refine gR 9 rfl ?_;obtain⟨e,k,h⟩:=h;refine qC0 k rfl<|gR 3 rfl<|qBh 12 rfl rfl rfl h cx cw ?_ ?_<;>intro h;refine gR 5 rfl<|gHR 5 (kidsV [a]) rfl (lv a) rfl<|gR 6 rfl<|gFR 5 rfl (cN _) rfl rfl ?_;obtain⟨rfl,rfl,rfl⟩:=h;exact gE E [(1,vB ((Tree.node 22 [] [] [a]).kind) ((Tree.node 22 [] [] [a]).text) ((Tree.node 22 [] [] [a]).leads) ((Tree.node 22 [] [] [a]).kids))] [(4,.ptr 1 0)] [0,1] [.cell 4 31] (hH:=⟨⟨_,rfl,⟨rfl,(.cons .rfl (.cons .rfl (.cons (.nil 1) (.cons .rfl .nil))))⟩⟩,⟨⟨_,rfl,⟨rfl,aH.rfl⟩⟩,trivial⟩⟩);refine gR 10 rfl ?_;obtain⟨rfl,rfl,rfl⟩:=h;exact gE E [(1,vB a.kind a.text a.leads a.kids)] [(4,.ptr 1 0)] [0,1] [.cell 4 31]
def bI(m:Nat)(p1:Int)(b:List Int)(c d:Int)(q:Tree)(e:List Int)(a:Int):Prop:=∀(K:Ctx),ar K [0]→qLG K f75 (λu G=>u=.agg (ak q)∧G=⟨2,[(0,vA e a)]⟩) (xH (ae f75)) [] 168 (mkF 168 0 [(0,.ptr 0 0),(1,qi p1),(4,.ptr 1 0),(5,qi d)]) ⟨2,[(1,vC 0 []),(0,vA b c)]⟩
def iV(m:Nat)(p1:Int)(b:List Int)(c d:Int)(e:Bool)(q:Tree)(f:List Int)(a:Int):Prop:=∀(K:Ctx),ar K [0]→qLG K f75 (λu G=>u=.agg (ak q)∧G=⟨2,[(0,vA f a)]⟩) (cB (xG (cB (ae f75)))) [.blk 0,.seq (xJ (ae f75))] 168 (mkF 168 0 [(0,.ptr 0 0),(1,qi p1),(4,.ptr 1 0),(24,qi d),(25,.bool e)]) ⟨2,[(1,vC 0 []),(0,vA b c)]⟩
def fG(m:Nat)(p1:Int)(b:List Int)(c d:Int)(q:Tree)(e:List Int)(a:Int):Prop:=∀(K:Ctx),ar K [0]→qLG K f75 (λu G=>u=.agg (ak q)∧G=⟨2,[(0,vA e a)]⟩) (xL (cB (ae f75))) [.blk 0,.seq (xJ (ae f75))] 168 (mkF 168 0 [(0,.ptr 0 0),(1,qi p1),(4,.ptr 1 0),(24,qi d)]) ⟨2,[(1,vC 0 []),(0,vA b c)]⟩
def lY(m:Nat)(p1:Int)(b:List Int)(c d:Int)(q:Tree)(e:List Int)(a:Int):Prop:=∀(K:Ctx),ar K [0]→qLG K f75 (λu G=>u=.agg (ak q)∧G=⟨2,[(0,vA e a)]⟩) (xC (xG (cB (ae f75)))) [.blk 0,.seq (xJ (ae f75))] 168 (mkF 168 0 [(0,.ptr 0 0),(1,qi p1),(4,.ptr 1 0),(24,qi d)]) ⟨2,[(1,vC 0 []),(0,vA b c)]⟩
def lU(m:Nat)(p1:Int)(b:List Int)(c d:Int)(q:Tree)(e:List Int)(a:Int):Prop:=∀(K:Ctx),ar K [0]→qLG K f75 (λu G=>u=.agg (ak q)∧G=⟨2,[(0,vA e a)]⟩) (xC (xL (cB (ae f75)))) [.blk 0,.seq (xJ (ae f75))] 168 (mkF 168 0 [(0,.ptr 0 0),(1,qi p1),(4,.ptr 1 0),(24,qi d)]) ⟨2,[(1,vC 0 []),(0,vA b c)]⟩
def lR(m:Nat)(p1:Int)(b:List Int)(c d:Int)(q:Tree)(e:List Int)(a:Int):Prop:=∀(K:Ctx),ar K [0]→qLG K f75 (λu G=>u=.agg (ak q)∧G=⟨2,[(0,vA e a)]⟩) (xF (xG (cB (ae f75)))) [.blk 0,.seq (xJ (ae f75))] 168 (mkF 168 0 [(0,.ptr 0 0),(1,qi p1),(4,.ptr 1 0),(24,qi d)]) ⟨2,[(1,vC 0 []),(0,vA b c)]⟩
def fD(m:Nat)(p1:Int)(b:List Int)(c d:Int)(q:Tree)(e:List Int)(a:Int):Prop:=∀(K:Ctx),ar K [0]→qLG K f75 (λu G=>u=.agg (ak q)∧G=⟨2,[(0,vA e a)]⟩) (xF (xL (cB (ae f75)))) [.blk 0,.seq (xJ (ae f75))] 168 (mkF 168 0 [(0,.ptr 0 0),(1,qi p1),(4,.ptr 1 0),(24,qi d)]) ⟨2,[(1,vC 0 []),(0,vA b c)]⟩
def iU(m:Nat)(p1:Int)(b:List Int)(c d:Int)(e:Bool)(q:Tree)(f:List Int)(a:Int):Prop:=∀(K:Ctx),ar K [0]→qLG K f75 (λu G=>u=.agg (ak q)∧G=⟨2,[(0,vA f a)]⟩) (cB (xF (xL (cB (ae f75))))) [.blk 0,.seq (xJ (ae f75))] 168 (mkF 168 0 [(0,.ptr 0 0),(1,qi p1),(4,.ptr 1 0),(24,qi d),(57,.bool e)]) ⟨2,[(1,vC 0 []),(0,vA b c)]⟩
def iO(m:Nat)(p1:Int)(b:List Int)(c:Int)(q:Tree)(d:List Int)(a:Int):Prop:=∀(K:Ctx),ar K [0]→qLG K f75 (λu G=>u=.agg (ak q)∧G=⟨2,[(0,vA d a)]⟩) (xM (xF (xL (cB (ae f75))))) [.blk 0,.seq (xJ (ae f75))] 168 (mkF 168 0 [(0,.ptr 0 0),(1,qi p1),(4,.ptr 1 0)]) ⟨2,[(1,vC 0 []),(0,vA b c)]⟩
def dH(m:Nat)(p1:Int)(b:List Int)(c d:Int)(q:Tree)(e:List Int)(a:Int):Prop:=∀(K:Ctx),ar K [0]→qLG K f75 (λu G=>u=.agg (ak q)∧G=⟨2,[(0,vA e a)]⟩) (xF (xC (xG (cB (ae f75))))) [.blk 0,.seq (xJ (ae f75))] 168 (mkF 168 0 [(0,.ptr 0 0),(1,qi p1),(4,.ptr 1 0),(24,qi d)]) ⟨2,[(1,vC 0 []),(0,vA b c)]⟩
def fg(m:Nat)(p1:Int)(f:List UInt8)(a:List Int)(b:Int)(c:List Tree)(d:Int)(E:Tree)(g:List Int)(e:Int):Prop:=∀(K:Ctx) (q:Nat),ar K [0]→m≤q→qLG K f75 (λu G=>u=.agg (ak E)∧G=⟨2,[(0,vA g e)]⟩) (cL (xE (cB (xM (xF (xL (cB (ae f75)))))))) [.loop (cL (xE (cB (xM (xF (xL (cB (ae f75)))))))) q,.blk 1,.seq (xA (xM (xF (xL (cB (ae f75)))))),.blk 0,.seq (xJ (ae f75))] 168 (mkF 168 0 [(0,.ptr 0 0),(1,qi p1),(4,.ptr 1 0),(6,.ptr 2 0),(7,qi d)]) ⟨4,[(3,.row 31 4 (kidsV c)),(2,.var 31 [qi 16,.str f,.nils,.sl 3]),(1,vC 0 []),(0,vA a b)]⟩
def fj(m:Nat)(p1:Int)(a:List Int)(b:Int)(c:List Tree)(d:Int)(E:Tree)(f:List Int)(e:Int):Prop:=∀(K:Ctx) (q:Nat),ar K [0]→m≤q→qLG K f75 (λu G=>u=.agg (ak E)∧G=⟨2,[(0,vA f e)]⟩) (cL (xE (cB (xM (xF (xC (xG (cB (ae f75))))))))) [.loop (cL (xE (cB (xM (xF (xC (xG (cB (ae f75))))))))) q,.blk 3,.seq (xA (xM (xF (xC (xG (cB (ae f75))))))),.blk 0,.seq (xJ (ae f75))] 168 (mkF 168 0 [(0,.ptr 0 0),(1,qi p1),(4,.ptr 1 0),(8,.ptr 2 0),(9,qi d)]) ⟨4,[(3,.row 31 4 (kidsV c)),(2,.var 31 [qi 18,.str [],.nils,.sl 3]),(1,vC 0 []),(0,vA a b)]⟩
def fb(m:Nat)(p1:Int)(b:List Int)(c d:Int)(q:Tree)(e:List Int)(a:Int):Prop:=∀(K:Ctx),ar K [0]→qLG K f75 (λu G=>u=.agg (ak q)∧G=⟨2,[(0,vA e a)]⟩) (xF (xC (xL (cB (ae f75))))) [.blk 0,.seq (xJ (ae f75))] 168 (mkF 168 0 [(0,.ptr 0 0),(1,qi p1),(4,.ptr 1 0),(24,qi d)]) ⟨2,[(1,vC 0 []),(0,vA b c)]⟩
def lm(m:Nat)(p1:Int)(b:List Int)(c:Int)(q:Tree)(d:List Int)(a:Int):Prop:=∀(K:Ctx),ar K [0]→qLG K f75 (λu G=>u=.agg (ak q)∧G=⟨2,[(0,vA d a)]⟩) (xM (xF (xC (xL (cB (ae f75)))))) [.blk 0,.seq (xJ (ae f75))] 168 (mkF 168 0 [(0,.ptr 0 0),(1,qi p1),(4,.ptr 1 0)]) ⟨2,[(1,vC 0 []),(0,vA b c)]⟩
def dA(m:Nat)(p1:Int)(b:List Int)(c d:Int)(q:Tree)(e:List Int)(a:Int):Prop:=∀(K:Ctx),ar K [0]→qLG K f75 (λu G=>u=.agg (ak q)∧G=⟨2,[(0,vA e a)]⟩) (xK (xG (cB (ae f75)))) [.blk 0,.seq (xJ (ae f75))] 168 (mkF 168 0 [(0,.ptr 0 0),(1,qi p1),(4,.ptr 1 0),(24,qi d)]) ⟨2,[(1,vC 0 []),(0,vA b c)]⟩
def iq(m:Nat)(p1:Int)(c:List Int)(d e:Int)(a:Bool)(q:Tree)(f:List Int)(b:Int):Prop:=∀(K:Ctx),ar K [0]→qLG K f75 (λu G=>u=.agg (ak q)∧G=⟨2,[(0,vA f b)]⟩) (cB (xK (xG (cB (ae f75))))) [.blk 0,.seq (xJ (ae f75))] 168 (mkF 168 0 [(0,.ptr 0 0),(1,qi p1),(4,.ptr 1 0),(24,qi e),(118,.bool a)]) ⟨2,[(1,vC 0 []),(0,vA c d)]⟩
def iw(m:Nat)(p1:Int)(b:List Int)(c:Int)(q:Tree)(d:List Int)(a:Int):Prop:=∀(K:Ctx),ar K [0]→qLG K f75 (λu G=>u=.agg (ak q)∧G=⟨2,[(0,vA d a)]⟩) (xM (xK (xG (cB (ae f75))))) [.blk 0,.seq (xJ (ae f75))] 168 (mkF 168 0 [(0,.ptr 0 0),(1,qi p1),(4,.ptr 1 0)]) ⟨2,[(1,vC 0 []),(0,vA b c)]⟩
def ff(m:Nat)(p1:Int)(b:List Int)(c d:Int)(q:Tree)(e:List Int)(a:Int):Prop:=∀(K:Ctx),ar K [0]→qLG K f75 (λu G=>u=.agg (ak q)∧G=⟨2,[(0,vA e a)]⟩) (xK (xL (cB (ae f75)))) [.blk 0,.seq (xJ (ae f75))] 168 (mkF 168 0 [(0,.ptr 0 0),(1,qi p1),(4,.ptr 1 0),(24,qi d)]) ⟨2,[(1,vC 0 []),(0,vA b c)]⟩
def lh(m:Nat)(p1:Int)(b:List Int)(c:Int)(q:Tree)(d:List Int)(a:Int):Prop:=∀(K:Ctx),ar K [0]→qLG K f75 (λu G=>u=.agg (ak q)∧G=⟨2,[(0,vA d a)]⟩) (xM (xK (xL (cB (ae f75))))) [.blk 0,.seq (xJ (ae f75))] 168 (mkF 168 0 [(0,.ptr 0 0),(1,qi p1),(4,.ptr 1 0)]) ⟨2,[(1,vC 0 []),(0,vA b c)]⟩
theorem fL(m:Nat)(g:List Int)(f p1:Int)(E:Tree)(e:List Int)(b:Int)(h:∃a c d,ay g f 14 a c d∧((p1<1)→((5<a)→InI (a-6)∧((5<(a-6))→bI m p1 c d 0 E e b)∧((¬5<(a-6))→bI m p1 c d (a-6) E e b))∧((¬5<a)→bI m p1 c d a E e b))∧((¬p1<1)→bI m p1 c d a E e b)):aD g f p1 E e b:=by
 refine qA 168 [0] func75 λK q=>?_;refine gR 8 rfl ?_;obtain⟨a,c,d,i,h⟩:=h;refine qC i [0] ?_;refine gR 9 rfl<|qBdZ 16 15 rfl rfl rfl rfl h ?_ ?_<;>intro h;refine gR 5 rfl<|qBd 19 rfl rfl rfl h ?_ ?_<;>intro h;refine gR 4 rfl ?_;obtain⟨G,h⟩:=h;refine gR 1 rfl<|gV 21 (qi (a-6)) rfl (an G rfl) rfl<|gR 9 rfl<|qBd 23 rfl rfl rfl h ?_ ?_<;>intro h;exact gR 5 rfl<|qJ q (h K q) [0,1];exact gR 3 rfl<|qJ q (h K q) [0,1];exact gR 3 rfl<|qJ q (h K q) [0,1];exact gR 8 rfl<|qJ q (h K q) [0,1]
theorem rL0_semvcsmake_Expr(m:Nat)(p1:Int)(c:List Int)(d a:Int)(E:Tree)(e:List Int)(b:Int)(h:((a=0)→iV m p1 c d a true E e b)∧((a≠0)→iV m p1 c d a (a==1) E e b)):bI (m+1) p1 c d a E e b:=by
 intro K q;refine gR 14 rfl<|qBeZ 25 26 rfl rfl rfl rfl h ?_ ?_<;>intro h;exact gR 3 rfl<|qJ q (h K q) [0,1];exact gR 6 rfl<|qJ q (h K q) [0,1]
theorem iy(m:Nat)(p1:Int)(c:List Int)(d j:Int)(e:Bool)(q:Tree)(f:List Int)(b:Int)(h:((e=true)→∃a g i,aM c d [[120],[121],[122]] a g i∧(Tree.node 12 a [] [])=q∧g=f∧i=b)∧((e=false)→fG m p1 c d j q f b)):iV (m+1) p1 c d j e q f b:=by
 intro K E;refine qBi 25 rfl rfl rfl h ?_ ?_<;>intro h;refine gR 5 rfl<|gFR 2 rfl rfl rfl rfl ?_;obtain⟨a,g,i,k,h⟩:=h;refine qC k [0] ?_;refine gR 7 rfl ?_;obtain⟨rfl,rfl,rfl⟩:=h;exact gE E [(1,vB ((Tree.node 12 a [] []).kind) ((Tree.node 12 a [] []).text) ((Tree.node 12 a [] []).leads) ((Tree.node 12 a [] []).kids))] [(4,.ptr 1 0)] [0,1] [.cell 4 31] (hH:=⟨⟨_,rfl,⟨rfl,(.cons .rfl (.cons .rfl (.cons (.nil 1) (.cons (.nil 4) .nil))))⟩⟩,⟨⟨_,rfl,⟨rfl,aH.rfl⟩⟩,trivial⟩⟩);exact gR 1 rfl<|qJ E (h K E) [0,1]
theorem rL2_semvcsmake_Expr(m:Nat)(p1:Int)(d:List Int)(e c:Int)(q:Tree)(f:List Int)(b:Int)(h:((c=2)→∃a g i,aM d e [[48],[49],[50],[49,48]] a g i∧(Tree.node 10 a [] [])=q∧g=f∧i=b)∧((c≠2)→lY m p1 d e c q f b)):fG (m+1) p1 d e c q f b:=by
 intro K E;refine gR 6 rfl<|qBeZ 32 33 rfl rfl rfl rfl h ?_ ?_<;>intro h;refine gR 5 rfl<|gFR 2 rfl rfl rfl rfl ?_;obtain⟨a,g,i,j,h⟩:=h;refine qC j [0] ?_;refine gR 7 rfl ?_;obtain⟨rfl,rfl,rfl⟩:=h;exact gE E [(1,vB ((Tree.node 10 a [] []).kind) ((Tree.node 10 a [] []).text) ((Tree.node 10 a [] []).leads) ((Tree.node 10 a [] []).kids))] [(4,.ptr 1 0)] [0,1] [.cell 4 31] (hH:=⟨⟨_,rfl,⟨rfl,(.cons .rfl (.cons .rfl (.cons (.nil 1) (.cons (.nil 4) .nil))))⟩⟩,⟨⟨_,rfl,⟨rfl,aH.rfl⟩⟩,trivial⟩⟩);exact gR 1 rfl<|qJ E (h K E) [0,1]
theorem dz(m:Nat)(p1:Int)(d:List Int)(e c:Int)(q:Tree)(f:List Int)(b:Int)(h:((c=3)→∃a g i,aM d e [[34,34],[34,97,34],[34,35,32,98,34]] a g i∧(Tree.node 11 a [] [])=q∧g=f∧i=b)∧((c≠3)→lU m p1 d e c q f b)):lY (m+1) p1 d e c q f b:=by
 intro K E;refine gR 6 rfl<|qBeZ 38 39 rfl rfl rfl rfl h ?_ ?_<;>intro h;refine gR 5 rfl<|gFR 2 rfl rfl rfl rfl ?_;obtain⟨a,g,i,j,h⟩:=h;refine qC j [0] ?_;refine gR 7 rfl ?_;obtain⟨rfl,rfl,rfl⟩:=h;exact gE E [(1,vB ((Tree.node 11 a [] []).kind) ((Tree.node 11 a [] []).text) ((Tree.node 11 a [] []).leads) ((Tree.node 11 a [] []).kids))] [(4,.ptr 1 0)] [0,1] [.cell 4 31] (hH:=⟨⟨_,rfl,⟨rfl,(.cons .rfl (.cons .rfl (.cons (.nil 1) (.cons (.nil 4) .nil))))⟩⟩,⟨⟨_,rfl,⟨rfl,aH.rfl⟩⟩,trivial⟩⟩);exact gR 1 rfl<|qJ E (h K E) [0,1]
theorem fo(m:Nat)(p1:Int)(d:List Int)(e c:Int)(q:Tree)(f:List Int)(b:Int)(h:((c=4)→∃a g i,ay d e 2 a g i∧InI (13+a)∧(Tree.node (13+a) [] [] [])=q∧g=f∧i=b)∧((c≠4)→lR m p1 d e c q f b)):lU (m+1) p1 d e c q f b:=by
 intro K E;refine gR 6 rfl<|qBeZ 44 45 rfl rfl rfl rfl h ?_ ?_<;>intro h;refine gR 4 rfl ?_;obtain⟨a,g,i,j,h⟩:=h;refine qC j [0] ?_;obtain⟨G,h⟩:=h;refine gR 1 rfl<|gV 48 (qi (13+a)) rfl (an G rfl) rfl<|gR 7 rfl ?_;obtain⟨rfl,rfl,rfl⟩:=h;exact gE E [(1,vB ((Tree.node (13+a) [] [] []).kind) ((Tree.node (13+a) [] [] []).text) ((Tree.node (13+a) [] [] []).leads) ((Tree.node (13+a) [] [] []).kids))] [(4,.ptr 1 0)] [0,1] [.cell 4 31] (hH:=⟨⟨_,rfl,⟨rfl,(.cons .rfl (.cons .rfl (.cons (.nil 1) (.cons (.nil 4) .nil))))⟩⟩,⟨⟨_,rfl,⟨rfl,aH.rfl⟩⟩,trivial⟩⟩);exact gR 1 rfl<|qJ E (h K E) [0,1]
theorem ip(m:Nat)(p1:Int)(g:List Int)(i b:Int)(q:Tree)(c:List Int)(a:Int)(h:((b=5)→∃d e f,ay g i 3 d e f∧((d=0)→(Tree.node 15 [] [] [])=q∧e=c∧f=a)∧((d≠0)→(Tree.node 10 [51] [] [])=q∧e=c∧f=a))∧((b≠5)→fD m p1 g i b q c a)):lR (m+1) p1 g i b q c a:=by
 intro K E;refine gR 6 rfl<|qBeZ 50 51 rfl rfl rfl rfl h ?_ ?_<;>intro h;refine gR 5 rfl ?_;obtain⟨d,e,f,j,h⟩:=h;refine qC j [0] ?_;refine gR 3 rfl<|qBe 54 rfl rfl rfl h ?_ ?_<;>intro h;refine gR 11 rfl ?_;obtain⟨rfl,rfl,rfl⟩:=h;exact gE E [(1,vB ((Tree.node 15 [] [] []).kind) ((Tree.node 15 [] [] []).text) ((Tree.node 15 [] [] []).leads) ((Tree.node 15 [] [] []).kids))] [(4,.ptr 1 0)] [0,1] [.cell 4 31] (hH:=⟨⟨_,rfl,⟨rfl,(.cons .rfl (.cons .rfl (.cons (.nil 1) (.cons (.nil 4) .nil))))⟩⟩,⟨⟨_,rfl,⟨rfl,aH.rfl⟩⟩,trivial⟩⟩);refine gR 12 rfl ?_;obtain⟨rfl,rfl,rfl⟩:=h;exact gE E [(1,vB ((Tree.node 10 [51] [] []).kind) ((Tree.node 10 [51] [] []).text) ((Tree.node 10 [51] [] []).leads) ((Tree.node 10 [51] [] []).kids))] [(4,.ptr 1 0)] [0,1] [.cell 4 31] (hH:=⟨⟨_,rfl,⟨rfl,(.cons .rfl (.cons .rfl (.cons (.nil 1) (.cons (.nil 4) .nil))))⟩⟩,⟨⟨_,rfl,⟨rfl,aH.rfl⟩⟩,trivial⟩⟩);exact gR 1 rfl<|qJ E (h K E) [0,1]
theorem rL6_semvcsmake_Expr(m:Nat)(p1:Int)(c:List Int)(d a:Int)(E:Tree)(e:List Int)(b:Int)(h:((a=6)→iU m p1 c d a true E e b)∧((a≠6)→iU m p1 c d a (a==7) E e b)):fD (m+1) p1 c d a E e b:=by
 intro K q;refine gR 7 rfl<|qBeZ 57 58 rfl rfl rfl rfl h ?_ ?_<;>intro h;exact gR 3 rfl<|qJ q (h K q) [0,1];exact gR 6 rfl<|qJ q (h K q) [0,1]
theorem iA(m:Nat)(p1:Int)(b:List Int)(c f:Int)(d:Bool)(E:Tree)(e:List Int)(a:Int)(h:((d=true)→iO m p1 b c E e a)∧((d=false)→dH m p1 b c f E e a)):iU (m+1) p1 b c f d E e a:=by
 intro K q;refine qBi 57 rfl rfl rfl h ?_ ?_<;>intro h;exact gR 1 rfl<|qJ q (h K q) [0,1];exact gR 1 rfl<|qJ q (h K q) [0,1]
theorem pu(m:Nat)(p1:Int)(i:List Int)(j:Int)(r0:Tree)(k:List Int)(a:Int)(h:∃b c d,aM i j [[102],[103],[104],[65,46,102],[66,46,103],[65,46,104]] b c d∧∃e f g,ay c d 4 e f g∧fg m p1 b f g ([]:List Tree) e r0 k a):iO (m+1) p1 i j r0 k a:=by
 intro K hK;refine gR 4 rfl<|gFR 2 rfl rfl rfl rfl ?_;obtain⟨b,c,d,l,h⟩:=h;refine qC l [0] ?_;refine gR 9 rfl ?_;obtain⟨e,f,g,n,h⟩:=h;refine qC n [0] ?_;exact gR 4 rfl<|go_loop m<|gNC 4 3 31 4 rfl rfl rfl rfl<|qW hK h [0,1,4,6]
theorem ll(m:Nat)(p1:Int)(f:List Int)(g e:Int)(r0:Tree)(i:List Int)(b:Int)(h:((e=8)→∃a c d,ay f g 3 a c d∧InI (1+a)∧fj m p1 c d ([]:List Tree) (1+a) r0 i b)∧((e≠8)→fb m p1 f g e r0 i b)):dH (m+1) p1 f g e r0 i b:=by
 intro K hK;refine gR 6 rfl<|qXeZ 82 83 rfl rfl rfl rfl h ?_ ?_<;>intro hd h;refine gR 12 rfl ?_;obtain⟨a,c,d,j,h⟩:=h;refine qC j [0] ?_;obtain⟨hb,h⟩:=h;exact gR 1 rfl<|gV 87 (qi (1+a)) rfl (an hb rfl) rfl<|gR 4 rfl<|go_loop m<|gNC 2 3 31 4 rfl rfl rfl rfl<|qW hK h [0,1,2,4];exact gR 1 rfl<|qJ hK (h K hK) [0,1]
theorem kA(m:Nat)(p1:Int)(d:List UInt8)(e:List Int)(f:Int)(b:List Tree)(c:Int)(E:Tree)(k:List Int)(g:Int)(h:((0<c)→InI (p1-1)∧∃a i j,aD e f (p1-1) a i j∧(b++[(Tree.node 17 [] [] [a])]).length≤1000000000∧InI (c-1)∧fg m p1 d i j (b++[(Tree.node 17 [] [] [a])]) (c-1) E k g)∧((¬0<c)→(Tree.node 16 d [] b)=E∧e=k∧f=g)):fg (m+1) p1 d e f b c E k g:=by
 refine qj λK J G n=>?_;refine gR 7 rfl<|qXd 67 rfl rfl rfl h ?_ ?_<;>intro hd h;refine gR 5 rfl<|qDs [2] 11 12<|qDr [(0,2),(1,3),(2,2),(3,0)] rfl rfl ?_;obtain⟨q,h⟩:=h;refine qDr [(4,0)] rfl rfl<|gV 74 (qi (p1-1)) rfl (an q rfl) rfl ?_;obtain⟨a,i,j,l,h⟩:=h;refine qDC 5 l [0] rfl ?_;refine qDr [(6,0)] rfl rfl<|gHR 6 (kidsV [a]) rfl (lv a) rfl<|qDr [(7,0)] rfl rfl<|gFR 6 rfl (cN _) rfl rfl<|gS 77 (.agg [qi 17,.str [],.row 1 [],.row 4 (kidsV [a])]) rfl (.agg (.cons .rfl (.cons .rfl (.cons (.nil 1) (.cons .rfl .nil))))) rfl<|qDr [(8,0)] rfl rfl<|gHR 7 (kidsV [(Tree.node 17 [] [] [a])]) rfl (lv (Tree.node 17 [] [] [a])) rfl ?_;obtain⟨q,h⟩:=h;refine bY 9 (.repl 3 (.row 31 4 (kidsV (b++[(Tree.node 17 [] [] [a])])))) rfl (by kernel_rfl) (bm ac rfl rfl rfl rfl rfl (fF b [(Tree.node 17 [] [] [a])]).symm (by rw[aN];exact q)) (okR rfl) rfl (by kernel_rfl) rfl rfl ?_;refine qDr [(10,0),(11,1)] rfl rfl<|qDe<|gR 4 rfl ?_;obtain⟨q,h⟩:=h;exact gR 1 rfl<|gV 69 (qi (c-1)) rfl (an q rfl) rfl<|gR 2 rfl<|go_xloop<|qW G h [0,1,2,8];refine gR 3 rfl<|go_xloopE<|gR 11 rfl<|gFR 3 rfl (cN _) rfl rfl ?_;obtain⟨rfl,rfl,rfl⟩:=h;exact gE G [(1,vB ((Tree.node 16 d [] b).kind) ((Tree.node 16 d [] b).text) ((Tree.node 16 d [] b).leads) ((Tree.node 16 d [] b).kids))] [(4,.ptr 1 0)] [0,1] [.cell 4 31] (hH:=⟨⟨_,rfl,⟨rfl,(.cons .rfl (.cons .rfl (.cons (.nil 1) (.cons .rfl .nil))))⟩⟩,⟨⟨_,rfl,⟨rfl,aH.rfl⟩⟩,trivial⟩⟩)
theorem kP(m:Nat)(p1:Int)(d:List Int)(e:Int)(a:List Tree)(c:Int)(E:Tree)(j:List Int)(f:Int)(h:((0<c)→InI (p1-1)∧∃b g i,aD d e (p1-1) b g i∧(a++[b]).length≤1000000000∧InI (c-1)∧fj m p1 g i (a++[b]) (c-1) E j f)∧((¬0<c)→(Tree.node 18 [] [] a)=E∧d=j∧e=f)):fj (m+1) p1 d e a c E j f:=by
 refine qj λK J G l=>?_;refine gR 7 rfl<|qXd 89 rfl rfl rfl h ?_ ?_<;>intro hd h;refine gR 5 rfl<|qDs [2] 9 10<|qDr [(0,2),(1,3),(2,2),(3,0)] rfl rfl ?_;obtain⟨q,h⟩:=h;refine qDr [(4,0)] rfl rfl<|gV 96 (qi (p1-1)) rfl (an q rfl) rfl ?_;obtain⟨b,g,i,k,h⟩:=h;refine qDC 5 k [0] rfl ?_;refine qDr [(6,0)] rfl rfl<|gHR 6 (kidsV [b]) rfl (lv b) rfl ?_;obtain⟨q,h⟩:=h;refine bY 7 (.repl 3 (.row 31 4 (kidsV (a++[b])))) rfl (by kernel_rfl) (bm ac rfl rfl rfl rfl rfl (fF a [b]).symm (by rw[aN];exact q)) (okR rfl) rfl (by kernel_rfl) rfl rfl ?_;refine qDr [(8,0),(9,1)] rfl rfl<|qDe<|gR 4 rfl ?_;obtain⟨q,h⟩:=h;exact gR 1 rfl<|gV 91 (qi (c-1)) rfl (an q rfl) rfl<|gR 2 rfl<|go_xloop<|qW G h [0,1,2,7];refine gR 3 rfl<|go_xloopE<|gR 11 rfl<|gFR 3 rfl (cN _) rfl rfl ?_;obtain⟨rfl,rfl,rfl⟩:=h;exact gE G [(1,vB ((Tree.node 18 [] [] a).kind) ((Tree.node 18 [] [] a).text) ((Tree.node 18 [] [] a).leads) ((Tree.node 18 [] [] a).kids))] [(4,.ptr 1 0)] [0,1] [.cell 4 31] (hH:=⟨⟨_,rfl,⟨rfl,(.cons .rfl (.cons .rfl (.cons (.nil 1) (.cons .rfl .nil))))⟩⟩,⟨⟨_,rfl,⟨rfl,aH.rfl⟩⟩,trivial⟩⟩)
theorem kB(m:Nat)(p1:Int)(c:List Int)(d b:Int)(E:Tree)(e:List Int)(a:Int)(h:((b=9)→lm m p1 c d E e a)∧((b≠9)→dA m p1 c d b E e a)):fb (m+1) p1 c d b E e a:=by
 intro K q;refine gR 6 rfl<|qBeZ 102 103 rfl rfl rfl rfl h ?_ ?_<;>intro h;exact gR 1 rfl<|qJ q (h K q) [0,1];exact gR 1 rfl<|qJ q (h K q) [0,1]
theorem pb(m:Nat)(p1:Int)(l:List Int)(n:Int)(G:Tree)(o:List Int)(k:Int)(h:InI (p1-1)∧∃a d e,aD l n (p1-1) a d e∧InI (p1-1)∧∃b f g,aD d e (p1-1) b f g∧InI (p1-1)∧∃c i j,aD f g (p1-1) c i j∧(Tree.node 19 [] [] [a,b,c])=G∧i=o∧j=k):lm (m+1) p1 l n G o k:=by
 intro K J;refine gR 4 rfl ?_;obtain⟨E,h⟩:=h;refine gR 1 rfl<|gV 106 (qi (p1-1)) rfl (an E rfl) rfl ?_;obtain⟨a,d,e,p,h⟩:=h;refine qC p [0] ?_;refine gR 2 rfl ?_;obtain⟨E,h⟩:=h;refine gR 1 rfl<|gV 110 (qi (p1-1)) rfl (an E rfl) rfl ?_;obtain⟨b,f,g,q,h⟩:=h;refine qC q [0] ?_;refine gR 2 rfl ?_;obtain⟨E,h⟩:=h;refine gR 1 rfl<|gV 114 (qi (p1-1)) rfl (an E rfl) rfl ?_;obtain⟨c,i,j,r,h⟩:=h;refine qC r [0] ?_;refine gR 1 rfl<|gHR 8 (kidsV [a,b,c]) rfl (sR [a,b,c]) rfl<|gR 7 rfl<|gFR 8 rfl (cN _) rfl rfl ?_;obtain⟨rfl,rfl,rfl⟩:=h;exact gE J [(1,vB ((Tree.node 19 [] [] [a,b,c]).kind) ((Tree.node 19 [] [] [a,b,c]).text) ((Tree.node 19 [] [] [a,b,c]).leads) ((Tree.node 19 [] [] [a,b,c]).kids))] [(4,.ptr 1 0)] [0,1] [.cell 4 31] (hH:=⟨⟨_,rfl,⟨rfl,(.cons .rfl (.cons .rfl (.cons (.nil 1) (.cons .rfl .nil))))⟩⟩,⟨⟨_,rfl,⟨rfl,aH.rfl⟩⟩,trivial⟩⟩)
theorem rL14_semvcsmake_Expr(m:Nat)(p1:Int)(c:List Int)(d a:Int)(E:Tree)(e:List Int)(b:Int)(h:((a=10)→iq m p1 c d a true E e b)∧((a≠10)→iq m p1 c d a (a==11) E e b)):dA (m+1) p1 c d a E e b:=by
 intro K q;refine gR 7 rfl<|qBeZ 118 119 rfl rfl rfl rfl h ?_ ?_<;>intro h;exact gR 3 rfl<|qJ q (h K q) [0,1];exact gR 6 rfl<|qJ q (h K q) [0,1]
theorem ic(m:Nat)(p1:Int)(c:List Int)(d f:Int)(a:Bool)(E:Tree)(e:List Int)(b:Int)(h:((a=true)→iw m p1 c d E e b)∧((a=false)→ff m p1 c d f E e b)):iq (m+1) p1 c d f a E e b:=by
 intro K q;refine qBi 118 rfl rfl rfl h ?_ ?_<;>intro h;exact gR 1 rfl<|qJ q (h K q) [0,1];exact gR 1 rfl<|qJ q (h K q) [0,1]
theorem oA(m:Nat)(p1:Int)(l:List Int)(n:Int)(G:Tree)(o:List Int)(k:Int)(h:∃c d e,aM l n [[120],[121],[122]] c d e∧InI (p1-1)∧∃a f g,aD d e (p1-1) a f g∧InI (p1-1)∧∃b i j,aD f g (p1-1) b i j∧(Tree.node 20 c [] [a,b])=G∧i=o∧j=k):iw (m+1) p1 l n G o k:=by
 intro K J;refine gR 4 rfl<|gFR 2 rfl rfl rfl rfl ?_;obtain⟨c,d,e,p,h⟩:=h;refine qC p [0] ?_;refine gR 2 rfl ?_;obtain⟨E,h⟩:=h;refine gR 1 rfl<|gV 126 (qi (p1-1)) rfl (an E rfl) rfl ?_;obtain⟨a,f,g,q,h⟩:=h;refine qC q [0] ?_;refine gR 2 rfl ?_;obtain⟨E,h⟩:=h;refine gR 1 rfl<|gV 130 (qi (p1-1)) rfl (an E rfl) rfl ?_;obtain⟨b,i,j,r,h⟩:=h;refine qC r [0] ?_;refine gR 1 rfl<|gHR 8 (kidsV [a,b]) rfl (sR [a,b]) rfl<|gR 7 rfl<|gFR 8 rfl (cN _) rfl rfl ?_;obtain⟨rfl,rfl,rfl⟩:=h;exact gE J [(1,vB ((Tree.node 20 c [] [a,b]).kind) ((Tree.node 20 c [] [a,b]).text) ((Tree.node 20 c [] [a,b]).leads) ((Tree.node 20 c [] [a,b]).kids))] [(4,.ptr 1 0)] [0,1] [.cell 4 31] (hH:=⟨⟨_,rfl,⟨rfl,(.cons .rfl (.cons .rfl (.cons (.nil 1) (.cons .rfl .nil))))⟩⟩,⟨⟨_,rfl,⟨rfl,aH.rfl⟩⟩,trivial⟩⟩)
theorem hI(m:Nat)(p1:Int)(e:List Int)(f g:Int)(q:Tree)(i:List Int)(b:Int)(h:((g=12)→lh m p1 e f q i b)∧((g≠12)→InI (p1-1)∧∃a c d,aD e f (p1-1) a c d∧(Tree.node 22 [] [] [a])=q∧c=i∧d=b)):ff (m+1) p1 e f g q i b:=by
 intro K E;refine gR 6 rfl<|qBeZ 134 135 rfl rfl rfl rfl h ?_ ?_<;>intro h;exact gR 1 rfl<|qJ E (h K E) [0,1];refine gR 8 rfl ?_;obtain⟨G,h⟩:=h;refine gR 1 rfl<|gV 164 (qi (p1-1)) rfl (an G rfl) rfl ?_;obtain⟨a,c,d,j,h⟩:=h;refine qC j [0] ?_;refine gR 1 rfl<|gHR 4 (kidsV [a]) rfl (lv a) rfl<|gR 5 rfl<|gFR 4 rfl (cN _) rfl rfl ?_;obtain⟨rfl,rfl,rfl⟩:=h;exact gE E [(1,vB ((Tree.node 22 [] [] [a]).kind) ((Tree.node 22 [] [] [a]).text) ((Tree.node 22 [] [] [a]).leads) ((Tree.node 22 [] [] [a]).kids))] [(4,.ptr 1 0)] [0,1] [.cell 4 31] (hH:=⟨⟨_,rfl,⟨rfl,(.cons .rfl (.cons .rfl (.cons (.nil 1) (.cons .rfl .nil))))⟩⟩,⟨⟨_,rfl,⟨rfl,aH.rfl⟩⟩,trivial⟩⟩)
theorem kJ(m:Nat)(p1:Int)(α:List Int)(β:Int)(G:Tree)(z:List Int)(t:Int)(h:∃d v w,aM α β [[43],[45],[42],[60],[61,61]] d v w∧InI (p1-1)∧∃a x y,dk v w (p1-1) a x y∧∃g i j,ay x y 3 g i j∧((g=0)→∃c k l,aM i j [[43],[42]] c k l∧∃b n o,dk k l 0 b n o∧InI (p1-1)∧∃e p q,dk n o (p1-1) e p q∧(Tree.node 21 d [] [(Tree.node 21 c [] [a,b]),e])=G∧p=z∧q=t)∧((g≠0)→InI (p1-1)∧∃f r s,dk i j (p1-1) f r s∧(Tree.node 21 d [] [a,f])=G∧r=z∧s=t)):lh (m+1) p1 α β G z t:=by
 intro K J;refine gR 4 rfl<|gFR 2 rfl rfl rfl rfl ?_;obtain⟨d,v,w,γ,h⟩:=h;refine qC γ [0] ?_;refine gR 7 rfl ?_;obtain⟨E,h⟩:=h;refine gR 1 rfl<|gV 141 (qi (p1-1)) rfl (an E rfl) rfl ?_;obtain⟨a,x,y,δ,h⟩:=h;refine qC δ [0] ?_;refine gR 8 rfl ?_;obtain⟨g,i,j,ε,h⟩:=h;refine qC ε [0] ?_;refine gR 3 rfl<|qBe 145 rfl rfl rfl h ?_ ?_<;>intro h;refine gR 1 rfl<|qDs [6] 8 9<|qDr [(0,2),(3,3),(4,2),(1,0)] rfl rfl<|gFR 8 rfl rfl rfl rfl ?_;obtain⟨c,k,l,ζ,h⟩:=h;refine qDC 2 ζ [0] rfl ?_;obtain⟨b,n,o,η,h⟩:=h;refine qDC 5 η [0] rfl ?_;refine qDr [(6,0)] rfl rfl<|gHR 12 (kidsV [a,b]) rfl (sR [a,b]) rfl<|qDr [(7,0),(8,1)] rfl rfl<|qDe<|gR 2 rfl<|qDs [6] 8 9<|qDr [(0,2),(1,3),(2,2),(3,0)] rfl rfl ?_;obtain⟨E,h⟩:=h;refine qDr [(4,0)] rfl rfl<|gV 158 (qi (p1-1)) rfl (an E rfl) rfl ?_;obtain⟨e,p,q,θ,h⟩:=h;refine qDC 5 θ [0] rfl ?_;refine gFR 12 rfl (cN _) rfl rfl<|gS 155 (.agg [qi 21,.str c,.row 1 [],.row 4 (kidsV [a,b])]) rfl (.agg (.cons .rfl (.cons .rfl (.cons (.nil 1) (.cons .rfl .nil))))) rfl<|qDr [(6,0)] rfl rfl<|gHR 15 (kidsV [(Tree.node 21 c [] [a,b]),e]) rfl (sR [(Tree.node 21 c [] [a,b]),e]) rfl<|qDr [(7,0),(8,1)] rfl rfl<|qDe<|gR 4 rfl<|gFR 15 rfl (cN _) rfl rfl ?_;obtain⟨rfl,rfl,rfl⟩:=h;exact gE J [(1,vB ((Tree.node 21 d [] [(Tree.node 21 c [] [a,b]),e]).kind) ((Tree.node 21 d [] [(Tree.node 21 c [] [a,b]),e]).text) ((Tree.node 21 d [] [(Tree.node 21 c [] [a,b]),e]).leads) ((Tree.node 21 d [] [(Tree.node 21 c [] [a,b]),e]).kids))] [(4,.ptr 1 0)] [0,1] [.cell 4 31] (hH:=⟨⟨_,rfl,⟨rfl,(.cons .rfl (.cons .rfl (.cons (.nil 1) (.cons .rfl .nil))))⟩⟩,⟨⟨_,rfl,⟨rfl,aH.rfl⟩⟩,trivial⟩⟩);refine gR 4 rfl<|qDs [6] 8 9<|qDr [(0,2),(1,3),(2,2),(3,0)] rfl rfl ?_;obtain⟨E,h⟩:=h;refine qDr [(4,0)] rfl rfl<|gV 158 (qi (p1-1)) rfl (an E rfl) rfl ?_;obtain⟨f,r,s,ι,h⟩:=h;refine qDC 5 ι [0] rfl ?_;refine qDr [(6,0)] rfl rfl<|gHR 10 (kidsV [a,f]) rfl (sR [a,f]) rfl<|qDr [(7,0),(8,1)] rfl rfl<|qDe<|gR 4 rfl<|gFR 10 rfl (cN _) rfl rfl ?_;obtain⟨rfl,rfl,rfl⟩:=h;exact gE J [(1,vB ((Tree.node 21 d [] [a,f]).kind) ((Tree.node 21 d [] [a,f]).text) ((Tree.node 21 d [] [a,f]).leads) ((Tree.node 21 d [] [a,f]).kids))] [(4,.ptr 1 0)] [0,1] [.cell 4 31] (hH:=⟨⟨_,rfl,⟨rfl,(.cons .rfl (.cons .rfl (.cons (.nil 1) (.cons .rfl .nil))))⟩⟩,⟨⟨_,rfl,⟨rfl,aH.rfl⟩⟩,trivial⟩⟩)
def gp(m:Nat)(a:List UInt8)(c:List Int)(d:Int)(e:List Tree)(f:Int)(E:Tree)(g:List Int)(b:Int):Prop:=∀(K:Ctx) (q:Nat),ar K [0]→m≤q→qLG K f49 (λu G=>u=.agg (ak E)∧G=⟨2,[(0,vA g b)]⟩) (xN (ae f49)) [.loop (xN (ae f49)) q,.blk 0,.seq (xJ (ae f49))] 47 (mkF 47 0 [(0,.ptr 0 0),(2,.ptr 1 0),(3,.ptr 2 0),(4,qi f)]) ⟨4,[(3,.row 31 4 (kidsV e)),(2,.var 31 [qi 2,.str a,.nils,.sl 3]),(1,vC 0 []),(0,vA c d)]⟩
theorem mq(m:Nat)(v:List Int)(o:Int)(r0:Tree)(p:List Int)(c:Int)(h:∃k l n,ay v o 5 k l n∧((k=0)→∃b q r,aM l n [[84],[85]] b q r∧∃a s t,bK q r 2 a s t∧(Tree.node 3 b [] [a])=r0∧s=p∧t=c)∧((k≠0)→∃d e f,aM l n [[102],[103],[104]] d e f∧∃g i j,ay e f 4 g i j∧gp m d i j ([]:List Tree) g r0 p c)):ke v o r0 p c:=by
 refine qA 47 [0] func49 λK hK=>?_;refine gR 9 rfl ?_;obtain⟨k,l,n,w,h⟩:=h;refine qC w [0] ?_;refine gR 3 rfl<|qXe 7 rfl rfl rfl h ?_ ?_<;>intro hd h;refine gR 5 rfl<|gFR 3 rfl rfl rfl rfl ?_;obtain⟨b,q,r,x,h⟩:=h;refine qC x [0] ?_;refine gR 1 rfl ?_;obtain⟨a,s,t,y,h⟩:=h;refine qC y [0] ?_;refine gR 1 rfl<|gHR 7 (kidsV [a]) rfl (lv a) rfl<|gR 6 rfl<|gFR 7 rfl (cN _) rfl rfl ?_;obtain⟨rfl,rfl,rfl⟩:=h;exact gE hK [(1,vB ((Tree.node 3 b [] [a]).kind) ((Tree.node 3 b [] [a]).text) ((Tree.node 3 b [] [a]).leads) ((Tree.node 3 b [] [a]).kids))] [(2,.ptr 1 0)] [0,1] [.cell 2 31] (hH:=⟨⟨_,rfl,⟨rfl,(.cons .rfl (.cons .rfl (.cons (.nil 1) (.cons .rfl .nil))))⟩⟩,⟨⟨_,rfl,⟨rfl,aH.rfl⟩⟩,trivial⟩⟩);refine gR 7 rfl<|gFR 3 rfl rfl rfl rfl ?_;obtain⟨d,e,f,z,h⟩:=h;refine qC z [0] ?_;refine gR 9 rfl ?_;obtain⟨g,i,j,α,h⟩:=h;refine qC α [0] ?_;exact gR 4 rfl<|go_loop m<|gNC 5 3 31 4 rfl rfl rfl rfl<|qW hK h [0,1,5,7]
theorem lT(m:Nat)(e:List UInt8)(l:List Int)(n:Int)(b:List Tree)(g:Int)(G:Tree)(o:List Int)(i:Int)(h:((0<g)→∃f p q,aM l n [[120],[121],[122]] f p q∧∃c r s,bK p q 1 c r s∧(b++[(Tree.node 4 f [] [c])]).length≤1000000000∧InI (g-1)∧gp m e r s (b++[(Tree.node 4 f [] [c])]) (g-1) G o i)∧((¬0<g)→∃d t v,bK l n 1 d t v∧∃a j k,aD t v 3 a j k∧(b++[d,a]).length≤1000000000∧(Tree.node 2 e [] (b++[d,a]))=G∧j=o∧k=i)):gp (m+1) e l n b g G o i:=by
 refine qj λK O J α=>?_;refine gR 7 rfl<|qXd 22 rfl rfl rfl h ?_ ?_<;>intro hd h;refine gR 5 rfl<|qDs [2] 12 13<|qDr [(0,2),(1,3),(2,2),(5,2),(3,0)] rfl rfl<|gFR 4 rfl rfl rfl rfl ?_;obtain⟨f,p,q,w,h⟩:=h;refine qDC 4 w [0] rfl ?_;obtain⟨c,r,s,x,h⟩:=h;refine qDC 6 x [0] rfl ?_;refine qDr [(7,0)] rfl rfl<|gHR 8 (kidsV [c]) rfl (lv c) rfl<|qDr [(8,0)] rfl rfl<|gFR 8 rfl (cN _) rfl rfl<|gS 33 (.agg [qi 4,.str f,.row 1 [],.row 4 (kidsV [c])]) rfl (.agg (.cons .rfl (.cons .rfl (.cons (.nil 1) (.cons .rfl .nil))))) rfl<|qDr [(9,0)] rfl rfl<|gHR 9 (kidsV [(Tree.node 4 f [] [c])]) rfl (lv (Tree.node 4 f [] [c])) rfl ?_;obtain⟨E,h⟩:=h;refine bY 10 (.repl 3 (.row 31 4 (kidsV (b++[(Tree.node 4 f [] [c])])))) rfl (by kernel_rfl) (bm ac rfl rfl rfl rfl rfl (fF b [(Tree.node 4 f [] [c])]).symm (by rw[aN];exact E)) (okR rfl) rfl (by kernel_rfl) rfl rfl ?_;refine qDr [(11,0),(12,1)] rfl rfl<|qDe<|gR 4 rfl ?_;obtain⟨E,h⟩:=h;exact gR 1 rfl<|gV 24 (qi (g-1)) rfl (an E rfl) rfl<|gR 2 rfl<|go_xloop<|qW J h [0,1,2,10];refine gR 3 rfl<|go_xloopE<|gR 3 rfl<|qDs [2] 9 10<|qDr [(0,2),(1,3),(2,2),(4,2)] rfl rfl ?_;obtain⟨d,t,v,y,h⟩:=h;refine qDC 3 y [0] rfl ?_;obtain⟨a,j,k,z,h⟩:=h;refine qDC 5 z [0] rfl ?_;refine qDr [(6,0)] rfl rfl<|gHR 8 (kidsV [d,a]) rfl (sR [d,a]) rfl ?_;obtain⟨E,h⟩:=h;refine bY 7 (.repl 3 (.row 31 4 (kidsV (b++[d,a])))) rfl (by kernel_rfl) (bm ac rfl rfl rfl rfl rfl (fF _ _).symm (by rw[aN];exact E)) (okR rfl) rfl (by kernel_rfl) rfl rfl ?_;refine qDr [(8,0),(9,1)] rfl rfl<|qDe<|gR 8 rfl<|gFR 9 rfl (cN _) rfl rfl ?_;obtain⟨rfl,rfl,rfl⟩:=h;exact gE J [(1,vB ((Tree.node 2 e [] (b++[d,a])).kind) ((Tree.node 2 e [] (b++[d,a])).text) ((Tree.node 2 e [] (b++[d,a])).leads) ((Tree.node 2 e [] (b++[d,a])).kids))] [(2,.ptr 1 0)] [0,1] [.cell 2 31] (hH:=⟨⟨_,rfl,⟨rfl,(.cons .rfl (.cons .rfl (.cons (.nil 1) (.cons .rfl .nil))))⟩⟩,⟨⟨_,rfl,⟨rfl,aH.rfl⟩⟩,trivial⟩⟩)
def cC(m:Nat)(p1:Tree)(b:List Int)(c:Int)(d:(List (List UInt8)))(e:Nat)(E:Tree)(f:List Int)(a:Int):Prop:=∀(K:Ctx) (q:Nat),ar K [0]→m≤q→qLG K f51 (λu G=>u=.agg (ak E)∧G=⟨2,[(0,vA f a)]⟩) (xI (ae f51)) [.loop (xI (ae f51)) q,.blk 0,.seq (xH (ae f51))] 53 (mkF 53 0 [(0,.ptr 0 0),(3,.ptr 1 0),(4,.ptr 2 0),(5,qi (e:Int))]) ⟨4,[(3,.row 9 1 (List.map V.str d)),(2,vC 0 []),(1,.var 31 [qi p1.kind,.str p1.text,.sl 3,.row 4 (kidsV p1.kids)]),(0,vA b c)]⟩
def dv(m:Nat)(p1:Tree)(b:List Int)(c:Int)(d:List Tree)(e:Nat)(f:(List (List UInt8)))(E:Tree)(g:List Int)(a:Int):Prop:=∀(K:Ctx) (q:Nat),ar K [0]→m≤q→qLG K f51 (λu G=>u=.agg (ak E)∧G=⟨2,[(0,vA g a)]⟩) (xI (xA (ae f51))) [.loop (xI (xA (ae f51))) q,.blk 2,.seq (xA (xH (ae f51)))] 53 (mkF 53 0 [(0,.ptr 0 0),(3,.ptr 1 0),(4,.ptr 2 0),(6,qi (e:Int))]) ⟨5,[(4,.row 31 4 (kidsV d)),(3,.row 9 1 (List.map V.str f)),(2,vC 0 []),(1,.var 31 [qi p1.kind,.str p1.text,.sl 3,.sl 4]),(0,vA b c)]⟩
theorem pr(m:Nat)(c:List Int)(a:Int)(p1 r0:Tree)(d:List Int)(b:Int)(h:p1.leads.length≤1000000000∧cC m p1 c a p1.leads 0 r0 d b):fO c a p1 r0 d b:=by
 refine qA 53 [0] func51 λK hK=>?_;refine gR 11 rfl ?_;obtain⟨hb,h⟩:=h;exact gDo (.repl 3 (.row 9 1 (List.map V.str p1.leads))) (bm ac rfl rfl rfl rfl rfl (List.nil_append _) (by rw[ax];exact hb)) (okR rfl) rfl rfl rfl<|gR 11 rfl<|go_loop m<|qW hK h [0,1,2,4]
theorem ia(m:Nat)(p1:Tree)(l:List Int)(n:Int)(b:(List (List UInt8)))(a:Nat)(r0:Tree)(e:List Int)(c:Int)(h:((a<b.length)→∃g i j,ay l n 9 g i j∧((g=1)→∃d o p,aM i j [[32,35,32,99,10],[32,32],[10,9],[35,10]] d o p∧∃q,b[a]?=some q∧cC m p1 o p (b.set a d) (a+1) r0 e c)∧((g≠1)→cC m p1 i j b (a+1) r0 e c))∧((¬a<b.length)→p1.kids.length≤1000000000∧dv m p1 l n p1.kids 0 b r0 e c)):cC (m+1) p1 l n b a r0 e c:=by
 refine qj λK j1 hK v=>?_;refine gR 7 rfl<|gV 15 (qi (b.length:Int)) rfl (aW (ax V.str _)) rfl<|gLO 3 rfl (ax V.str _) λr=>gR 3 rfl<|qXh 16 rfl rfl rfl h ec ej ?_ ?_<;>intro hd h;refine gR 8 rfl ?_;obtain⟨g,i,j,s,h⟩:=h;refine qC s [0] ?_;refine gR 3 rfl<|qXe 21 rfl rfl rfl h ?_ ?_<;>intro hd h;refine gR 1 rfl<|qDs [1] 7 8<|qDr [(0,2),(1,3),(2,2),(3,2),(4,0)] rfl rfl<|gFR 5 rfl rfl rfl rfl ?_;obtain⟨d,o,p,t,h⟩:=h;refine qDC 5 t [0] rfl ?_;obtain⟨q,k,h⟩:=h;refine dI 6 rfl (by kernel_rfl) (yIO ac rfl rfl rfl rfl (qG (au (f:=V.str) k))) rfl rfl ?_;refine bY 7 (.set 3 (.row 9 1 (List.map V.str (b.set a d)))) rfl (by kernel_rfl) (dSe ac rfl rfl rfl rfl (au (f:=V.str) k) rfl (mN V.str b a d)) (okS rfl) rfl (by kernel_rfl) rfl rfl ?_;exact qDe<|gR 5 rfl<|gV 18 (qi ((a+1:Nat):Int)) rfl (an (by have :=r;omega) (by omega)) rfl<|gR 2 rfl<|go_xloop<|qW hK h [0,1,2,3];exact gR 7 rfl<|gV 18 (qi ((a+1:Nat):Int)) rfl (an (by have :=r;omega) (by omega)) rfl<|gR 2 rfl<|go_xloop<|qW hK h [0,1,2,3];refine gR 3 rfl<|go_xloopE<|gR 7 rfl ?_;obtain⟨hb,h⟩:=h;exact gDo (.repl 4 (.row 31 4 (kidsV p1.kids))) (bm ac rfl rfl rfl rfl rfl (List.nil_append _) (by rw[aN];exact hb)) (okR rfl) rfl rfl rfl<|gR 11 rfl<|go_loop m<|qW hK h [0,1,2,3,5]
theorem lc(m:Nat)(p1:Tree)(i:List Int)(j:Int)(a:List Tree)(b:Nat)(c:(List (List UInt8)))(E:Tree)(k:List Int)(e:Int)(h:((b<a.length)→∃l,a[b]?=some l∧∃d n o,fO i j l d n o∧∃p,a[b]?=some p∧dv m p1 n o (a.set b d) (b+1) c E k e)∧((¬b<a.length)→(Tree.node p1.kind p1.text c a)=E∧i=k∧j=e)):dv (m+1) p1 i j a b c E k e:=by
 refine qj λK J G s=>?_;refine gR 7 rfl<|gV 37 (qi (a.length:Int)) rfl (aW (aN _)) rfl<|gLO 4 rfl (aN _) λq=>gR 3 rfl<|qXh 38 rfl rfl rfl h ec ej ?_ ?_<;>intro hd h;refine gR 5 rfl<|qDs [1,4] 11 12<|qDr ((0,2)::(1,3)::(qR 2 3 2 [(5,3),(6,0)])) rfl rfl ?_;obtain⟨l,f,h⟩:=h;refine dI 7 rfl (by kernel_rfl) (yIO ac rfl rfl rfl rfl (by have :=(aq f);exact(List.getElem?_eq_some_iff.1 this).1)) rfl rfl ?_;refine bY 8 (.nop) rfl (by kernel_rfl) (dLe ac rfl rfl rfl (aq f) rfl) trivial rfl (by kernel_rfl) rfl rfl ?_;obtain⟨d,n,o,r,h⟩:=h;refine qDC 9 r [0] rfl ?_;obtain⟨p,g,h⟩:=h;refine dI 10 rfl (by kernel_rfl) (yIO ac rfl rfl rfl rfl (by have :=(aq g);exact(List.getElem?_eq_some_iff.1 this).1)) rfl rfl ?_;refine bY 11 (.set 4 (.row 31 4 (kidsV (a.set b d)))) rfl (by kernel_rfl) (dSe ac rfl rfl rfl rfl (aq g) rfl (Bx a b d)) (okS rfl) rfl (by kernel_rfl) rfl rfl ?_;exact qDe<|gR 5 rfl<|gV 40 (qi ((b+1:Nat):Int)) rfl (an (by have :=q;omega) (by omega)) rfl<|gR 2 rfl<|go_xloop<|qW G h [0,1,2,3,4];refine gR 3 rfl<|go_xloopE<|gR 9 rfl<|gFR 3 rfl (ie _ (λ_=>rfl) _) rfl rfl<|gFR 4 rfl (cN _) rfl rfl ?_;obtain⟨rfl,rfl,rfl⟩:=h;exact gE G [(1,vB ((Tree.node p1.kind p1.text c a).kind) ((Tree.node p1.kind p1.text c a).text) ((Tree.node p1.kind p1.text c a).leads) ((Tree.node p1.kind p1.text c a).kids))] [(4,.ptr 1 0)] [0,2] [.cell 4 31]
def eL(m:Nat)(p1:List UInt8)(b:List Int)(c:Int)(d:List Tree)(e:Int)(E:Tree)(f:List Int)(a:Int):Prop:=∀(K:Ctx) (q:Nat),ar K [0]→m≤q→qLG K Tryz.f30 (λu G=>u=.agg (ak E)∧G=⟨2,[(0,vA f a)]⟩) (xI (ae Tryz.f30)) [.loop (xI (ae Tryz.f30)) q,.blk 0,.seq (xH (ae Tryz.f30))] 31 (mkF 31 0 [(0,.ptr 0 0),(4,.ptr 1 0),(5,.ptr 2 0),(6,qi e)]) ⟨4,[(3,.row 31 4 (kidsV d)),(2,.var 31 [qi 1,.str p1,.nils,.sl 3]),(1,vC 0 []),(0,vA b c)]⟩
theorem pd(m:Nat)(f:List Int)(a:Int)(p1:List UInt8)(r0:Tree)(g:List Int)(b:Int)(h:∃c d e,ay f a 4 c d e∧eL m p1 d e ([]:List Tree) c r0 g b):iv f a p1 r0 g b:=by
 refine qA 31 [0] func30 λK hK=>?_;refine gR 17 rfl ?_;obtain⟨c,d,e,i,h⟩:=h;refine qC i [0] ?_;exact gR 4 rfl<|go_loop m<|gNC 2 3 31 4 rfl rfl rfl rfl<|qW hK h [0,1,2,4]
theorem gu(m:Nat)(p1:List UInt8)(n:List Int)(o:Int)(d:List Tree)(e:Int)(E:Tree)(i:List Int)(f:Int)(h:((0<e)→∃a p q,ke n o a p q∧(d++[a]).length≤1000000000∧InI (e-1)∧eL m p1 p q (d++[a]) (e-1) E i f)∧((¬0<e)→∃b,gK (Tree.node 1 p1 [] d) b∧∃j k l,ay n o 2 j k l∧((j=0)→∃c r g,fO k l b c r g∧c=E∧r=i∧g=f)∧((j≠0)→b=E∧k=i∧l=f))):eL (m+1) p1 n o d e E i f:=by
 refine qj λK O G x=>?_;refine gR 7 rfl<|qXd 12 rfl rfl rfl h ?_ ?_<;>intro hd h;refine gR 5 rfl<|qDs [2] 7 8<|qDr [(0,2),(1,3),(2,0)] rfl rfl ?_;obtain⟨a,p,q,s,h⟩:=h;refine qDC 3 s [0] rfl ?_;refine qDr [(4,0)] rfl rfl<|gHR 6 (kidsV [a]) rfl (lv a) rfl ?_;obtain⟨J,h⟩:=h;refine bY 5 (.repl 3 (.row 31 4 (kidsV (d++[a])))) rfl (by kernel_rfl) (bm ac rfl rfl rfl rfl rfl (fF d [a]).symm (by rw[aN];exact J)) (okR rfl) rfl (by kernel_rfl) rfl rfl ?_;refine qDr [(6,0),(7,1)] rfl rfl<|qDe<|gR 4 rfl ?_;obtain⟨J,h⟩:=h;exact gR 1 rfl<|gV 14 (qi (e-1)) rfl (an J rfl) rfl<|gR 2 rfl<|go_xloop<|qW G h [0,1,2,7];refine gR 3 rfl<|go_xloopE<|gR 5 rfl<|gFR 3 rfl (cN _) rfl rfl ?_;obtain⟨b,t,h⟩:=h;refine gC0 t (by kernel_rfl) rfl rfl (.cons (.agg (.cons .rfl (.cons .rfl (.cons (.nil 1) (.cons .rfl .nil))))) .nil) rfl<|gR 7 rfl ?_;obtain⟨j,k,l,v,h⟩:=h;refine qC v [0] ?_;refine gR 3 rfl<|qXe 26 rfl rfl rfl h ?_ ?_<;>intro hd h;refine gR 4 rfl ?_;obtain⟨c,r,g,w,h⟩:=h;refine qC w [0] ?_;refine gR 10 rfl ?_;obtain⟨rfl,rfl,rfl⟩:=h;exact gE G [(1,vB c.kind c.text c.leads c.kids)] [(4,.ptr 1 0)] [0,1] [.cell 4 31];refine gR 10 rfl ?_;obtain⟨rfl,rfl,rfl⟩:=h;exact gE G [(1,vB b.kind b.text b.leads b.kids)] [(4,.ptr 1 0)] [0,1] [.cell 4 31]
def bf(m:Nat)(a:List Int)(b:Int)(c:List Tree)(d:Int)(E:List Tree):Prop:=∀(K:Ctx) (q:Nat),ar K []→m≤q→qLG K f15 (λu _=>u=.row 4 (kidsV E)) (xI (xA (ae f15))) [.loop (xI (xA (ae f15))) q,.blk 0,.seq (xA (xH (ae f15)))] 35 (mkF 35 0 [(3,.ptr 0 0),(4,.sl 1),(5,.sl 2),(6,qi d)]) ⟨3,[(2,.row 9 1 [.str [65],.str [66],.str [67]]),(1,.row 31 4 (kidsV c)),(0,vA a b)]⟩
theorem nR(m:Nat)(p0:List Int)(r0:List Tree)(h:∃a b,mo p0 a b∧∃c d e,ay a b 4 c d e∧bf m d e ([]:List Tree) c r0):hJ p0 r0:=by
 refine⟨rfl,rfl,?_⟩;refine qA 35 [] func15 λK hK=>?_;refine gR 8 rfl ?_;obtain⟨a,b,f,h⟩:=h;refine qC f [] ?_;refine gR 18 rfl ?_;obtain⟨c,d,e,g,h⟩:=h;refine qC g [0] ?_;exact gR 4 rfl<|go_loop m<|gNS 4 31 4 rfl rfl rfl rfl<|qW hK h [0,3,1]
theorem gh(m:Nat)(p:List Int)(q:Int)(c:List Tree)(b:Int)(G:List Tree)(h:((0<b)→∃l,[[65],[66],[67]][c.length]?=some l∧∃a n o,iv p q l a n o∧∃g d e,ay n o 8 g d e∧((g=7)→∃i,dw (Tree.node a.kind [65] a.leads a.kids) i∧((i=true)→(c++[(Tree.node a.kind [65] a.leads a.kids)]).length≤1000000000∧InI (b-1)∧bf m d e (c++[(Tree.node a.kind [65] a.leads a.kids)]) (b-1) G)∧((i=false)→InI (b-1)∧bf m d e c (b-1) G))∧((g≠7)→∃j,dw a j∧((j=true)→(c++[a]).length≤1000000000∧InI (b-1)∧bf m d e (c++[a]) (b-1) G)∧((j=false)→InI (b-1)∧bf m d e c (b-1) G)))∧((¬0<b)→c=G)):bf (m+1) p q c b G:=by
 refine qj λK O J x=>?_;refine gR 7 rfl<|qXd 14 rfl rfl rfl h ?_ ?_<;>intro hd h;refine gR 11 rfl<|gV 20 (qi (c.length:Int)) rfl (aW (aN _)) rfl<|gLO 1 rfl (aN _) λw=>?_;obtain⟨l,k,h⟩:=h;refine gY (yIO ac rfl rfl rfl rfl (qG (au (f:=V.str) k))) rfl rfl ?_;refine gDo (.nop) (dLe ac rfl rfl rfl (au (f:=V.str) k) rfl) trivial rfl rfl rfl ?_;obtain⟨a,n,o,r,h⟩:=h;refine qC r [0] ?_;refine gR 8 rfl ?_;obtain⟨g,d,e,s,h⟩:=h;refine qC s [0] ?_;refine gR 3 rfl<|qXe 26 rfl rfl rfl h ?_ ?_<;>intro hd h;refine gR 9 rfl ?_;obtain⟨i,t,h⟩:=h;refine qC0 t rfl<|gR 2 rfl<|qXi 29 rfl rfl rfl h ?_ ?_<;>intro hd h;refine gR 5 rfl<|gHR 7 (kidsV [(Tree.node a.kind [65] a.leads a.kids)]) rfl (lv (Tree.node a.kind [65] a.leads a.kids)) rfl ?_;obtain⟨E,h⟩:=h;refine gDo (.repl 1 (.row 31 4 (kidsV (c++[(Tree.node a.kind [65] a.leads a.kids)])))) (bm ac rfl rfl rfl rfl rfl (fF c [(Tree.node a.kind [65] a.leads a.kids)]).symm (by rw[aN];exact E)) (okR rfl) rfl rfl rfl<|gR 6 rfl ?_;obtain⟨E,h⟩:=h;exact gR 1 rfl<|gV 16 (qi (b-1)) rfl (an E rfl) rfl<|gR 2 rfl<|go_xloop<|qW J h [0,8,2];refine gR 6 rfl ?_;obtain⟨E,h⟩:=h;exact gR 1 rfl<|gV 16 (qi (b-1)) rfl (an E rfl) rfl<|gR 2 rfl<|go_xloop<|qW J h [0,1,2];refine gR 6 rfl ?_;obtain⟨j,v,h⟩:=h;refine qC0 v rfl<|gR 2 rfl<|qXi 29 rfl rfl rfl h ?_ ?_<;>intro hd h;refine gR 5 rfl<|gHR 7 (kidsV [a]) rfl (lv a) rfl ?_;obtain⟨E,h⟩:=h;refine gDo (.repl 1 (.row 31 4 (kidsV (c++[a])))) (bm ac rfl rfl rfl rfl rfl (fF c [a]).symm (by rw[aN];exact E)) (okR rfl) rfl rfl rfl<|gR 6 rfl ?_;obtain⟨E,h⟩:=h;exact gR 1 rfl<|gV 16 (qi (b-1)) rfl (an E rfl) rfl<|gR 2 rfl<|go_xloop<|qW J h [0,8,2];refine gR 6 rfl ?_;obtain⟨E,h⟩:=h;exact gR 1 rfl<|gV 16 (qi (b-1)) rfl (an E rfl) rfl<|gR 2 rfl<|go_xloop<|qW J h [0,1,2];refine gR 3 rfl<|go_xloopE<|gR 9 rfl<|gFR 1 rfl (cN _) rfl rfl ?_;subst h;exact qN [.tmp 2]
theorem jg(m:Nat)(b:List Int)(a p1 q:Int)(g:List Int)(c:Int)(h:(((b.length:Int)≤a)→0=q∧b=g∧a=c)∧((¬(b.length:Int)≤a)→InI (a+1)∧InI ((a+1)-1)∧∃d,((a+1)-1)=((d:Nat):Int)∧∃i,b[d]?=some i∧∃e,hW i p1 e∧e=q∧b=g∧(a+1)=c)):ay b a p1 q g c:=by
 refine qA 35 [0] func29 λK G=>?_;refine gR 7 rfl<|qDs [0] 10 10<|qDr (qR 0 3 2 ((3,3)::(qR 4 5 0 []))) rfl rfl<|gV 13 (qi (b.length:Int)) rfl (aW (ax (V.int .i64) _)) rfl<|gLB 12 rfl (ax (V.int .i64) _) λn=>qDr [(9,0)] rfl rfl<|qDe<|gR 1 rfl<|qBd 14 rfl rfl rfl h ?_ ?_<;>intro h;refine gR 8 rfl ?_;obtain⟨rfl,rfl,rfl⟩:=h;exact gE G [] [(4,qi 0)] [0] [.tmp 4];refine gR 9 rfl ?_;obtain⟨E,h⟩:=h;refine gR 1 rfl<|gV 19 (qi (a+1)) rfl (an E rfl) rfl<|gR 6 rfl<|qDs [0] 13 14<|qDr (qR 0 3 2 ((3,3)::(qR 4 3 2 [(7,3)]))) rfl rfl ?_;obtain⟨E,h⟩:=h;refine qDr [(8,2)] rfl rfl<|gV 30 (qi ((a+1)-1)) rfl (an E rfl) rfl ?_;obtain⟨d,k,h⟩:=h;refine gV 30 (qi ((d:Nat):Int)) rfl (ds k) rfl ?_;obtain⟨i,j,h⟩:=h;refine gYd 9 rfl (by kernel_rfl) (aG (au (f:=(V.int .i64)) j) ac rfl rfl rfl rfl) rfl rfl<|qDr [(10,2),(11,0)] rfl rfl ?_;obtain⟨e,l,h⟩:=h;refine bD 12 l (by kernel_rfl) rfl (by kernel_rfl) rfl rfl .rfl rfl rfl ?_;refine qDr [(13,1)] rfl rfl<|qDe<|gR 2 rfl ?_;obtain⟨rfl,rfl,rfl⟩:=h;exact gE G [] [(4,qi e)] [0] [.tmp 4]
def dT(m:Nat)(E:Int)(a:(List (List UInt8)))(b:Nat)(J:(List (List UInt8))):Prop:=∀(K:Ctx) (q:Nat),ar K []→m≤q→qLG K f98 (λu G=>u=.sl 0∧G=⟨1,[(0,.row 9 1 (List.map V.str J))]⟩) (xI (ae f98)) [.loop (xI (ae f98)) q,.blk 0,.seq (xH (ae f98))] 14 (mkF 14 0 [(0,qi E),(3,.sl 0),(4,qi (b:Int))]) ⟨1,[(0,.row 9 1 (List.map V.str a))]⟩
theorem od(m:Nat)(p0:Int)(r0:(List (List UInt8)))(h:dT m p0 ([]:List (List UInt8)) 0 r0):hO p0 r0:=by
 refine qA 14 [] func98 λK hK=>?_;exact gR 17 rfl<|go_loop m<|gNS 3 9 1 rfl rfl rfl rfl<|qW hK h [0]
theorem gi(m:Nat)(q:Int)(a:(List (List UInt8)))(b:Nat)(E:(List (List UInt8)))(h:(((b:Int)<q)→(a++[[32]]).length≤1000000000∧b+1≤9223372036854775807∧dT m q (a++[[32]]) (b+1) E)∧((¬(b:Int)<q)→a=E)):dT (m+1) q a b E:=by
 refine qj λK O G c=>?_;refine gR 8 rfl<|qXd 7 rfl rfl rfl h ?_ ?_<;>intro hd h;refine gR 8 rfl ?_;obtain⟨J,h⟩:=h;refine gDo (.repl 0 (.row 9 1 (List.map V.str (a++[[32]])))) (bm ac rfl rfl rfl rfl rfl (apM V.str a [32]) (by rw[ax];exact J)) (okR rfl) rfl rfl rfl<|gR 6 rfl ?_;obtain⟨J,h⟩:=h;exact gR 1 rfl<|gV 9 (qi ((b+1:Nat):Int)) rfl (an (by omega) (by omega)) rfl<|gR 2 rfl<|go_xloop<|qW G h [2];refine gR 3 rfl<|go_xloopE<|gR 9 rfl ?_;subst h;exact gE G [] [(2,.sl 0)] [0] [.tmp 2]
def cV(m:Nat)(q:Tree)(E:List UInt8)(a:Bool)(G:List UInt8):Prop:=∀(K:Ctx),ar K []→qLG K f99 (λu _=>u=.str G) (cB (xG (ae f99))) [.blk 1,.seq (xH (ae f99))] 31 (mkF 31 0 [(2,.str E),(3,.box (ak q) 0),(15,qi q.kind),(16,.bool a)]) ⟨0,[]⟩
theorem oe(m:Nat)(q:Tree)(p1:Int)(J G:List UInt8)(h:((q.kind=1)→[10,10]=G)∧((q.kind≠1)→((0<p1)→[32]=G)∧((¬0<p1)→((q.kind=8)→cV m q J true G)∧((q.kind≠8)→((q.kind=22)→cV m q J true G)∧((q.kind≠22)→((q.kind=16)→cV m q J true G)∧((q.kind≠16)→cV m q J (q.kind==18) G)))))):ii q p1 J G:=by
 refine⟨rfl,rfl,?_⟩;refine qA 31 [] func99 λK E=>?_;refine gR 3 rfl<|gFP 0 rfl rfl rfl rfl<|gR 13 rfl<|qBeZ 7 10 rfl rfl rfl rfl h ?_ ?_<;>intro h;refine gR 9 rfl ?_;subst h;exact qN [.tmp 6];refine gR 8 rfl<|qBdZ 11 13 rfl rfl rfl rfl h ?_ ?_<;>intro h;refine gR 9 rfl ?_;subst h;exact qN [.tmp 6];refine gR 19 rfl<|qBeZ 16 17 rfl rfl rfl rfl h ?_ ?_<;>intro h;exact gR 3 rfl<|qJ E (h K E) [];refine gR 7 rfl<|qBeZ 16 18 rfl rfl rfl rfl h ?_ ?_<;>intro h;exact gR 3 rfl<|qJ E (h K E) [];refine gR 7 rfl<|qBeZ 16 19 rfl rfl rfl rfl h ?_ ?_<;>intro h;exact gR 3 rfl<|qJ E (h K E) [];exact gR 6 rfl<|qJ E (h K E) []
theorem nL(m:Nat)(q:Tree)(G:List UInt8)(a:Bool)(E:List UInt8)(h:((a=true)→[]=E)∧((a=false)→((q.kind=2)→((2<(q.kids.length:Int))→[]=E)∧((¬2<(q.kids.length:Int))→[32]=E))∧((q.kind≠2)→((q.kind=17)→G=E)∧((q.kind≠17)→((q.kind=21)→G=E)∧((q.kind≠21)→[32]=E))))):cV (m+1) q G a E:=by
 intro K J;refine qBi 16 rfl rfl rfl h ?_ ?_<;>intro h;refine gR 9 rfl ?_;subst h;exact qN [.tmp 6];refine gR 7 rfl<|qBeZ 21 22 rfl rfl rfl rfl h ?_ ?_<;>intro h;refine gR 6 rfl<|gV 25 (qi (q.kids.length:Int)) rfl (aW (aN _)) rfl<|gLB 24 rfl (aN _) λb=>gR 3 rfl<|qBd 26 rfl rfl rfl h ?_ ?_<;>intro h;refine gR 9 rfl ?_;subst h;exact qN [.tmp 6];refine gR 10 rfl ?_;subst h;exact qN [.tmp 6];refine gR 8 rfl<|qBeZ 27 28 rfl rfl rfl rfl h ?_ ?_<;>intro h;refine gR 13 rfl ?_;subst h;exact qN [.tmp 6];refine gR 6 rfl<|qBeZ 27 29 rfl rfl rfl rfl h ?_ ?_<;>intro h;refine gR 10 rfl ?_;subst h;exact qN [.tmp 6];refine gR 10 rfl ?_;subst h;exact qN [.tmp 6]
def jP(m:Nat)(q:Tree)(p1:List UInt8)(a:(List (List UInt8)))(E:Tree):Prop:=∀(K:Ctx),ar K []→Go prog K (bodyPost prog f77 (SP K (λu _=>u=.agg (ak E)))) (.ex .normal) [.seq (xH (ae f77))] 109 (mkF 109 0 [(1,.str p1),(2,.box (ak q) 0),(4,.ptr 0 0),(5,qi (q.kids.length:Int)),(6,.ptr 1 0)]) ⟨3,[(2,.row 9 1 (List.map V.str a)),(1,.var 31 [qi q.kind,.str q.text,.sl 2,.nils]),(0,vC 0 [])]⟩
def cG(m:Nat)(q:Tree)(p1:List UInt8)(a:(List (List UInt8)))(b:List Tree)(c:Nat)(G:Tree):Prop:=∀(K:Ctx) (E:Nat),ar K []→m≤E→qLG K f77 (λu _=>u=.agg (ak G)) (xI (xA (ae f77))) [.loop (xI (xA (ae f77))) E,.blk 0,.seq (xA (xH (ae f77)))] 109 (mkF 109 0 [(1,.str p1),(2,.box (ak q) 0),(4,.ptr 0 0),(5,qi (q.kids.length:Int)),(6,.ptr 1 0),(7,.sl 2),(8,qi (c:Int))]) ⟨4,[(3,.row 9 1 (List.map V.str a)),(2,.row 31 4 (kidsV b)),(1,.var 31 [qi q.kind,.str q.text,.sl 3,.nils]),(0,vC 0 [])]⟩
def cD(m:Nat)(q:Tree)(a:(List (List UInt8)))(b:List Tree)(E:Tree):Prop:=∀(K:Ctx),ar K []→qLG K f77 (λu _=>u=.agg (ak E)) (xJ (xA (ae f77))) [] 109 (mkF 109 0 [(2,.box (ak q) 0),(4,.ptr 0 0),(6,.ptr 1 0),(7,.sl 2)]) ⟨4,[(3,.row 9 1 (List.map V.str a)),(2,.row 31 4 (kidsV b)),(1,.var 31 [qi q.kind,.str q.text,.sl 3,.nils]),(0,vC 0 [])]⟩
def dF(m:Nat)(q:Tree)(a:(List (List UInt8)))(b:Nat)(c:List Tree)(G:Tree):Prop:=∀(K:Ctx) (E:Nat),ar K []→m≤E→qLG K f77 (λu _=>u=.agg (ak G)) (cL (cK (xA (xM (xL (xJ (ae f77))))))) [.loop (cL (cK (xA (xM (xL (xJ (ae f77))))))) E,.blk 3,.blk 2,.seq (xJ (xH (ae f77)))] 109 (mkF 109 0 [(4,.ptr 0 0),(6,.ptr 1 0),(7,.sl 2),(9,qi (b:Int))]) ⟨4,[(3,.row 9 1 (List.map V.str a)),(2,.row 31 4 (kidsV c)),(1,.var 31 [qi q.kind,.str q.text,.sl 3,.nils]),(0,vC 0 [])]⟩
def cM(m:Nat)(q:Tree)(a:(List (List UInt8)))(b:Nat)(c:List Tree)(G:Tree):Prop:=∀(K:Ctx) (E:Nat),ar K []→m≤E→qLG K f77 (λu _=>u=.agg (ak G)) (cL (xD (xM (xC (xL (xJ (ae f77))))))) [.loop (cL (xD (xM (xC (xL (xJ (ae f77))))))) E,.blk 5,.blk 2,.seq (xJ (xH (ae f77)))] 109 (mkF 109 0 [(4,.ptr 0 0),(6,.ptr 1 0),(7,.sl 2),(10,qi (b:Int))]) ⟨4,[(3,.row 9 1 (List.map V.str a)),(2,.row 31 4 (kidsV c)),(1,.var 31 [qi q.kind,.str q.text,.sl 3,.nils]),(0,vC 0 [])]⟩
theorem nN(m:Nat)(E:Tree)(p1:List UInt8)(G:Tree)(h:∃b,dt E.kind (E.kids.length:Int) b∧∃a,hO b a∧jP m E p1 a G):dU E p1 G:=by
 refine⟨rfl,rfl,?_⟩;refine qA 109 [] func77 λK q=>?_;refine gR 3 rfl<|gFP 0 rfl rfl rfl rfl<|gR 8 rfl<|gV 13 (qi (E.kids.length:Int)) rfl (aW (aN _)) rfl<|gLB 12 rfl (aN _) λf=>gR 4 rfl<|qDs [] 11 12<|qDr (qR 0 7 2 []) rfl rfl ?_;obtain⟨b,c,h⟩:=h;apply oz (i:=7) (j:=10) (by kernel_rfl) rfl rfl rfl rfl;exact(lS (L':=[]) (by kernel_rfl) rfl rfl (un c .rfl [] rfl) (.inl rfl));exact(oV ac rfl rfl);obtain⟨a,d,h⟩:=h;apply oz (i:=8) (j:=10) (by kernel_rfl) rfl rfl rfl rfl;exact(lS (L':=[]) (by kernel_rfl) rfl rfl (zP (H:=⟨2,[(1,vC 0 [])]⟩) d [] .rfl trivial rfl [] rfl) (.inl rfl));exact(oV ac rfl rfl);exact gHR 2 (List.map V.str a) rfl (dN _ V.str (λ_=>rfl) a) rfl<|qDr [(9,2),(10,0),(11,1)] rfl rfl<|qDe<|qJ q (h K q) [1,3,2];refine qDC 8 d [] rfl ?_;exact gHR 3 (List.map V.str a) rfl (dN _ V.str (λ_=>rfl) a) rfl<|qDr [(9,0),(11,1)] rfl rfl<|qDe<|qJ q (h K q) [1,2,3];refine bD 7 c (by kernel_rfl) rfl (by kernel_rfl) rfl rfl .rfl rfl rfl ?_;obtain⟨a,e,h⟩:=h;refine qDC 8 e [] rfl ?_;exact gHR 3 (List.map V.str a) rfl (dN _ V.str (λ_=>rfl) a) rfl<|qDr [(9,0),(11,1)] rfl rfl<|qDe<|qJ q (h K q) [1,2,3]
theorem mZ(m:Nat)(p0:Tree)(p1:List UInt8)(a:(List (List UInt8)))(r0:Tree)(h:p0.kids.length≤1000000000∧cG m p0 p1 a (List.replicate p0.kids.length (Tree.node 0 [] [] [])) 0 r0):jP (m+1) p0 p1 a r0:=by
 intro K hK;refine gR 4 rfl ?_;obtain⟨hb,h⟩:=h;exact gDo (.new (.row 31 4 (List.replicate p0.kids.length (.agg [qi 0,.str [],.nils,.nils])))) (dMk ac rfl rfl rfl rfl rfl rfl rfl (by kernel_rfl) hb) trivial rfl rfl rfl<|gHW 3 (List.replicate p0.kids.length (.agg [qi 0,.str [],.row 1 [],.row 4 (kidsV [])])) rfl rfl (aH.rep (.agg (.cons .rfl (.cons .rfl (.cons (.nil 1) (.cons (.nil 4) .nil))))) _) rfl<|gHR 3 (kidsV (List.replicate p0.kids.length (Tree.node 0 [] [] []))) rfl (by first|(simp only[pH,List.map_replicate];done)|(simp only[pH,List.map_replicate];rfl)) rfl<|gR 10 rfl<|go_loop m<|qW hK h [0,1,3,2]
theorem dq(m:Nat)(E:Tree)(p1:List UInt8)(b:(List (List UInt8)))(c:List Tree)(a:Nat)(J:Tree)(h:((a<E.kids.length)→∃i,E.kids[a]?=some i∧∃j,ii E (a:Int) p1 j∧∃d,dU i j d∧∃l,c[a]?=some l∧a+1≤9223372036854775807∧cG m E p1 b (c.set a d) (a+1) J)∧((¬a<E.kids.length)→((E.kind≠17)→((E.kind≠21)→∃n,b[0]?=some n∧cD m E (b.set 0 p1) c J)∧((E.kind=21)→cD m E b c J))∧((E.kind=17)→cD m E b c J))):cG (m+1) E p1 b c a J:=by
 refine qj λK O G q=>?_;refine gR 8 rfl<|qXh 28 rfl rfl rfl h ec ej ?_ ?_<;>intro hd h;refine gR 5 rfl<|qDs [] 13 14<|qDr (qR 0 5 2 []) rfl rfl ?_;obtain⟨i,k,h⟩:=h;refine gYd 5 rfl (by kernel_rfl) (aG (aq k) ac rfl rfl rfl rfl) rfl rfl<|qDr (qR 6 3 2 [(9,0)]) rfl rfl ?_;obtain⟨j,o,h⟩:=h;refine bD 10 o (by kernel_rfl) rfl (by kernel_rfl) rfl rfl .rfl rfl rfl ?_;obtain⟨d,p,h⟩:=h;refine bD 11 p (by kernel_rfl) rfl (by kernel_rfl) rfl rfl .rfl rfl rfl ?_;obtain⟨l,e,h⟩:=h;refine dI 12 rfl (by kernel_rfl) (yIO ac rfl rfl rfl rfl (by have :=(aq e);exact(List.getElem?_eq_some_iff.1 this).1)) rfl rfl ?_;refine bY 13 (.set 2 (.row 31 4 (kidsV (c.set a d)))) rfl (by kernel_rfl) (dSe ac rfl rfl rfl rfl (aq e) rfl (Bx c a d)) (okS rfl) rfl (by kernel_rfl) rfl rfl ?_;refine qDe<|gR 4 rfl ?_;obtain⟨U,h⟩:=h;exact gR 1 rfl<|gV 30 (qi ((a+1:Nat):Int)) rfl (an (by omega) (by omega)) rfl<|gR 2 rfl<|go_xloop<|qW G h [0,1,2,3];refine gR 3 rfl<|go_xloopE<|gR 9 rfl<|qXhZ 47 46 rfl rfl rfl rfl h mj jT ?_ ?_<;>intro hd h;refine gR 6 rfl<|qXh 51 rfl rfl rfl h mj jT ?_ ?_<;>intro hd h;refine gR 5 rfl ?_;obtain⟨n,g,h⟩:=h;refine gY (yIO ac rfl rfl rfl rfl (qG (au (f:=V.str) g))) rfl rfl ?_;exact gDo (.set 3 (.row 9 1 (List.map V.str (b.set 0 p1)))) (dSe ac rfl rfl rfl rfl (au (f:=V.str) g) rfl (mN V.str b 0 p1)) (okS rfl) rfl rfl rfl<|gR 2 rfl<|qJ G (h K G) [0,1,2,3];exact gR 3 rfl<|qJ G (h K G) [0,1,2,3];exact gR 9 rfl<|qJ G (h K G) [0,1,2,3]
theorem bg(m:Nat)(p0:Tree)(a:(List (List UInt8)))(b:List Tree)(r0:Tree)(h:((p0.kind=1)→∃l,a[2]?=some l∧(Tree.node p0.kind p0.text (a.set 2 [10]) b)=r0)∧((p0.kind≠1)→((p0.kind=2)→∃n,a[2]?=some n∧∃o,(a.set 2 [])[3]?=some o∧∃p,((a.set 2 []).set 3 [])[4]?=some p∧dF m p0 (((a.set 2 []).set 3 []).set 4 []) 6 b r0)∧((p0.kind≠2)→((p0.kind=4)→∃q,a[1]?=some q∧(Tree.node p0.kind p0.text (a.set 1 []) b)=r0)∧((p0.kind≠4)→((p0.kind=8)→∃r,a[1]?=some r∧(Tree.node p0.kind p0.text (a.set 1 []) b)=r0)∧((p0.kind≠8)→((p0.kind=22)→∃s,a[1]?=some s∧(Tree.node p0.kind p0.text (a.set 1 []) b)=r0)∧((p0.kind≠22)→((p0.kind=16)→cM m p0 a 1 b r0)∧((p0.kind≠16)→((p0.kind=18)→cM m p0 a 1 b r0)∧((p0.kind≠18)→(Tree.node p0.kind p0.text a b)=r0)))))))):cD (m+1) p0 a b r0:=by
 intro K hK;refine gR 14 rfl<|qXeZ 58 59 rfl rfl rfl rfl h ?_ ?_<;>intro hd h;refine gR 4 rfl ?_;obtain⟨l,c,h⟩:=h;refine gY (yIO ac rfl rfl rfl rfl (qG (au (f:=V.str) c))) rfl rfl ?_;refine gDo (.set 3 (.row 9 1 (List.map V.str (a.set 2 [10])))) (dSe ac rfl rfl rfl rfl (au (f:=V.str) c) rfl (mN V.str a 2 [10])) (okS rfl) rfl rfl rfl<|gR 17 rfl<|gFR 3 rfl (ie _ (λ_=>rfl) _) rfl rfl<|gFR 2 rfl (cN _) rfl rfl ?_;subst h;exact go_sub (F':=(mkF 109 0 [(4,.ptr 0 0)])) (H':=⟨1,[(0,vB ((Tree.node p0.kind p0.text (a.set 2 [10]) b).kind) ((Tree.node p0.kind p0.text (a.set 2 [10]) b).text) ((Tree.node p0.kind p0.text (a.set 2 [10]) b).leads) ((Tree.node p0.kind p0.text (a.set 2 [10]) b).kids))]⟩) [0] [] rfl hK pq1 (pqo1 rfl rfl) rfl<|qN [.cell 4 31];refine gR 7 rfl<|qXeZ 63 64 rfl rfl rfl rfl h ?_ ?_<;>intro hd h;refine gR 2 rfl<|qDs [1] 11 12<|qDr [(0,2),(1,3),(2,2),(3,3),(4,2),(5,3)] rfl rfl ?_;obtain⟨n,d,h⟩:=h;refine dI 6 rfl (by kernel_rfl) (yIO ac rfl rfl rfl rfl (qG (au (f:=V.str) d))) rfl rfl ?_;refine bY 7 (.set 3 (.row 9 1 (List.map V.str (a.set 2 [])))) rfl (by kernel_rfl) (dSe ac rfl rfl rfl rfl (au (f:=V.str) d) rfl (mN V.str a 2 [])) (okS rfl) rfl (by kernel_rfl) rfl rfl ?_;obtain⟨o,e,h⟩:=h;refine dI 8 rfl (by kernel_rfl) (yIO ac rfl rfl rfl rfl (qG (au (f:=V.str) e))) rfl rfl ?_;refine bY 9 (.set 3 (.row 9 1 (List.map V.str ((a.set 2 []).set 3 [])))) rfl (by kernel_rfl) (dSe ac rfl rfl rfl rfl (au (f:=V.str) e) rfl (mN V.str (a.set 2 []) 3 [])) (okS rfl) rfl (by kernel_rfl) rfl rfl ?_;obtain⟨p,g,h⟩:=h;refine dI 10 rfl (by kernel_rfl) (yIO ac rfl rfl rfl rfl (qG (au (f:=V.str) g))) rfl rfl ?_;refine bY 11 (.set 3 (.row 9 1 (List.map V.str (((a.set 2 []).set 3 []).set 4 [])))) rfl (by kernel_rfl) (dSe ac rfl rfl rfl rfl (au (f:=V.str) g) rfl (mN V.str ((a.set 2 []).set 3 []) 4 [])) (okS rfl) rfl (by kernel_rfl) rfl rfl ?_;exact qDe<|gR 7 rfl<|go_loop m<|qW hK h [0,1,2,3];refine gR 8 rfl<|qXeZ 85 86 rfl rfl rfl rfl h ?_ ?_<;>intro hd h;refine gR 7 rfl ?_;obtain⟨q,i,h⟩:=h;refine gY (yIO ac rfl rfl rfl rfl (qG (au (f:=V.str) i))) rfl rfl ?_;refine gDo (.set 3 (.row 9 1 (List.map V.str (a.set 1 [])))) (dSe ac rfl rfl rfl rfl (au (f:=V.str) i) rfl (mN V.str a 1 [])) (okS rfl) rfl rfl rfl<|gR 17 rfl<|gFR 3 rfl (ie _ (λ_=>rfl) _) rfl rfl<|gFR 2 rfl (cN _) rfl rfl ?_;subst h;exact go_sub (F':=(mkF 109 0 [(4,.ptr 0 0)])) (H':=⟨1,[(0,vB ((Tree.node p0.kind p0.text (a.set 1 []) b).kind) ((Tree.node p0.kind p0.text (a.set 1 []) b).text) ((Tree.node p0.kind p0.text (a.set 1 []) b).leads) ((Tree.node p0.kind p0.text (a.set 1 []) b).kids))]⟩) [0] [] rfl hK pq1 (pqo1 rfl rfl) rfl<|qN [.cell 4 31];refine gR 7 rfl<|qXeZ 85 87 rfl rfl rfl rfl h ?_ ?_<;>intro hd h;refine gR 7 rfl ?_;obtain⟨r,j,h⟩:=h;refine gY (yIO ac rfl rfl rfl rfl (qG (au (f:=V.str) j))) rfl rfl ?_;refine gDo (.set 3 (.row 9 1 (List.map V.str (a.set 1 [])))) (dSe ac rfl rfl rfl rfl (au (f:=V.str) j) rfl (mN V.str a 1 [])) (okS rfl) rfl rfl rfl<|gR 17 rfl<|gFR 3 rfl (ie _ (λ_=>rfl) _) rfl rfl<|gFR 2 rfl (cN _) rfl rfl ?_;subst h;exact go_sub (F':=(mkF 109 0 [(4,.ptr 0 0)])) (H':=⟨1,[(0,vB ((Tree.node p0.kind p0.text (a.set 1 []) b).kind) ((Tree.node p0.kind p0.text (a.set 1 []) b).text) ((Tree.node p0.kind p0.text (a.set 1 []) b).leads) ((Tree.node p0.kind p0.text (a.set 1 []) b).kids))]⟩) [0] [] rfl hK pq1 (pqo1 rfl rfl) rfl<|qN [.cell 4 31];refine gR 6 rfl<|qXeZ 85 88 rfl rfl rfl rfl h ?_ ?_<;>intro hd h;refine gR 4 rfl ?_;obtain⟨s,k,h⟩:=h;refine gY (yIO ac rfl rfl rfl rfl (qG (au (f:=V.str) k))) rfl rfl ?_;refine gDo (.set 3 (.row 9 1 (List.map V.str (a.set 1 [])))) (dSe ac rfl rfl rfl rfl (au (f:=V.str) k) rfl (mN V.str a 1 [])) (okS rfl) rfl rfl rfl<|gR 17 rfl<|gFR 3 rfl (ie _ (λ_=>rfl) _) rfl rfl<|gFR 2 rfl (cN _) rfl rfl ?_;subst h;exact go_sub (F':=(mkF 109 0 [(4,.ptr 0 0)])) (H':=⟨1,[(0,vB ((Tree.node p0.kind p0.text (a.set 1 []) b).kind) ((Tree.node p0.kind p0.text (a.set 1 []) b).text) ((Tree.node p0.kind p0.text (a.set 1 []) b).leads) ((Tree.node p0.kind p0.text (a.set 1 []) b).kids))]⟩) [0] [] rfl hK pq1 (pqo1 rfl rfl) rfl<|qN [.cell 4 31];refine gR 8 rfl<|qXeZ 92 93 rfl rfl rfl rfl h ?_ ?_<;>intro hd h;exact gR 10 rfl<|go_loop m<|qW hK h [0,1,2,3];refine gR 6 rfl<|qXeZ 92 94 rfl rfl rfl rfl h ?_ ?_<;>intro hd h;exact gR 7 rfl<|go_loop m<|qW hK h [0,1,2,3];refine gR 18 rfl<|gFR 3 rfl (ie _ (λ_=>rfl) _) rfl rfl<|gFR 2 rfl (cN _) rfl rfl ?_;subst h;exact go_sub (F':=(mkF 109 0 [(4,.ptr 0 0)])) (H':=⟨1,[(0,vB ((Tree.node p0.kind p0.text a b).kind) ((Tree.node p0.kind p0.text a b).text) ((Tree.node p0.kind p0.text a b).leads) ((Tree.node p0.kind p0.text a b).kids))]⟩) [0] [] rfl hK pq1 (pqo1 rfl rfl) rfl<|qN [.cell 4 31]
theorem fq(m:Nat)(q:Tree)(a:(List (List UInt8)))(b:Nat)(c:List Tree)(E:Tree)(h:((b<a.length)→∃e,a[b]?=some e∧dF m q (a.set b []) (b+1) c E)∧((¬b<a.length)→(Tree.node q.kind q.text a c)=E)):dF (m+1) q a b c E:=by
 refine qj λK J G i=>?_;refine gR 7 rfl<|gV 77 (qi (a.length:Int)) rfl (aW (ax V.str _)) rfl<|gLO 3 rfl (ax V.str _) λg=>gR 3 rfl<|qXh 78 rfl rfl rfl h ec ej ?_ ?_<;>intro hd h;refine gR 9 rfl ?_;obtain⟨e,d,h⟩:=h;refine gY (yIO ac rfl rfl rfl rfl (qG (au (f:=V.str) d))) rfl rfl ?_;exact gDo (.set 3 (.row 9 1 (List.map V.str (a.set b [])))) (dSe ac rfl rfl rfl rfl (au (f:=V.str) d) rfl (mN V.str a b [])) (okS rfl) rfl rfl rfl<|gR 6 rfl<|gV 80 (qi ((b+1:Nat):Int)) rfl (an (by have :=g;omega) (by omega)) rfl<|gR 2 rfl<|go_xloop<|qW G h [0,1,2,3];refine gR 3 rfl<|go_xloopE<|gR 17 rfl<|gFR 3 rfl (ie _ (λ_=>rfl) _) rfl rfl<|gFR 2 rfl (cN _) rfl rfl ?_;subst h;exact go_sub (F':=(mkF 109 0 [(4,.ptr 0 0)])) (H':=⟨1,[(0,vB ((Tree.node q.kind q.text a c).kind) ((Tree.node q.kind q.text a c).text) ((Tree.node q.kind q.text a c).leads) ((Tree.node q.kind q.text a c).kids))]⟩) [0] [] rfl G pq1 (pqo1 rfl rfl) rfl<|qN [.cell 4 31]
theorem fu(m:Nat)(q:Tree)(a:(List (List UInt8)))(b:Nat)(c:List Tree)(E:Tree)(h:((b<a.length)→∃e,a[b]?=some e∧cM m q (a.set b []) (b+1) c E)∧((¬b<a.length)→(Tree.node q.kind q.text a c)=E)):cM (m+1) q a b c E:=by
 refine qj λK J G i=>?_;refine gR 7 rfl<|gV 98 (qi (a.length:Int)) rfl (aW (ax V.str _)) rfl<|gLO 3 rfl (ax V.str _) λg=>gR 3 rfl<|qXh 99 rfl rfl rfl h ec ej ?_ ?_<;>intro hd h;refine gR 9 rfl ?_;obtain⟨e,d,h⟩:=h;refine gY (yIO ac rfl rfl rfl rfl (qG (au (f:=V.str) d))) rfl rfl ?_;exact gDo (.set 3 (.row 9 1 (List.map V.str (a.set b [])))) (dSe ac rfl rfl rfl rfl (au (f:=V.str) d) rfl (mN V.str a b [])) (okS rfl) rfl rfl rfl<|gR 6 rfl<|gV 101 (qi ((b+1:Nat):Int)) rfl (an (by have :=g;omega) (by omega)) rfl<|gR 2 rfl<|go_xloop<|qW G h [0,1,2,3];refine gR 3 rfl<|go_xloopE<|gR 17 rfl<|gFR 3 rfl (ie _ (λ_=>rfl) _) rfl rfl<|gFR 2 rfl (cN _) rfl rfl ?_;subst h;exact go_sub (F':=(mkF 109 0 [(4,.ptr 0 0)])) (H':=⟨1,[(0,vB ((Tree.node q.kind q.text a c).kind) ((Tree.node q.kind q.text a c).text) ((Tree.node q.kind q.text a c).leads) ((Tree.node q.kind q.text a c).kids))]⟩) [0] [] rfl G pq1 (pqo1 rfl rfl) rfl<|qN [.cell 4 31]
theorem jL(m:Nat)(q E:Tree)(h:∃b,df q b∧((b=false)→(Tree.node 0 [] [] [])=E)∧((b=true)→∃a,dU q [] a∧a=E)):gK q E:=by
 refine⟨rfl,rfl,?_⟩;refine qA 9 [] func50 λK G=>?_;refine gR 3 rfl<|gFP 0 rfl rfl rfl rfl<|gR 7 rfl ?_;obtain⟨b,c,h⟩:=h;refine qC0 c rfl<|gR 3 rfl<|qBh 5 rfl rfl rfl h cx cw ?_ ?_<;>intro h;refine gR 9 rfl ?_;subst h;exact go_sub (F':=(mkF 9 0 [(2,.ptr 0 0)])) (H':=⟨1,[(0,vB ((Tree.node 0 [] [] []).kind) ((Tree.node 0 [] [] []).text) ((Tree.node 0 [] [] []).leads) ((Tree.node 0 [] [] []).kids))]⟩) [1] [] rfl G pq1 ⟨⟨_,rfl,rfl,(.cons .rfl (.cons .rfl (.cons (.nil 1) (.cons (.nil 4) .nil))))⟩,trivial⟩ rfl<|qN [.cell 2 31];refine gR 6 rfl ?_;obtain⟨a,d,h⟩:=h;refine qC0 d rfl<|gR 4 rfl ?_;subst h;exact go_sub (F':=(mkF 9 0 [(2,.ptr 0 0)])) (H':=⟨1,[(0,vB a.kind a.text a.leads a.kids)]⟩) [1] [] rfl G pq1 (pqo1 rfl rfl) rfl<|qN [.cell 2 31]
theorem eE(m:Nat)(q:Tree)(E:Bool)(h:∃a,dp q a∧((a=true)→∃b,eD q b∧((b=true)→∃c,fi q c∧((c≤40)→∃d,it q d∧decide ((d.length:Int)≤4096)=E)∧((¬c≤40)→false=E))∧((b=false)→false=E))∧((a=false)→false=E)):dw q E:=by
 refine⟨rfl,rfl,?_⟩;refine qA 20 [] func31 λK G=>?_;refine gR 3 rfl<|gFP 0 rfl rfl rfl rfl<|gR 6 rfl ?_;obtain⟨a,e,h⟩:=h;refine qC0 e rfl<|gR 1 rfl<|qBiZ 5 4 rfl rfl rfl rfl h ?_ ?_<;>intro h;refine gR 1 rfl ?_;obtain⟨b,f,h⟩:=h;refine qC0 f rfl<|gR 2 rfl<|qBiZ 9 8 rfl rfl rfl rfl h ?_ ?_<;>intro h;refine gR 1 rfl ?_;obtain⟨c,g,h⟩:=h;refine qC0 g rfl<|gR 3 rfl<|qBdZ 14 13 rfl rfl rfl rfl h ?_ ?_<;>intro h;refine gR 1 rfl ?_;obtain⟨d,i,h⟩:=h;refine qC0 i rfl<|gR 7 rfl ?_;subst h;exact qN [.tmp 2];refine gR 9 rfl ?_;subst h;exact qN [.tmp 2];refine gR 14 rfl ?_;subst h;exact qN [.tmp 2];refine gR 18 rfl ?_;subst h;exact qN [.tmp 2]
theorem iR(m:Nat)(q:Tree)(E:Bool)(h:∃a,df q a∧((a=true)→∃b,fh q b∧b=E)∧((a=false)→false=E)):dp q E:=by
 refine⟨rfl,rfl,?_⟩;refine qA 9 [] func52 λK G=>?_;refine gR 3 rfl<|gFP 0 rfl rfl rfl rfl<|gR 6 rfl ?_;obtain⟨a,c,h⟩:=h;refine qC0 c rfl<|gR 1 rfl<|qBiZ 5 4 rfl rfl rfl rfl h ?_ ?_<;>intro h;refine gR 1 rfl ?_;obtain⟨b,d,h⟩:=h;refine qC0 d rfl<|gR 5 rfl ?_;subst h;exact qN [.tmp 2];refine gR 7 rfl ?_;subst h;exact qN [.tmp 2]
def ce(m:Nat)(E:Tree)(a:Nat)(G:Bool):Prop:=∀(K:Ctx) (q:Nat),ar K []→m≤q→qLG K f78 (λu _=>u=.bool G) (xI (ae f78)) [.loop (xI (ae f78)) q,.blk 0,.seq (xH (ae f78))] 50 (mkF 50 0 [(1,.box (ak E) 0),(3,qi (a:Int))]) ⟨0,[]⟩
def ew(m:Nat)(E:Tree)(a:Nat)(G:Bool):Prop:=∀(K:Ctx) (q:Nat),ar K []→m≤q→qLG K f78 (λu _=>u=.bool G) (xN (ae f78)) [.loop (xN (ae f78)) q,.blk 2,.seq (xJ (ae f78))] 50 (mkF 50 0 [(1,.box (ak E) 0),(4,qi (a:Int))]) ⟨0,[]⟩
theorem la(m:Nat)(p0:Tree)(r0:Bool)(h:∃a,dt p0.kind (p0.kids.length:Int) a∧(((p0.leads.length:Int)≠a)→false=r0)∧(((p0.leads.length:Int)=a)→ce m p0 0 r0)):fh p0 r0:=by
 refine⟨rfl,rfl,?_⟩;refine qA 50 [] func78 λK hK=>?_;refine gR 3 rfl<|gFP 0 rfl rfl rfl rfl<|gR 5 rfl<|qDs [] 10 10<|qDr (qR 0 3 2 []) rfl rfl<|gV 7 (qi (p0.leads.length:Int)) rfl (aW (ax V.str _)) rfl<|gLB 6 rfl (ax V.str _) λc=>qDr ((3,2)::(4,2)::(qR 5 3 0 [])) rfl rfl<|gV 12 (qi (p0.kids.length:Int)) rfl (aW (aN _)) rfl<|gLB 11 rfl (aN _) λd=>?_;obtain⟨a,b,h⟩:=h;refine bD 8 b (by kernel_rfl) rfl (by kernel_rfl) rfl rfl .rfl rfl rfl ?_;refine qDr [(9,0)] rfl rfl<|qDe<|gR 1 rfl<|qXh 14 rfl rfl rfl h mj jT ?_ ?_<;>intro hd h;refine gR 8 rfl ?_;subst h;exact qN [.tmp 2];exact gR 10 rfl<|go_loop m<|qW hK h []
theorem cZ(m:Nat)(p0:Tree)(a:Nat)(r0:Bool)(h:((a<p0.leads.length)→∃b,p0.leads[a]?=some b∧((p0.kind=1)→∃c,gX b ((a:Int)==2) c∧((c=false)→false=r0)∧((c=true)→ce m p0 (a+1) r0))∧((p0.kind≠1)→∃d,gX b false d∧((d=false)→false=r0)∧((d=true)→ce m p0 (a+1) r0)))∧((¬a<p0.leads.length)→ew m p0 0 r0)):ce (m+1) p0 a r0:=by
 refine qj λK j1 hK k=>?_;refine gR 7 rfl<|gV 18 (qi (p0.leads.length:Int)) rfl (aW (ax V.str _)) rfl<|gLB 17 rfl (ax V.str _) λg=>gR 3 rfl<|qXh 19 rfl rfl rfl h ec ej ?_ ?_<;>intro hd h;refine gR 6 rfl<|qDs [] 14 14<|qDr (qR 0 3 2 []) rfl rfl ?_;obtain⟨b,e,h⟩:=h;refine gYd 3 rfl (by kernel_rfl) (aG (au (f:=V.str) e) ac rfl rfl rfl rfl) rfl rfl<|qDr ((4,2)::(qR 5 4 0 [])) rfl rfl<|qXeZ 30 29 rfl rfl rfl rfl h ?_ ?_<;>intro hd h;refine qDr (qR 9 3 0 []) rfl rfl ?_;obtain⟨c,i,h⟩:=h;refine bD 12 i (by kernel_rfl) rfl (by kernel_rfl) rfl rfl .rfl rfl rfl ?_;refine qDr [(13,0)] rfl rfl<|qDe<|gR 1 rfl<|qXh 35 rfl rfl rfl h cx cw ?_ ?_<;>intro hd h;refine gR 9 rfl<|go_xloopR<|gR 2 rfl ?_;subst h;exact qN [.tmp 2];exact gR 7 rfl<|gV 21 (qi ((a+1:Nat):Int)) rfl (an (by have :=g;omega) (by omega)) rfl<|gR 2 rfl<|go_xloop<|qW hK h [];refine qDr (qR 9 3 0 []) rfl rfl ?_;obtain⟨d,j,h⟩:=h;refine bD 12 j (by kernel_rfl) rfl (by kernel_rfl) rfl rfl .rfl rfl rfl ?_;refine qDr [(13,0)] rfl rfl<|qDe<|gR 1 rfl<|qXh 35 rfl rfl rfl h cx cw ?_ ?_<;>intro hd h;refine gR 9 rfl<|go_xloopR<|gR 2 rfl ?_;subst h;exact qN [.tmp 2];exact gR 7 rfl<|gV 21 (qi ((a+1:Nat):Int)) rfl (an (by have :=g;omega) (by omega)) rfl<|gR 2 rfl<|go_xloop<|qW hK h [];exact gR 3 rfl<|go_xloopE<|gR 9 rfl<|go_loop m<|qW hK h []
theorem dZ(m:Nat)(q:Tree)(a:Nat)(E:Bool)(h:((a<q.kids.length)→∃c,q.kids[a]?=some c∧∃b,fh c b∧((b=false)→false=E)∧((b=true)→ew m q (a+1) E))∧((¬a<q.kids.length)→true=E)):ew (m+1) q a E:=by
 refine qj λK J G g=>?_;refine gR 7 rfl<|gV 39 (qi (q.kids.length:Int)) rfl (aW (aN _)) rfl<|gLB 38 rfl (aN _) λe=>gR 3 rfl<|qXh 40 rfl rfl rfl h ec ej ?_ ?_<;>intro hd h;refine gR 10 rfl ?_;obtain⟨c,d,h⟩:=h;refine gY (aG (aq d) ac rfl rfl rfl rfl) rfl rfl<|gR 1 rfl ?_;obtain⟨b,f,h⟩:=h;refine qC0 f rfl<|gR 3 rfl<|qXh 49 rfl rfl rfl h cx cw ?_ ?_<;>intro hd h;refine gR 9 rfl<|go_xloopR<|gR 2 rfl ?_;subst h;exact qN [.tmp 2];exact gR 7 rfl<|gV 42 (qi ((a+1:Nat):Int)) rfl (an (by have :=e;omega) (by omega)) rfl<|gR 2 rfl<|go_xloop<|qW G h [];refine gR 3 rfl<|go_xloopE<|gR 8 rfl ?_;subst h;exact qN [.tmp 2]
def av(m:Nat)(q:Tree)(a:Nat)(G:Bool):Prop:=∀(K:Ctx) (E:Nat),ar K []→m≤E→qLG K f53 (λu _=>u=.bool G) (xN (ae f53)) [.loop (xN (ae f53)) E,.blk 0,.seq (xJ (ae f53))] 54 (mkF 54 0 [(1,.box (ak q) 0),(3,qi (q.kids.length:Int)),(4,qi (a:Int))]) ⟨0,[]⟩
theorem kh(m:Nat)(p0:Tree)(r0:Bool)(h:((p0.kind=1)→((40<(p0.kids.length:Int))→false=r0)∧((¬40<(p0.kids.length:Int))→((p0.kind=2)→((10<(p0.kids.length:Int))→false=r0)∧((¬10<(p0.kids.length:Int))→((p0.kind=16)→((8<(p0.kids.length:Int))→false=r0)∧((¬8<(p0.kids.length:Int))→((p0.kind=18)→((16<(p0.kids.length:Int))→false=r0)∧((¬16<(p0.kids.length:Int))→av m p0 0 r0))∧((p0.kind≠18)→av m p0 0 r0)))∧((p0.kind≠16)→((p0.kind=18)→((16<(p0.kids.length:Int))→false=r0)∧((¬16<(p0.kids.length:Int))→av m p0 0 r0))∧((p0.kind≠18)→av m p0 0 r0))))∧((p0.kind≠2)→((p0.kind=16)→((8<(p0.kids.length:Int))→false=r0)∧((¬8<(p0.kids.length:Int))→((p0.kind=18)→((16<(p0.kids.length:Int))→false=r0)∧((¬16<(p0.kids.length:Int))→av m p0 0 r0))∧((p0.kind≠18)→av m p0 0 r0)))∧((p0.kind≠16)→((p0.kind=18)→((16<(p0.kids.length:Int))→false=r0)∧((¬16<(p0.kids.length:Int))→av m p0 0 r0))∧((p0.kind≠18)→av m p0 0 r0)))))∧((p0.kind≠1)→((p0.kind=2)→((10<(p0.kids.length:Int))→false=r0)∧((¬10<(p0.kids.length:Int))→((p0.kind=16)→((8<(p0.kids.length:Int))→false=r0)∧((¬8<(p0.kids.length:Int))→((p0.kind=18)→((16<(p0.kids.length:Int))→false=r0)∧((¬16<(p0.kids.length:Int))→av m p0 0 r0))∧((p0.kind≠18)→av m p0 0 r0)))∧((p0.kind≠16)→((p0.kind=18)→((16<(p0.kids.length:Int))→false=r0)∧((¬16<(p0.kids.length:Int))→av m p0 0 r0))∧((p0.kind≠18)→av m p0 0 r0))))∧((p0.kind≠2)→((p0.kind=16)→((8<(p0.kids.length:Int))→false=r0)∧((¬8<(p0.kids.length:Int))→((p0.kind=18)→((16<(p0.kids.length:Int))→false=r0)∧((¬16<(p0.kids.length:Int))→av m p0 0 r0))∧((p0.kind≠18)→av m p0 0 r0)))∧((p0.kind≠16)→((p0.kind=18)→((16<(p0.kids.length:Int))→false=r0)∧((¬16<(p0.kids.length:Int))→av m p0 0 r0))∧((p0.kind≠18)→av m p0 0 r0))))):eD p0 r0:=by
 refine⟨rfl,rfl,?_⟩;refine qA 54 [] func53 λK hK=>?_;refine gR 3 rfl<|gFP 0 rfl rfl rfl rfl<|gR 8 rfl<|gV 7 (qi (p0.kids.length:Int)) rfl (aW (aN _)) rfl<|gLB 6 rfl (aN _) λa=>gR 10 rfl<|qXeZ 11 10 rfl rfl rfl rfl h ?_ ?_<;>intro hd h;refine gR 4 rfl<|qXdZ 15 14 rfl rfl rfl rfl h ?_ ?_<;>intro hd h;refine gR 36 rfl ?_;subst h;exact qN [.tmp 2];refine gR 4 rfl<|qXeZ 19 18 rfl rfl rfl rfl h ?_ ?_<;>intro hd h;refine gR 5 rfl<|qXdZ 24 23 rfl rfl rfl rfl h ?_ ?_<;>intro hd h;refine gR 27 rfl ?_;subst h;exact qN [.tmp 2];refine gR 4 rfl<|qXeZ 28 27 rfl rfl rfl rfl h ?_ ?_<;>intro hd h;refine gR 5 rfl<|qXdZ 33 32 rfl rfl rfl rfl h ?_ ?_<;>intro hd h;refine gR 18 rfl ?_;subst h;exact qN [.tmp 2];refine gR 4 rfl<|qXeZ 37 36 rfl rfl rfl rfl h ?_ ?_<;>intro hd h;refine gR 6 rfl<|qXd 41 rfl rfl rfl h ?_ ?_<;>intro hd h;refine gR 8 rfl ?_;subst h;exact qN [.tmp 2];exact gR 10 rfl<|go_loop m<|qW hK h [];exact gR 16 rfl<|go_loop m<|qW hK h [];refine gR 9 rfl<|qXeZ 37 36 rfl rfl rfl rfl h ?_ ?_<;>intro hd h;refine gR 6 rfl<|qXd 41 rfl rfl rfl h ?_ ?_<;>intro hd h;refine gR 8 rfl ?_;subst h;exact qN [.tmp 2];exact gR 10 rfl<|go_loop m<|qW hK h [];exact gR 16 rfl<|go_loop m<|qW hK h [];refine gR 9 rfl<|qXeZ 28 27 rfl rfl rfl rfl h ?_ ?_<;>intro hd h;refine gR 5 rfl<|qXdZ 33 32 rfl rfl rfl rfl h ?_ ?_<;>intro hd h;refine gR 18 rfl ?_;subst h;exact qN [.tmp 2];refine gR 4 rfl<|qXeZ 37 36 rfl rfl rfl rfl h ?_ ?_<;>intro hd h;refine gR 6 rfl<|qXd 41 rfl rfl rfl h ?_ ?_<;>intro hd h;refine gR 8 rfl ?_;subst h;exact qN [.tmp 2];exact gR 10 rfl<|go_loop m<|qW hK h [];exact gR 16 rfl<|go_loop m<|qW hK h [];refine gR 9 rfl<|qXeZ 37 36 rfl rfl rfl rfl h ?_ ?_<;>intro hd h;refine gR 6 rfl<|qXd 41 rfl rfl rfl h ?_ ?_<;>intro hd h;refine gR 8 rfl ?_;subst h;exact qN [.tmp 2];exact gR 10 rfl<|go_loop m<|qW hK h [];exact gR 16 rfl<|go_loop m<|qW hK h [];refine gR 8 rfl<|qXeZ 19 18 rfl rfl rfl rfl h ?_ ?_<;>intro hd h;refine gR 5 rfl<|qXdZ 24 23 rfl rfl rfl rfl h ?_ ?_<;>intro hd h;refine gR 27 rfl ?_;subst h;exact qN [.tmp 2];refine gR 4 rfl<|qXeZ 28 27 rfl rfl rfl rfl h ?_ ?_<;>intro hd h;refine gR 5 rfl<|qXdZ 33 32 rfl rfl rfl rfl h ?_ ?_<;>intro hd h;refine gR 18 rfl ?_;subst h;exact qN [.tmp 2];refine gR 4 rfl<|qXeZ 37 36 rfl rfl rfl rfl h ?_ ?_<;>intro hd h;refine gR 6 rfl<|qXd 41 rfl rfl rfl h ?_ ?_<;>intro hd h;refine gR 8 rfl ?_;subst h;exact qN [.tmp 2];exact gR 10 rfl<|go_loop m<|qW hK h [];exact gR 16 rfl<|go_loop m<|qW hK h [];refine gR 9 rfl<|qXeZ 37 36 rfl rfl rfl rfl h ?_ ?_<;>intro hd h;refine gR 6 rfl<|qXd 41 rfl rfl rfl h ?_ ?_<;>intro hd h;refine gR 8 rfl ?_;subst h;exact qN [.tmp 2];exact gR 10 rfl<|go_loop m<|qW hK h [];exact gR 16 rfl<|go_loop m<|qW hK h [];refine gR 9 rfl<|qXeZ 28 27 rfl rfl rfl rfl h ?_ ?_<;>intro hd h;refine gR 5 rfl<|qXdZ 33 32 rfl rfl rfl rfl h ?_ ?_<;>intro hd h;refine gR 18 rfl ?_;subst h;exact qN [.tmp 2];refine gR 4 rfl<|qXeZ 37 36 rfl rfl rfl rfl h ?_ ?_<;>intro hd h;refine gR 6 rfl<|qXd 41 rfl rfl rfl h ?_ ?_<;>intro hd h;refine gR 8 rfl ?_;subst h;exact qN [.tmp 2];exact gR 10 rfl<|go_loop m<|qW hK h [];exact gR 16 rfl<|go_loop m<|qW hK h [];refine gR 9 rfl<|qXeZ 37 36 rfl rfl rfl rfl h ?_ ?_<;>intro hd h;refine gR 6 rfl<|qXd 41 rfl rfl rfl h ?_ ?_<;>intro hd h;refine gR 8 rfl ?_;subst h;exact qN [.tmp 2];exact gR 10 rfl<|go_loop m<|qW hK h [];exact gR 16 rfl<|go_loop m<|qW hK h []
theorem dE(m:Nat)(q:Tree)(a:Nat)(E:Bool)(h:((a<q.kids.length)→∃c,q.kids[a]?=some c∧∃b,eD c b∧((b=false)→false=E)∧((b=true)→a+1≤9223372036854775807∧av m q (a+1) E))∧((¬a<q.kids.length)→true=E)):av (m+1) q a E:=by
 refine qj λK J G f=>?_;refine gR 8 rfl<|qXh 44 rfl rfl rfl h ec ej ?_ ?_<;>intro hd h;refine gR 10 rfl ?_;obtain⟨c,d,h⟩:=h;refine gY (aG (aq d) ac rfl rfl rfl rfl) rfl rfl<|gR 1 rfl ?_;obtain⟨b,e,h⟩:=h;refine qC0 e rfl<|gR 3 rfl<|qXh 53 rfl rfl rfl h cx cw ?_ ?_<;>intro hd h;refine gR 9 rfl<|go_xloopR<|gR 2 rfl ?_;subst h;exact qN [.tmp 2];refine gR 6 rfl ?_;obtain⟨O,h⟩:=h;exact gR 1 rfl<|gV 46 (qi ((a+1:Nat):Int)) rfl (an (by omega) (by omega)) rfl<|gR 2 rfl<|go_xloop<|qW G h [];refine gR 3 rfl<|go_xloopE<|gR 8 rfl ?_;subst h;exact qN [.tmp 2]
def ev(m:Nat)(E:Tree)(a:Int)(b:Nat)(G:Int):Prop:=∀(K:Ctx) (q:Nat),ar K []→m≤q→qLG K f54 (λu _=>u=qi G) (xI (ae f54)) [.loop (xI (ae f54)) q,.blk 0,.seq (xH (ae f54))] 22 (mkF 22 0 [(1,.box (ak E) 0),(3,qi a),(4,qi (b:Int))]) ⟨0,[]⟩
theorem oG(m:Nat)(p0:Tree)(r0:Int)(h:ev m p0 0 0 r0):fi p0 r0:=by
 refine⟨rfl,rfl,?_⟩;refine qA 22 [] func54 λK hK=>?_;exact gR 3 rfl<|gFP 0 rfl rfl rfl rfl<|gR 15 rfl<|go_loop m<|qW hK h []
theorem gN(m:Nat)(q:Tree)(b:Int)(a:Nat)(E:Int)(h:((a<q.kids.length)→∃c,q.kids[a]?=some c∧∃d,fi c d∧ev m q (max b d) (a+1) E)∧((¬a<q.kids.length)→InI (b+1)∧(b+1)=E)):ev (m+1) q b a E:=by
 refine qj λK O G i=>?_;refine gR 7 rfl<|gV 8 (qi (q.kids.length:Int)) rfl (aW (aN _)) rfl<|gLB 7 rfl (aN _) λf=>gR 3 rfl<|qXh 9 rfl rfl rfl h ec ej ?_ ?_<;>intro hd h;refine gR 10 rfl ?_;obtain⟨c,e,h⟩:=h;refine gY (aG (aq e) ac rfl rfl rfl rfl) rfl rfl<|gR 1 rfl ?_;obtain⟨d,g,h⟩:=h;exact qC0 g rfl<|gR 8 rfl<|gV 11 (qi ((a+1:Nat):Int)) rfl (an (by have :=f;omega) (by omega)) rfl<|gR 2 rfl<|go_xloop<|qW G h [];refine gR 3 rfl<|go_xloopE<|gR 5 rfl ?_;obtain⟨J,h⟩:=h;refine gR 1 rfl<|gV 21 (qi (b+1)) rfl (an J rfl) rfl<|gR 4 rfl ?_;subst h;exact qN [.tmp 2]
def bx(m:Nat)(a:List aa)(b:List UInt8)(c:Nat)(E:List UInt8):Prop:=∀(K:Ctx) (q:Nat),ar K []→m≤q→qLG K f55 (λu _=>u=.str E) (xI (xA (ae f55))) [.loop (xI (xA (ae f55))) q,.blk 0,.seq (xA (xH (ae f55)))] 57 (mkF 57 0 [(3,.row 2 (List.map aa.w a)),(4,.str b),(5,qi (c:Int))]) ⟨0,[]⟩
theorem ky(m:Nat)(p0:Tree)(r0:List UInt8)(h:∃a,dp p0 a∧((a=false)→[]=r0)∧((a=true)→∃b,kx p0 b∧bx m b [] 0 r0)):it p0 r0:=by
 refine⟨rfl,rfl,?_⟩;refine qA 57 [] func55 λK hK=>?_;refine gR 3 rfl<|gFP 0 rfl rfl rfl rfl<|gR 7 rfl ?_;obtain⟨a,c,h⟩:=h;refine qC0 c rfl<|gR 3 rfl<|qXh 8 rfl rfl rfl h cx cw ?_ ?_<;>intro hd h;refine gR 8 rfl ?_;subst h;exact qN [.tmp 2];refine gR 6 rfl ?_;obtain⟨b,d,h⟩:=h;exact qC0 d rfl<|gR 15 rfl<|go_loop m<|qW hK h []
theorem bT(m:Nat)(b:List aa)(c:List UInt8)(a:Nat)(G:List UInt8)(h:((a<b.length)→((0<(a:Int))→∃l,b[a]?=some l∧((l.Lead=[])→InI ((a:Int)-1)∧∃n,((a:Int)-1)=((n:Nat):Int)∧∃s,b[n]?=some s∧∃t,b[a]?=some t∧∃o,li s.Text t.Text o∧((o=true)→c.length+[32].length≤9223372036854775807∧∃j,b[a]?=some j∧(c++[32]).length+j.Lead.length≤9223372036854775807∧∃p,b[a]?=some p∧((c++[32])++j.Lead).length+p.Text.length≤9223372036854775807∧bx m b (((c++[32])++j.Lead)++p.Text) (a+1) G)∧((o=false)→∃k,b[a]?=some k∧c.length+k.Lead.length≤9223372036854775807∧∃q,b[a]?=some q∧(c++k.Lead).length+q.Text.length≤9223372036854775807∧bx m b ((c++k.Lead)++q.Text) (a+1) G))∧((l.Lead≠[])→∃d,b[a]?=some d∧c.length+d.Lead.length≤9223372036854775807∧∃g,b[a]?=some g∧(c++d.Lead).length+g.Text.length≤9223372036854775807∧bx m b ((c++d.Lead)++g.Text) (a+1) G))∧((¬0<(a:Int))→∃e,b[a]?=some e∧c.length+e.Lead.length≤9223372036854775807∧∃i,b[a]?=some i∧(c++e.Lead).length+i.Text.length≤9223372036854775807∧bx m b ((c++e.Lead)++i.Text) (a+1) G))∧((¬a<b.length)→c=G)):bx (m+1) b c a G:=by
 refine qj λK O J κ=>?_;refine gR 6 rfl<|gV 13 (qi (b.length:Int)) rfl (aW (ax aa.w _)) rfl<|gLB 12 rfl (ax aa.w _) λr=>gR 3 rfl<|qXh 14 rfl rfl rfl h ec ej ?_ ?_<;>intro hd h;refine gR 7 rfl<|qDs [] 24 24<|qDr (qR 0 3 0 []) rfl rfl<|qXdZ 19 18 rfl rfl rfl rfl h ?_ ?_<;>intro hd h;refine qDr [(3,2),(4,0)] rfl rfl ?_;obtain⟨l,α,h⟩:=h;refine dI 5 rfl (by kernel_rfl) (aG (au (f:=aa.w) α) ac rfl rfl rfl rfl) rfl rfl ?_;refine qDr (qR 6 5 0 []) rfl rfl<|qXeZ 27 26 rfl rfl rfl rfl h ?_ ?_<;>intro hd h;refine qDr [(11,2),(12,2)] rfl rfl ?_;obtain⟨E,h⟩:=h;refine qDr [(13,2)] rfl rfl<|gV 30 (qi ((a:Int)-1)) rfl (an E rfl) rfl ?_;obtain⟨n,θ,h⟩:=h;refine gV 30 (qi ((n:Nat):Int)) rfl (ds θ) rfl ?_;obtain⟨s,β,h⟩:=h;refine gYd 14 rfl (by kernel_rfl) (aG (au (f:=aa.w) β) ac rfl rfl rfl rfl) rfl rfl<|qDr (qR 15 3 2 [(18,0)]) rfl rfl ?_;obtain⟨t,γ,h⟩:=h;refine dI 19 rfl (by kernel_rfl) (aG (au (f:=aa.w) γ) ac rfl rfl rfl rfl) rfl rfl ?_;refine qDr [(20,0),(21,0)] rfl rfl ?_;obtain⟨o,ι,h⟩:=h;refine bD 22 ι (by kernel_rfl) rfl (by kernel_rfl) rfl rfl .rfl rfl rfl ?_;refine qDr [(23,0)] rfl rfl<|qDe<|gR 1 rfl<|qXi 40 rfl rfl rfl h ?_ ?_<;>intro hd h;refine gR 3 rfl ?_;obtain⟨E,h⟩:=h;refine gY (oE rfl rfl E) rfl rfl<|gR 3 rfl<|qDs [] 14 14<|qDr (qR 0 3 2 []) rfl rfl ?_;obtain⟨j,δ,h⟩:=h;refine gYd 3 rfl (by kernel_rfl) (aG (au (f:=aa.w) δ) ac rfl rfl rfl rfl) rfl rfl<|qDr [(4,2),(5,2)] rfl rfl ?_;obtain⟨E,h⟩:=h;refine gYd 6 rfl (by kernel_rfl) (oE rfl rfl E) rfl rfl<|qDr [(7,2),(8,0)] rfl rfl ?_;obtain⟨p,ε,h⟩:=h;refine dI 9 rfl (by kernel_rfl) (aG (au (f:=aa.w) ε) ac rfl rfl rfl rfl) rfl rfl ?_;refine qDr [(10,0),(11,0)] rfl rfl ?_;obtain⟨E,h⟩:=h;refine dI 12 rfl (by kernel_rfl) (oE rfl rfl E) rfl rfl ?_;exact qDr [(13,0)] rfl rfl<|qDe<|gR 5 rfl<|gV 16 (qi ((a+1:Nat):Int)) rfl (an (by have :=r;omega) (by omega)) rfl<|gR 2 rfl<|go_xloop<|qW J h [];refine gR 3 rfl<|qDs [] 14 14<|qDr (qR 0 3 2 []) rfl rfl ?_;obtain⟨k,ζ,h⟩:=h;refine gYd 3 rfl (by kernel_rfl) (aG (au (f:=aa.w) ζ) ac rfl rfl rfl rfl) rfl rfl<|qDr [(4,2),(5,2)] rfl rfl ?_;obtain⟨E,h⟩:=h;refine gYd 6 rfl (by kernel_rfl) (oE rfl rfl E) rfl rfl<|qDr [(7,2),(8,0)] rfl rfl ?_;obtain⟨q,η,h⟩:=h;refine dI 9 rfl (by kernel_rfl) (aG (au (f:=aa.w) η) ac rfl rfl rfl rfl) rfl rfl ?_;refine qDr [(10,0),(11,0)] rfl rfl ?_;obtain⟨E,h⟩:=h;refine dI 12 rfl (by kernel_rfl) (oE rfl rfl E) rfl rfl ?_;exact qDr [(13,0)] rfl rfl<|qDe<|gR 5 rfl<|gV 16 (qi ((a+1:Nat):Int)) rfl (an (by have :=r;omega) (by omega)) rfl<|gR 2 rfl<|go_xloop<|qW J h [];refine qDr (qR 11 7 2 (qR 18 6 0 [])) rfl rfl<|qDe<|gR 4 rfl<|qDs [] 14 14<|qDr (qR 0 3 2 []) rfl rfl ?_;obtain⟨d,v,h⟩:=h;refine gYd 3 rfl (by kernel_rfl) (aG (au (f:=aa.w) v) ac rfl rfl rfl rfl) rfl rfl<|qDr [(4,2),(5,2)] rfl rfl ?_;obtain⟨E,h⟩:=h;refine gYd 6 rfl (by kernel_rfl) (oE rfl rfl E) rfl rfl<|qDr [(7,2),(8,0)] rfl rfl ?_;obtain⟨g,x,h⟩:=h;refine dI 9 rfl (by kernel_rfl) (aG (au (f:=aa.w) x) ac rfl rfl rfl rfl) rfl rfl ?_;refine qDr [(10,0),(11,0)] rfl rfl ?_;obtain⟨E,h⟩:=h;refine dI 12 rfl (by kernel_rfl) (oE rfl rfl E) rfl rfl ?_;exact qDr [(13,0)] rfl rfl<|qDe<|gR 5 rfl<|gV 16 (qi ((a+1:Nat):Int)) rfl (an (by have :=r;omega) (by omega)) rfl<|gR 2 rfl<|go_xloop<|qW J h [];refine qDr ((3,2)::(qR 4 7 0 (qR 11 7 2 (qR 18 6 0 [])))) rfl rfl<|qDe<|gR 4 rfl<|qDs [] 14 14<|qDr (qR 0 3 2 []) rfl rfl ?_;obtain⟨e,y,h⟩:=h;refine gYd 3 rfl (by kernel_rfl) (aG (au (f:=aa.w) y) ac rfl rfl rfl rfl) rfl rfl<|qDr [(4,2),(5,2)] rfl rfl ?_;obtain⟨E,h⟩:=h;refine gYd 6 rfl (by kernel_rfl) (oE rfl rfl E) rfl rfl<|qDr [(7,2),(8,0)] rfl rfl ?_;obtain⟨i,z,h⟩:=h;refine dI 9 rfl (by kernel_rfl) (aG (au (f:=aa.w) z) ac rfl rfl rfl rfl) rfl rfl ?_;refine qDr [(10,0),(11,0)] rfl rfl ?_;obtain⟨E,h⟩:=h;refine dI 12 rfl (by kernel_rfl) (oE rfl rfl E) rfl rfl ?_;exact qDr [(13,0)] rfl rfl<|qDe<|gR 5 rfl<|gV 16 (qi ((a+1:Nat):Int)) rfl (an (by have :=r;omega) (by omega)) rfl<|gR 2 rfl<|go_xloop<|qW J h [];refine gR 3 rfl<|go_xloopE<|gR 9 rfl ?_;subst h;exact qN [.tmp 2]
theorem nX(m:Nat)(q:Tree)(E:List aa)(h:∃a,aj ([]:List aa) q a∧a=E):kx q E:=by
 refine⟨rfl,rfl,?_⟩;refine qA 5 [] func79 λK G=>?_;refine gR 3 rfl<|gFP 0 rfl rfl rfl rfl<|gR 6 rfl ?_;obtain⟨a,b,h⟩:=h;refine gCn 0 110 2 b [1] (by kernel_rfl) rfl rfl rfl rfl .rfl ⟨⟨_,rfl,⟨rfl,rfl,rfl⟩⟩,trivial⟩ rfl ?_;rintro _ _ ⟨rfl,rfl⟩;refine gHR 3 (List.map aa.w a) rfl (vD _ a) rfl<|gR 4 rfl<|gFR 3 rfl (ie _ (λ_=>rfl) _) rfl rfl ?_;subst h;exact qN [.tmp 2]
def kl(m:Nat)(q:List aa)(p1:Tree)(E:List aa):Prop:=∀(K:Ctx),ar K []→qLG K f101 (λu G=>u=.sl 1∧G=⟨2,[(1,.row 110 2 (List.map aa.w E))]⟩) (xM (xG (ae f101))) [.blk 0,.seq (xH (ae f101))] 365 (mkF 365 0 [(0,.sl 0),(3,.box (ak p1) 0),(5,qi (p1.kids.length:Int))]) ⟨1,[(0,.row 110 2 (List.map aa.w q))]⟩
def gz(m:Nat)(q:List aa)(p1:Tree)(E:List aa):Prop:=∀(K:Ctx),ar K []→qLG K f101 (λu G=>u=.sl 1∧G=⟨2,[(1,.row 110 2 (List.map aa.w E))]⟩) (xL (ae f101)) [.blk 0,.seq (xH (ae f101))] 365 (mkF 365 0 [(0,.sl 0),(3,.box (ak p1) 0),(5,qi (p1.kids.length:Int)),(11,qi p1.kind)]) ⟨1,[(0,.row 110 2 (List.map aa.w q))]⟩
def cX(m:Nat)(p1:Tree)(a:List aa)(b:Nat)(E:List aa):Prop:=∀(K:Ctx) (q:Nat),ar K []→m≤q→qLG K f101 (λu G=>u=.sl 1∧G=⟨2,[(1,.row 110 2 (List.map aa.w E))]⟩) (cL (xE (cB (xM (xG (ae f101)))))) [.loop (cL (xE (cB (xM (xG (ae f101)))))) q,.blk 1,.seq (xA (xM (xG (ae f101)))),.blk 0,.seq (xH (ae f101))] 365 (mkF 365 0 [(0,.sl 0),(3,.box (ak p1) 0),(5,qi (p1.kids.length:Int)),(6,qi (b:Int))]) ⟨1,[(0,.row 110 2 (List.map aa.w a))]⟩
def kp(m:Nat)(q:List aa)(p1:Tree)(E:List aa):Prop:=∀(K:Ctx),ar K []→qLG K f101 (λu G=>u=.sl 1∧G=⟨2,[(1,.row 110 2 (List.map aa.w E))]⟩) (xM (xL (ae f101))) [.blk 0,.seq (xH (ae f101))] 365 (mkF 365 0 [(0,.sl 0),(3,.box (ak p1) 0),(5,qi (p1.kids.length:Int))]) ⟨1,[(0,.row 110 2 (List.map aa.w q))]⟩
def gO(m:Nat)(q:List aa)(p1:Tree)(E:List aa):Prop:=∀(K:Ctx),ar K []→qLG K f101 (λu G=>u=.sl 1∧G=⟨2,[(1,.row 110 2 (List.map aa.w E))]⟩) (xC (xG (ae f101))) [.blk 0,.seq (xH (ae f101))] 365 (mkF 365 0 [(0,.sl 0),(3,.box (ak p1) 0),(5,qi (p1.kids.length:Int)),(11,qi p1.kind)]) ⟨1,[(0,.row 110 2 (List.map aa.w q))]⟩
def kq(m:Nat)(q:List aa)(p1:Tree)(E:List aa):Prop:=∀(K:Ctx),ar K []→qLG K f101 (λu G=>u=.sl 1∧G=⟨2,[(1,.row 110 2 (List.map aa.w E))]⟩) (xM (xC (xG (ae f101)))) [.blk 0,.seq (xH (ae f101))] 365 (mkF 365 0 [(0,.sl 0),(3,.box (ak p1) 0)]) ⟨1,[(0,.row 110 2 (List.map aa.w q))]⟩
def gL(m:Nat)(q:List aa)(p1:Tree)(E:List aa):Prop:=∀(K:Ctx),ar K []→qLG K f101 (λu G=>u=.sl 1∧G=⟨2,[(1,.row 110 2 (List.map aa.w E))]⟩) (xC (xL (ae f101))) [.blk 0,.seq (xH (ae f101))] 365 (mkF 365 0 [(0,.sl 0),(3,.box (ak p1) 0),(5,qi (p1.kids.length:Int)),(11,qi p1.kind)]) ⟨1,[(0,.row 110 2 (List.map aa.w q))]⟩
def kn(m:Nat)(q:List aa)(p1:Tree)(E:List aa):Prop:=∀(K:Ctx),ar K []→qLG K f101 (λu G=>u=.sl 1∧G=⟨2,[(1,.row 110 2 (List.map aa.w E))]⟩) (xM (xC (xL (ae f101)))) [.blk 0,.seq (xH (ae f101))] 365 (mkF 365 0 [(0,.sl 0),(3,.box (ak p1) 0)]) ⟨1,[(0,.row 110 2 (List.map aa.w q))]⟩
def gA(m:Nat)(q:List aa)(p1:Tree)(E:List aa):Prop:=∀(K:Ctx),ar K []→qLG K f101 (λu G=>u=.sl 1∧G=⟨2,[(1,.row 110 2 (List.map aa.w E))]⟩) (xF (xG (ae f101))) [.blk 0,.seq (xH (ae f101))] 365 (mkF 365 0 [(0,.sl 0),(3,.box (ak p1) 0),(5,qi (p1.kids.length:Int)),(11,qi p1.kind)]) ⟨1,[(0,.row 110 2 (List.map aa.w q))]⟩
def gI(m:Nat)(q:List aa)(p1:Tree)(E:List aa):Prop:=∀(K:Ctx),ar K []→qLG K f101 (λu G=>u=.sl 1∧G=⟨2,[(1,.row 110 2 (List.map aa.w E))]⟩) (xF (xL (ae f101))) [.blk 0,.seq (xH (ae f101))] 365 (mkF 365 0 [(0,.sl 0),(3,.box (ak p1) 0),(5,qi (p1.kids.length:Int)),(11,qi p1.kind)]) ⟨1,[(0,.row 110 2 (List.map aa.w q))]⟩
def fY(m:Nat)(q:List aa)(p1:Tree)(E:List aa):Prop:=∀(K:Ctx),ar K []→qLG K f101 (λu G=>u=.sl 1∧G=⟨2,[(1,.row 110 2 (List.map aa.w E))]⟩) (xF (xC (xG (ae f101)))) [.blk 0,.seq (xH (ae f101))] 365 (mkF 365 0 [(0,.sl 0),(3,.box (ak p1) 0),(5,qi (p1.kids.length:Int)),(11,qi p1.kind)]) ⟨1,[(0,.row 110 2 (List.map aa.w q))]⟩
def fV(m:Nat)(q:List aa)(p1:Tree)(E:List aa):Prop:=∀(K:Ctx),ar K []→qLG K f101 (λu G=>u=.sl 1∧G=⟨2,[(1,.row 110 2 (List.map aa.w E))]⟩) (xF (xC (xL (ae f101)))) [.blk 0,.seq (xH (ae f101))] 365 (mkF 365 0 [(0,.sl 0),(3,.box (ak p1) 0),(5,qi (p1.kids.length:Int)),(11,qi p1.kind)]) ⟨1,[(0,.row 110 2 (List.map aa.w q))]⟩
def gd(m:Nat)(q:List aa)(p1:Tree)(E:List aa):Prop:=∀(K:Ctx),ar K []→qLG K f101 (λu G=>u=.sl 1∧G=⟨2,[(1,.row 110 2 (List.map aa.w E))]⟩) (xK (xG (ae f101))) [.blk 0,.seq (xH (ae f101))] 365 (mkF 365 0 [(0,.sl 0),(3,.box (ak p1) 0),(5,qi (p1.kids.length:Int)),(11,qi p1.kind)]) ⟨1,[(0,.row 110 2 (List.map aa.w q))]⟩
def gc(m:Nat)(q:List aa)(p1:Tree)(E:List aa):Prop:=∀(K:Ctx),ar K []→qLG K f101 (λu G=>u=.sl 1∧G=⟨2,[(1,.row 110 2 (List.map aa.w E))]⟩) (xK (xL (ae f101))) [.blk 0,.seq (xH (ae f101))] 365 (mkF 365 0 [(0,.sl 0),(3,.box (ak p1) 0),(5,qi (p1.kids.length:Int)),(11,qi p1.kind)]) ⟨1,[(0,.row 110 2 (List.map aa.w q))]⟩
def fS(m:Nat)(q:List aa)(p1:Tree)(E:List aa):Prop:=∀(K:Ctx),ar K []→qLG K f101 (λu G=>u=.sl 1∧G=⟨2,[(1,.row 110 2 (List.map aa.w E))]⟩) (xK (xC (xG (ae f101)))) [.blk 0,.seq (xH (ae f101))] 365 (mkF 365 0 [(0,.sl 0),(3,.box (ak p1) 0),(5,qi (p1.kids.length:Int)),(11,qi p1.kind)]) ⟨1,[(0,.row 110 2 (List.map aa.w q))]⟩
def jD(m:Nat)(q:List aa)(p1:Tree)(E:List aa):Prop:=∀(K:Ctx),ar K []→qLG K f101 (λu G=>u=.sl 1∧G=⟨2,[(1,.row 110 2 (List.map aa.w E))]⟩) (xM (xK (xC (xG (ae f101))))) [.blk 0,.seq (xH (ae f101))] 365 (mkF 365 0 [(0,.sl 0),(3,.box (ak p1) 0)]) ⟨1,[(0,.row 110 2 (List.map aa.w q))]⟩
def fQ(m:Nat)(q:List aa)(p1:Tree)(E:List aa):Prop:=∀(K:Ctx),ar K []→qLG K f101 (λu G=>u=.sl 1∧G=⟨2,[(1,.row 110 2 (List.map aa.w E))]⟩) (xK (xC (xL (ae f101)))) [.blk 0,.seq (xH (ae f101))] 365 (mkF 365 0 [(0,.sl 0),(3,.box (ak p1) 0),(5,qi (p1.kids.length:Int)),(11,qi p1.kind)]) ⟨1,[(0,.row 110 2 (List.map aa.w q))]⟩
def jM(m:Nat)(q:List aa)(p1:Tree)(E:List aa):Prop:=∀(K:Ctx),ar K []→qLG K f101 (λu G=>u=.sl 1∧G=⟨2,[(1,.row 110 2 (List.map aa.w E))]⟩) (xM (xK (xC (xL (ae f101))))) [.blk 0,.seq (xH (ae f101))] 365 (mkF 365 0 [(0,.sl 0),(3,.box (ak p1) 0),(5,qi (p1.kids.length:Int))]) ⟨1,[(0,.row 110 2 (List.map aa.w q))]⟩
def fR(m:Nat)(q:List aa)(p1:Tree)(E:List aa):Prop:=∀(K:Ctx),ar K []→qLG K f101 (λu G=>u=.sl 1∧G=⟨2,[(1,.row 110 2 (List.map aa.w E))]⟩) (xK (xF (xG (ae f101)))) [.blk 0,.seq (xH (ae f101))] 365 (mkF 365 0 [(0,.sl 0),(3,.box (ak p1) 0),(5,qi (p1.kids.length:Int)),(11,qi p1.kind)]) ⟨1,[(0,.row 110 2 (List.map aa.w q))]⟩
def fU(m:Nat)(q:List aa)(p1:Tree)(E:List aa):Prop:=∀(K:Ctx),ar K []→qLG K f101 (λu G=>u=.sl 1∧G=⟨2,[(1,.row 110 2 (List.map aa.w E))]⟩) (xK (xF (xL (ae f101)))) [.blk 0,.seq (xH (ae f101))] 365 (mkF 365 0 [(0,.sl 0),(3,.box (ak p1) 0),(5,qi (p1.kids.length:Int)),(11,qi p1.kind)]) ⟨1,[(0,.row 110 2 (List.map aa.w q))]⟩
def jN(m:Nat)(q:List aa)(p1:Tree)(E:List aa):Prop:=∀(K:Ctx),ar K []→qLG K f101 (λu G=>u=.sl 1∧G=⟨2,[(1,.row 110 2 (List.map aa.w E))]⟩) (xM (xK (xF (xL (ae f101))))) [.blk 0,.seq (xH (ae f101))] 365 (mkF 365 0 [(0,.sl 0),(3,.box (ak p1) 0),(5,qi (p1.kids.length:Int))]) ⟨1,[(0,.row 110 2 (List.map aa.w q))]⟩
def fT(m:Nat)(q:List aa)(p1:Tree)(E:List aa):Prop:=∀(K:Ctx),ar K []→qLG K f101 (λu G=>u=.sl 1∧G=⟨2,[(1,.row 110 2 (List.map aa.w E))]⟩) (xK (xF (xC (xG (ae f101))))) [.blk 0,.seq (xH (ae f101))] 365 (mkF 365 0 [(0,.sl 0),(3,.box (ak p1) 0),(11,qi p1.kind)]) ⟨1,[(0,.row 110 2 (List.map aa.w q))]⟩
def jJ(m:Nat)(q:List aa)(p1:Tree)(E:List aa):Prop:=∀(K:Ctx),ar K []→qLG K f101 (λu G=>u=.sl 1∧G=⟨2,[(1,.row 110 2 (List.map aa.w E))]⟩) (xM (xK (xF (xC (xG (ae f101)))))) [.blk 0,.seq (xH (ae f101))] 365 (mkF 365 0 [(0,.sl 0),(3,.box (ak p1) 0)]) ⟨1,[(0,.row 110 2 (List.map aa.w q))]⟩
def gf(m:Nat)(q:List aa)(p1:Tree)(E:List aa):Prop:=∀(K:Ctx),ar K []→qLG K f101 (λu G=>u=.sl 1∧G=⟨2,[(1,.row 110 2 (List.map aa.w E))]⟩) (xK (xF (xC (xL (ae f101))))) [.blk 0,.seq (xH (ae f101))] 365 (mkF 365 0 [(0,.sl 0),(3,.box (ak p1) 0),(11,qi p1.kind)]) ⟨1,[(0,.row 110 2 (List.map aa.w q))]⟩
def jI(m:Nat)(q:List aa)(p1:Tree)(E:List aa):Prop:=∀(K:Ctx),ar K []→qLG K f101 (λu G=>u=.sl 1∧G=⟨2,[(1,.row 110 2 (List.map aa.w E))]⟩) (xM (xK (xF (xC (xL (ae f101)))))) [.blk 0,.seq (xH (ae f101))] 365 (mkF 365 0 [(0,.sl 0),(3,.box (ak p1) 0)]) ⟨1,[(0,.row 110 2 (List.map aa.w q))]⟩
def fX(m:Nat)(q:List aa)(p1:Tree)(E:List aa):Prop:=∀(K:Ctx),ar K []→qLG K f101 (λu G=>u=.sl 1∧G=⟨2,[(1,.row 110 2 (List.map aa.w E))]⟩) (xK (xK (xG (ae f101)))) [.blk 0,.seq (xH (ae f101))] 365 (mkF 365 0 [(0,.sl 0),(3,.box (ak p1) 0),(11,qi p1.kind)]) ⟨1,[(0,.row 110 2 (List.map aa.w q))]⟩
def jB(m:Nat)(q:List aa)(p1:Tree)(E:List aa):Prop:=∀(K:Ctx),ar K []→qLG K f101 (λu G=>u=.sl 1∧G=⟨2,[(1,.row 110 2 (List.map aa.w E))]⟩) (xM (xK (xK (xG (ae f101))))) [.blk 0,.seq (xH (ae f101))] 365 (mkF 365 0 [(0,.sl 0),(3,.box (ak p1) 0)]) ⟨1,[(0,.row 110 2 (List.map aa.w q))]⟩
def fW(m:Nat)(q:List aa)(p1:Tree)(E:List aa):Prop:=∀(K:Ctx),ar K []→qLG K f101 (λu G=>u=.sl 1∧G=⟨2,[(1,.row 110 2 (List.map aa.w E))]⟩) (xK (xK (xL (ae f101)))) [.blk 0,.seq (xH (ae f101))] 365 (mkF 365 0 [(0,.sl 0),(3,.box (ak p1) 0),(11,qi p1.kind)]) ⟨1,[(0,.row 110 2 (List.map aa.w q))]⟩
def jF(m:Nat)(q:List aa)(p1:Tree)(E:List aa):Prop:=∀(K:Ctx),ar K []→qLG K f101 (λu G=>u=.sl 1∧G=⟨2,[(1,.row 110 2 (List.map aa.w E))]⟩) (xM (xK (xK (xL (ae f101))))) [.blk 0,.seq (xH (ae f101))] 365 (mkF 365 0 [(0,.sl 0),(3,.box (ak p1) 0)]) ⟨1,[(0,.row 110 2 (List.map aa.w q))]⟩
theorem kg(m:Nat)(E:List aa)(p1:Tree)(G:List aa)(h:((p1.kind=1)→kl m E p1 G)∧((p1.kind≠1)→gz m E p1 G)):aj E p1 G:=by
 refine qA 365 [] func101 λK q=>?_;refine gR 3 rfl<|gFP 1 rfl rfl rfl rfl<|gR 8 rfl<|gV 9 (qi (p1.kids.length:Int)) rfl (aW (aN _)) rfl<|gLB 8 rfl (aN _) λa=>gR 17 rfl<|qBeZ 12 13 rfl rfl rfl rfl h ?_ ?_<;>intro h;exact gR 1 rfl<|qJ q (h K q) [0];exact gR 1 rfl<|qJ q (h K q) [0]
theorem nE(m:Nat)(p0:List aa)(p1:Tree)(r0:List aa)(h:∃a,ai p1 0 a∧∃b,ai p1 1 b∧(p0++[(aa.mk a [109,111,100,117,108,101]),(aa.mk b p1.text)]).length≤1000000000∧cX m p1 (p0++[(aa.mk a [109,111,100,117,108,101]),(aa.mk b p1.text)]) 0 r0):kl (m+1) p0 p1 r0:=by
 intro K hK;refine gR 1 rfl<|qDs [] 12 12<|qDr [(0,2),(1,2),(4,2),(6,2),(7,2)] rfl rfl ?_;obtain⟨a,c,h⟩:=h;refine bD 2 c (by kernel_rfl) rfl (by kernel_rfl) rfl rfl .rfl rfl rfl ?_;refine qDr [(3,2)] rfl rfl ?_;obtain⟨b,d,h⟩:=h;refine bD 5 d (by kernel_rfl) rfl (by kernel_rfl) rfl rfl .rfl rfl rfl ?_;refine qDr [(8,0),(9,0)] rfl rfl ?_;obtain⟨hb,h⟩:=h;refine bY 10 (.repl 0 (.row 110 2 (List.map aa.w (p0++[(aa.mk a [109,111,100,117,108,101]),(aa.mk b p1.text)])))) rfl (by kernel_rfl) (bm ac rfl rfl rfl rfl rfl (List.map_append (f:=aa.w) (l₁:=p0) (l₂:=[(aa.mk a [109,111,100,117,108,101]),(aa.mk b p1.text)])).symm (by rw[ax];exact hb)) (okR rfl) rfl (by kernel_rfl) rfl rfl ?_;exact qDr [(11,0)] rfl rfl<|qDe<|gR 8 rfl<|go_loop m<|qW hK h [2]
theorem jK(m:Nat)(E:List aa)(p1:Tree)(G:List aa)(h:((p1.kind=2)→kp m E p1 G)∧((p1.kind≠2)→gO m E p1 G)):gz (m+1) E p1 G:=by
 intro K q;refine gR 6 rfl<|qBeZ 43 44 rfl rfl rfl rfl h ?_ ?_<;>intro h;exact gR 1 rfl<|qJ q (h K q) [0];exact gR 1 rfl<|qJ q (h K q) [0]
theorem jS(m:Nat)(p1:Tree)(b:List aa)(a:Nat)(q:List aa)(h:((a<p1.kids.length)→∃e,p1.kids[a]?=some e∧∃d,aj b e d∧a+1≤9223372036854775807∧cX m p1 d (a+1) q)∧((¬a<p1.kids.length)→∃c,ai p1 2 c∧(b++[(aa.mk c [])]).length≤1000000000∧(b++[(aa.mk c [])])=q)):cX (m+1) p1 b a q:=by
 refine qj λK J E j=>?_;refine gR 8 rfl<|qXh 27 rfl rfl rfl h ec ej ?_ ?_<;>intro hd h;refine gR 10 rfl ?_;obtain⟨e,f,h⟩:=h;refine gY (aG (aq f) ac rfl rfl rfl rfl) rfl rfl<|gR 1 rfl ?_;obtain⟨d,g,h⟩:=h;refine qC g [0] ?_;refine gHR 2 (List.map aa.w d) rfl (vD _ d) rfl<|gR 6 rfl ?_;obtain⟨G,h⟩:=h;exact gR 1 rfl<|gV 29 (qi ((a+1:Nat):Int)) rfl (an (by omega) (by omega)) rfl<|gR 2 rfl<|go_xloop<|qW E h [2];refine gR 3 rfl<|go_xloopE<|gR 6 rfl ?_;obtain⟨c,i,h⟩:=h;refine qC0 i rfl<|gR 2 rfl ?_;obtain⟨G,h⟩:=h;refine gDo (.repl 0 (.row 110 2 (List.map aa.w (b++[(aa.mk c [])])))) (bm ac rfl rfl rfl rfl rfl (apM aa.w b (aa.mk c [])) (by rw[ax];exact G)) (okR rfl) rfl rfl rfl<|gR 6 rfl ?_;subst h;exact gE E [] [(4,.sl 1)] [1000,2] [.tmp 4]
theorem nD(m:Nat)(G:List aa)(p1:Tree)(J:List aa)(h:∃e,ai p1 0 e∧∃g,ai p1 1 g∧∃i,ai p1 2 i∧(G++[(aa.mk e [100,101,102]),(aa.mk g p1.text),(aa.mk i [40])]).length≤1000000000∧InI ((p1.kids.length:Int)-2)∧∃c,dj (G++[(aa.mk e [100,101,102]),(aa.mk g p1.text),(aa.mk i [40])]) p1 0 ((p1.kids.length:Int)-2) 6 c∧∃j,ai p1 3 j∧∃k,ai p1 4 k∧(c++[(aa.mk j [41]),(aa.mk k [58])]).length≤1000000000∧InI ((p1.kids.length:Int)-2)∧∃o,((p1.kids.length:Int)-2)=((o:Nat):Int)∧∃p,p1.kids[o]?=some p∧∃b,aj (c++[(aa.mk j [41]),(aa.mk k [58])]) p b∧∃a,ai p1 5 a∧(b++[(aa.mk a [61])]).length≤1000000000∧InI ((p1.kids.length:Int)-1)∧∃l,((p1.kids.length:Int)-1)=((l:Nat):Int)∧∃n,p1.kids[l]?=some n∧∃d,aj (b++[(aa.mk a [61])]) n d∧d=J):kp (m+1) G p1 J:=by
 intro K O;refine gR 1 rfl<|qDs [] 15 15<|qDr [(0,2),(1,2),(4,2),(6,2),(7,2),(9,2)] rfl rfl ?_;obtain⟨e,t,h⟩:=h;refine bD 2 t (by kernel_rfl) rfl (by kernel_rfl) rfl rfl .rfl rfl rfl ?_;refine qDr [(3,2)] rfl rfl ?_;obtain⟨g,v,h⟩:=h;refine bD 5 v (by kernel_rfl) rfl (by kernel_rfl) rfl rfl .rfl rfl rfl ?_;refine qDr [(8,2)] rfl rfl ?_;obtain⟨i,x,h⟩:=h;refine bD 10 x (by kernel_rfl) rfl (by kernel_rfl) rfl rfl .rfl rfl rfl ?_;refine qDr [(11,0),(12,0)] rfl rfl ?_;obtain⟨E,h⟩:=h;refine bY 13 (.repl 0 (.row 110 2 (List.map aa.w (G++[(aa.mk e [100,101,102]),(aa.mk g p1.text),(aa.mk i [40])])))) rfl (by kernel_rfl) (bm ac rfl rfl rfl rfl rfl (List.map_append (f:=aa.w) (l₁:=G) (l₂:=[(aa.mk e [100,101,102]),(aa.mk g p1.text),(aa.mk i [40])])).symm (by rw[ax];exact E)) (okR rfl) rfl (by kernel_rfl) rfl rfl ?_;refine qDr [(14,0)] rfl rfl<|qDe<|gR 6 rfl ?_;obtain⟨E,h⟩:=h;refine gR 1 rfl<|gV 62 (qi ((p1.kids.length:Int)-2)) rfl (an E rfl) rfl ?_;obtain⟨c,y,h⟩:=h;refine qC y [2] ?_;refine gHR 4 (List.map aa.w c) rfl (vD _ c) rfl<|gR 4 rfl<|qDs [] 10 10<|qDr [(0,2),(1,2),(4,2)] rfl rfl ?_;obtain⟨j,z,h⟩:=h;refine bD 2 z (by kernel_rfl) rfl (by kernel_rfl) rfl rfl .rfl rfl rfl ?_;refine qDr [(3,2)] rfl rfl ?_;obtain⟨k,α,h⟩:=h;refine bD 5 α (by kernel_rfl) rfl (by kernel_rfl) rfl rfl .rfl rfl rfl ?_;refine qDr [(6,0),(7,0)] rfl rfl ?_;obtain⟨E,h⟩:=h;refine bY 8 (.repl 4 (.row 110 2 (List.map aa.w (c++[(aa.mk j [41]),(aa.mk k [58])])))) rfl (by kernel_rfl) (bm ac rfl rfl rfl rfl rfl (List.map_append (f:=aa.w) (l₁:=c) (l₂:=[(aa.mk j [41]),(aa.mk k [58])])).symm (by rw[ax];exact E)) (okR rfl) rfl (by kernel_rfl) rfl rfl ?_;refine qDr [(9,0)] rfl rfl<|qDe<|gR 2 rfl<|qDs [] 14 14<|qDr (qR 0 4 2 []) rfl rfl ?_;obtain⟨E,h⟩:=h;refine qDr [(4,2)] rfl rfl<|gV 77 (qi ((p1.kids.length:Int)-2)) rfl (an E rfl) rfl ?_;obtain⟨o,β,h⟩:=h;refine gV 77 (qi ((o:Nat):Int)) rfl (ds β) rfl ?_;obtain⟨p,r,h⟩:=h;refine gYd 5 rfl (by kernel_rfl) (aG (aq r) ac rfl rfl rfl rfl) rfl rfl<|qDr [(6,2),(8,2)] rfl rfl ?_;obtain⟨b,γ,h⟩:=h;refine qDC 7 γ [6] rfl ?_;refine gHR 8 (List.map aa.w b) rfl (vD _ b) rfl ?_;obtain⟨a,δ,h⟩:=h;refine bD 9 δ (by kernel_rfl) rfl (by kernel_rfl) rfl rfl .rfl rfl rfl ?_;refine qDr [(10,0),(11,0)] rfl rfl ?_;obtain⟨E,h⟩:=h;refine bY 12 (.repl 8 (.row 110 2 (List.map aa.w (b++[(aa.mk a [61])])))) rfl (by kernel_rfl) (bm ac rfl rfl rfl rfl rfl (apM aa.w b (aa.mk a [61])) (by rw[ax];exact E)) (okR rfl) rfl (by kernel_rfl) rfl rfl ?_;refine qDr [(13,0)] rfl rfl<|qDe<|gR 1 rfl<|go_sub (F':=(mkF 365 0 [(0,.sl 0),(3,.box (ak p1) 0),(5,qi (p1.kids.length:Int))])) (H':=⟨1,[(0,.row 110 2 (List.map aa.w (b++[(aa.mk a [61])])))]⟩) [10] [] rfl O pq3 ⟨⟨_,rfl,rfl,rfl,(vD _ (b++[(aa.mk a [61])])).symm⟩,trivial⟩ rfl<|gR 6 rfl ?_;obtain⟨E,h⟩:=h;refine gR 1 rfl<|gV 90 (qi ((p1.kids.length:Int)-1)) rfl (an E rfl) rfl ?_;obtain⟨l,s,h⟩:=h;refine gV 90 (qi ((l:Nat):Int)) rfl (ds s) rfl ?_;obtain⟨n,q,h⟩:=h;refine gY (aG (aq q) ac rfl rfl rfl rfl) rfl rfl<|gR 1 rfl ?_;obtain⟨d,ε,h⟩:=h;refine qC ε [0] ?_;refine gHR 2 (List.map aa.w d) rfl (vD _ d) rfl<|gR 6 rfl ?_;subst h;exact gE O [] [(4,.sl 1)] [1000,2] [.tmp 4]
theorem jO(m:Nat)(E:List aa)(p1:Tree)(G:List aa)(h:((p1.kind=3)→kq m E p1 G)∧((p1.kind≠3)→gL m E p1 G)):gO (m+1) E p1 G:=by
 intro K q;refine gR 6 rfl<|qBeZ 94 95 rfl rfl rfl rfl h ?_ ?_<;>intro h;exact gR 1 rfl<|qJ q (h K q) [0];exact gR 1 rfl<|qJ q (h K q) [0]
theorem nK(m:Nat)(q:List aa)(p1:Tree)(E:List aa)(h:∃a,ai p1 0 a∧∃b,ai p1 1 b∧∃c,ai p1 2 c∧(q++[(aa.mk a [116,121,112,101]),(aa.mk b p1.text),(aa.mk c [61])]).length≤1000000000∧∃e,p1.kids[0]?=some e∧∃d,aj (q++[(aa.mk a [116,121,112,101]),(aa.mk b p1.text),(aa.mk c [61])]) e d∧d=E):kq (m+1) q p1 E:=by
 intro K G;refine gR 1 rfl<|qDs [] 15 15<|qDr [(0,2),(1,2),(4,2),(6,2),(7,2),(9,2)] rfl rfl ?_;obtain⟨a,i,h⟩:=h;refine bD 2 i (by kernel_rfl) rfl (by kernel_rfl) rfl rfl .rfl rfl rfl ?_;refine qDr [(3,2)] rfl rfl ?_;obtain⟨b,j,h⟩:=h;refine bD 5 j (by kernel_rfl) rfl (by kernel_rfl) rfl rfl .rfl rfl rfl ?_;refine qDr [(8,2)] rfl rfl ?_;obtain⟨c,k,h⟩:=h;refine bD 10 k (by kernel_rfl) rfl (by kernel_rfl) rfl rfl .rfl rfl rfl ?_;refine qDr [(11,0),(12,0)] rfl rfl ?_;obtain⟨J,h⟩:=h;refine bY 13 (.repl 0 (.row 110 2 (List.map aa.w (q++[(aa.mk a [116,121,112,101]),(aa.mk b p1.text),(aa.mk c [61])])))) rfl (by kernel_rfl) (bm ac rfl rfl rfl rfl rfl (List.map_append (f:=aa.w) (l₁:=q) (l₂:=[(aa.mk a [116,121,112,101]),(aa.mk b p1.text),(aa.mk c [61])])).symm (by rw[ax];exact J)) (okR rfl) rfl (by kernel_rfl) rfl rfl ?_;refine qDr [(14,0)] rfl rfl<|qDe<|gR 6 rfl ?_;obtain⟨e,g,h⟩:=h;refine gY (aG (aq g) ac rfl rfl rfl rfl) rfl rfl<|gR 1 rfl ?_;obtain⟨d,l,h⟩:=h;refine qC l [2] ?_;refine gHR 4 (List.map aa.w d) rfl (vD _ d) rfl<|gR 6 rfl ?_;subst h;exact gE G [] [(4,.sl 1)] [1000,4] [.tmp 4]
theorem jR(m:Nat)(E:List aa)(p1:Tree)(G:List aa)(h:((p1.kind=4)→kn m E p1 G)∧((p1.kind≠4)→gA m E p1 G)):gL (m+1) E p1 G:=by
 intro K q;refine gR 6 rfl<|qBeZ 116 117 rfl rfl rfl rfl h ?_ ?_<;>intro h;exact gR 1 rfl<|qJ q (h K q) [0];exact gR 1 rfl<|qJ q (h K q) [0]
theorem nF(m:Nat)(q:List aa)(p1:Tree)(E:List aa)(h:∃a,ai p1 0 a∧∃b,ai p1 1 b∧(q++[(aa.mk a p1.text),(aa.mk b [58])]).length≤1000000000∧∃d,p1.kids[0]?=some d∧∃c,aj (q++[(aa.mk a p1.text),(aa.mk b [58])]) d c∧c=E):kn (m+1) q p1 E:=by
 intro K G;refine gR 1 rfl<|qDs [] 12 12<|qDr [(0,2),(1,2),(3,2),(4,2),(6,2)] rfl rfl ?_;obtain⟨a,g,h⟩:=h;refine bD 2 g (by kernel_rfl) rfl (by kernel_rfl) rfl rfl .rfl rfl rfl ?_;refine qDr [(5,2)] rfl rfl ?_;obtain⟨b,i,h⟩:=h;refine bD 7 i (by kernel_rfl) rfl (by kernel_rfl) rfl rfl .rfl rfl rfl ?_;refine qDr [(8,0),(9,0)] rfl rfl ?_;obtain⟨J,h⟩:=h;refine bY 10 (.repl 0 (.row 110 2 (List.map aa.w (q++[(aa.mk a p1.text),(aa.mk b [58])])))) rfl (by kernel_rfl) (bm ac rfl rfl rfl rfl rfl (List.map_append (f:=aa.w) (l₁:=q) (l₂:=[(aa.mk a p1.text),(aa.mk b [58])])).symm (by rw[ax];exact J)) (okR rfl) rfl (by kernel_rfl) rfl rfl ?_;refine qDr [(11,0)] rfl rfl<|qDe<|gR 6 rfl ?_;obtain⟨d,e,h⟩:=h;refine gY (aG (aq e) ac rfl rfl rfl rfl) rfl rfl<|gR 1 rfl ?_;obtain⟨c,j,h⟩:=h;refine qC j [2] ?_;refine gHR 4 (List.map aa.w c) rfl (vD _ c) rfl<|gR 6 rfl ?_;subst h;exact gE G [] [(4,.sl 1)] [1000,4] [.tmp 4]
theorem jC(m:Nat)(q:List aa)(p1:Tree)(E:List aa)(h:((p1.kind=5)→∃a,ai p1 0 a∧(q++[(aa.mk a [73,110,116])]).length≤1000000000∧(q++[(aa.mk a [73,110,116])])=E)∧((p1.kind≠5)→gI m q p1 E)):gA (m+1) q p1 E:=by
 intro K G;refine gR 6 rfl<|qBeZ 135 136 rfl rfl rfl rfl h ?_ ?_<;>intro h;refine gR 5 rfl ?_;obtain⟨a,b,h⟩:=h;refine qC0 b rfl<|gR 2 rfl ?_;obtain⟨J,h⟩:=h;refine gDo (.repl 0 (.row 110 2 (List.map aa.w (q++[(aa.mk a [73,110,116])])))) (bm ac rfl rfl rfl rfl rfl (apM aa.w q (aa.mk a [73,110,116])) (by rw[ax];exact J)) (okR rfl) rfl rfl rfl<|gR 6 rfl ?_;subst h;exact gE G [] [(4,.sl 1)] [1000,2] [.tmp 4];exact gR 1 rfl<|qJ G (h K G) [0]
theorem jG(m:Nat)(q:List aa)(p1:Tree)(E:List aa)(h:((p1.kind=6)→∃a,ai p1 0 a∧(q++[(aa.mk a [84,101,120,116])]).length≤1000000000∧(q++[(aa.mk a [84,101,120,116])])=E)∧((p1.kind≠6)→fY m q p1 E)):gI (m+1) q p1 E:=by
 intro K G;refine gR 6 rfl<|qBeZ 143 144 rfl rfl rfl rfl h ?_ ?_<;>intro h;refine gR 5 rfl ?_;obtain⟨a,b,h⟩:=h;refine qC0 b rfl<|gR 2 rfl ?_;obtain⟨J,h⟩:=h;refine gDo (.repl 0 (.row 110 2 (List.map aa.w (q++[(aa.mk a [84,101,120,116])])))) (bm ac rfl rfl rfl rfl rfl (apM aa.w q (aa.mk a [84,101,120,116])) (by rw[ax];exact J)) (okR rfl) rfl rfl rfl<|gR 6 rfl ?_;subst h;exact gE G [] [(4,.sl 1)] [1000,2] [.tmp 4];exact gR 1 rfl<|qJ G (h K G) [0]
theorem jq(m:Nat)(q:List aa)(p1:Tree)(E:List aa)(h:((p1.kind=7)→∃a,ai p1 0 a∧(q++[(aa.mk a [66,111,111,108])]).length≤1000000000∧(q++[(aa.mk a [66,111,111,108])])=E)∧((p1.kind≠7)→fV m q p1 E)):fY (m+1) q p1 E:=by
 intro K G;refine gR 6 rfl<|qBeZ 151 152 rfl rfl rfl rfl h ?_ ?_<;>intro h;refine gR 5 rfl ?_;obtain⟨a,b,h⟩:=h;refine qC0 b rfl<|gR 2 rfl ?_;obtain⟨J,h⟩:=h;refine gDo (.repl 0 (.row 110 2 (List.map aa.w (q++[(aa.mk a [66,111,111,108])])))) (bm ac rfl rfl rfl rfl rfl (apM aa.w q (aa.mk a [66,111,111,108])) (by rw[ax];exact J)) (okR rfl) rfl rfl rfl<|gR 6 rfl ?_;subst h;exact gE G [] [(4,.sl 1)] [1000,2] [.tmp 4];exact gR 1 rfl<|qJ G (h K G) [0]
theorem jm(m:Nat)(q:List aa)(p1:Tree)(E:List aa)(h:((p1.kind=13)→∃a,ai p1 0 a∧(q++[(aa.mk a [116,114,117,101])]).length≤1000000000∧(q++[(aa.mk a [116,114,117,101])])=E)∧((p1.kind≠13)→gd m q p1 E)):fV (m+1) q p1 E:=by
 intro K G;refine gR 6 rfl<|qBeZ 159 160 rfl rfl rfl rfl h ?_ ?_<;>intro h;refine gR 5 rfl ?_;obtain⟨a,b,h⟩:=h;refine qC0 b rfl<|gR 2 rfl ?_;obtain⟨J,h⟩:=h;refine gDo (.repl 0 (.row 110 2 (List.map aa.w (q++[(aa.mk a [116,114,117,101])])))) (bm ac rfl rfl rfl rfl rfl (apM aa.w q (aa.mk a [116,114,117,101])) (by rw[ax];exact J)) (okR rfl) rfl rfl rfl<|gR 6 rfl ?_;subst h;exact gE G [] [(4,.sl 1)] [1000,2] [.tmp 4];exact gR 1 rfl<|qJ G (h K G) [0]
theorem ji(m:Nat)(q:List aa)(p1:Tree)(E:List aa)(h:((p1.kind=14)→∃a,ai p1 0 a∧(q++[(aa.mk a [102,97,108,115,101])]).length≤1000000000∧(q++[(aa.mk a [102,97,108,115,101])])=E)∧((p1.kind≠14)→gc m q p1 E)):gd (m+1) q p1 E:=by
 intro K G;refine gR 6 rfl<|qBeZ 167 168 rfl rfl rfl rfl h ?_ ?_<;>intro h;refine gR 5 rfl ?_;obtain⟨a,b,h⟩:=h;refine qC0 b rfl<|gR 2 rfl ?_;obtain⟨J,h⟩:=h;refine gDo (.repl 0 (.row 110 2 (List.map aa.w (q++[(aa.mk a [102,97,108,115,101])])))) (bm ac rfl rfl rfl rfl rfl (apM aa.w q (aa.mk a [102,97,108,115,101])) (by rw[ax];exact J)) (okR rfl) rfl rfl rfl<|gR 6 rfl ?_;subst h;exact gE G [] [(4,.sl 1)] [1000,2] [.tmp 4];exact gR 1 rfl<|qJ G (h K G) [0]
theorem jk(m:Nat)(q:List aa)(p1:Tree)(E:List aa)(h:((p1.kind=15)→∃a,ai p1 0 a∧(q++[(aa.mk a [63])]).length≤1000000000∧(q++[(aa.mk a [63])])=E)∧((p1.kind≠15)→fS m q p1 E)):gc (m+1) q p1 E:=by
 intro K G;refine gR 6 rfl<|qBeZ 175 176 rfl rfl rfl rfl h ?_ ?_<;>intro h;refine gR 5 rfl ?_;obtain⟨a,b,h⟩:=h;refine qC0 b rfl<|gR 2 rfl ?_;obtain⟨J,h⟩:=h;refine gDo (.repl 0 (.row 110 2 (List.map aa.w (q++[(aa.mk a [63])])))) (bm ac rfl rfl rfl rfl rfl (apM aa.w q (aa.mk a [63])) (by rw[ax];exact J)) (okR rfl) rfl rfl rfl<|gR 6 rfl ?_;subst h;exact gE G [] [(4,.sl 1)] [1000,2] [.tmp 4];exact gR 1 rfl<|qJ G (h K G) [0]
theorem jo(m:Nat)(E:List aa)(p1:Tree)(G:List aa)(h:((p1.kind=8)→jD m E p1 G)∧((p1.kind≠8)→fQ m E p1 G)):fS (m+1) E p1 G:=by
 intro K q;refine gR 6 rfl<|qBeZ 183 184 rfl rfl rfl rfl h ?_ ?_<;>intro h;exact gR 1 rfl<|qJ q (h K q) [0];exact gR 1 rfl<|qJ q (h K q) [0]
theorem na(m:Nat)(q:List aa)(p1:Tree)(G:List aa)(h:∃b,ai p1 0 b∧(q++[(aa.mk b [91])]).length≤1000000000∧∃d,p1.kids[0]?=some d∧∃a,aj (q++[(aa.mk b [91])]) d a∧∃c,ai p1 1 c∧(a++[(aa.mk c [93])]).length≤1000000000∧(a++[(aa.mk c [93])])=G):jD (m+1) q p1 G:=by
 intro K J;refine gR 4 rfl ?_;obtain⟨b,f,h⟩:=h;refine qC0 f rfl<|gR 2 rfl ?_;obtain⟨E,h⟩:=h;refine gDo (.repl 0 (.row 110 2 (List.map aa.w (q++[(aa.mk b [91])])))) (bm ac rfl rfl rfl rfl rfl (apM aa.w q (aa.mk b [91])) (by rw[ax];exact E)) (okR rfl) rfl rfl rfl<|gR 4 rfl<|qDs [] 12 12<|qDr (qR 0 3 2 []) rfl rfl ?_;obtain⟨d,e,h⟩:=h;refine gYd 3 rfl (by kernel_rfl) (aG (aq e) ac rfl rfl rfl rfl) rfl rfl<|qDr [(4,2),(6,2)] rfl rfl ?_;obtain⟨a,g,h⟩:=h;refine qDC 5 g [2] rfl ?_;refine gHR 4 (List.map aa.w a) rfl (vD _ a) rfl ?_;obtain⟨c,i,h⟩:=h;refine bD 7 i (by kernel_rfl) rfl (by kernel_rfl) rfl rfl .rfl rfl rfl ?_;refine qDr [(8,0),(9,0)] rfl rfl ?_;obtain⟨E,h⟩:=h;refine bY 10 (.repl 4 (.row 110 2 (List.map aa.w (a++[(aa.mk c [93])])))) rfl (by kernel_rfl) (bm ac rfl rfl rfl rfl rfl (apM aa.w a (aa.mk c [93])) (by rw[ax];exact E)) (okR rfl) rfl (by kernel_rfl) rfl rfl ?_;refine qDr [(11,0)] rfl rfl<|qDe<|gR 4 rfl ?_;subst h;exact gE J [] [(4,.sl 1)] [1000,6] [.tmp 4]
theorem js(m:Nat)(E:List aa)(p1:Tree)(G:List aa)(h:((p1.kind=16)→jM m E p1 G)∧((p1.kind≠16)→fR m E p1 G)):fQ (m+1) E p1 G:=by
 intro K q;refine gR 6 rfl<|qBeZ 202 203 rfl rfl rfl rfl h ?_ ?_<;>intro h;exact gR 1 rfl<|qJ q (h K q) [0];exact gR 1 rfl<|qJ q (h K q) [0]
theorem mU(m:Nat)(q:List aa)(p1:Tree)(G:List aa)(h:∃b,ai p1 0 b∧∃c,ai p1 1 c∧(q++[(aa.mk b p1.text),(aa.mk c [40])]).length≤1000000000∧∃a,dj (q++[(aa.mk b p1.text),(aa.mk c [40])]) p1 0 (p1.kids.length:Int) 3 a∧∃d,ai p1 2 d∧(a++[(aa.mk d [41])]).length≤1000000000∧(a++[(aa.mk d [41])])=G):jM (m+1) q p1 G:=by
 intro K J;refine gR 1 rfl<|qDs [] 12 12<|qDr [(0,2),(1,2),(3,2),(4,2),(6,2)] rfl rfl ?_;obtain⟨b,e,h⟩:=h;refine bD 2 e (by kernel_rfl) rfl (by kernel_rfl) rfl rfl .rfl rfl rfl ?_;refine qDr [(5,2)] rfl rfl ?_;obtain⟨c,g,h⟩:=h;refine bD 7 g (by kernel_rfl) rfl (by kernel_rfl) rfl rfl .rfl rfl rfl ?_;refine qDr [(8,0),(9,0)] rfl rfl ?_;obtain⟨E,h⟩:=h;refine bY 10 (.repl 0 (.row 110 2 (List.map aa.w (q++[(aa.mk b p1.text),(aa.mk c [40])])))) rfl (by kernel_rfl) (bm ac rfl rfl rfl rfl rfl (List.map_append (f:=aa.w) (l₁:=q) (l₂:=[(aa.mk b p1.text),(aa.mk c [40])])).symm (by rw[ax];exact E)) (okR rfl) rfl (by kernel_rfl) rfl rfl ?_;refine qDr [(11,0)] rfl rfl<|qDe<|gR 2 rfl<|qDs [] 10 10<|qDr (qR 0 3 2 [(4,2)]) rfl rfl ?_;obtain⟨a,i,h⟩:=h;refine qDC 3 i [2] rfl ?_;refine gHR 4 (List.map aa.w a) rfl (vD _ a) rfl ?_;obtain⟨d,j,h⟩:=h;refine bD 5 j (by kernel_rfl) rfl (by kernel_rfl) rfl rfl .rfl rfl rfl ?_;refine qDr [(6,0),(7,0)] rfl rfl ?_;obtain⟨E,h⟩:=h;refine bY 8 (.repl 4 (.row 110 2 (List.map aa.w (a++[(aa.mk d [41])])))) rfl (by kernel_rfl) (bm ac rfl rfl rfl rfl rfl (apM aa.w a (aa.mk d [41])) (by rw[ax];exact E)) (okR rfl) rfl (by kernel_rfl) rfl rfl ?_;refine qDr [(9,0)] rfl rfl<|qDe<|gR 4 rfl ?_;subst h;exact gE J [] [(4,.sl 1)] [1000,6] [.tmp 4]
theorem jh(m:Nat)(q:List aa)(p1:Tree)(E:List aa)(h:((p1.kind=17)→∃b,p1.kids[0]?=some b∧∃a,aj q b a∧a=E)∧((p1.kind≠17)→fU m q p1 E)):fR (m+1) q p1 E:=by
 intro K G;refine gR 6 rfl<|qBeZ 224 225 rfl rfl rfl rfl h ?_ ?_<;>intro h;refine gR 6 rfl ?_;obtain⟨b,c,h⟩:=h;refine gY (aG (aq c) ac rfl rfl rfl rfl) rfl rfl<|gR 1 rfl ?_;obtain⟨a,d,h⟩:=h;refine qC d [0] ?_;refine gHR 2 (List.map aa.w a) rfl (vD _ a) rfl<|gR 6 rfl ?_;subst h;exact gE G [] [(4,.sl 1)] [1000,2] [.tmp 4];exact gR 1 rfl<|qJ G (h K G) [0]
theorem jf(m:Nat)(E:List aa)(p1:Tree)(G:List aa)(h:((p1.kind=18)→jN m E p1 G)∧((p1.kind≠18)→fT m E p1 G)):fU (m+1) E p1 G:=by
 intro K q;refine gR 6 rfl<|qBeZ 232 233 rfl rfl rfl rfl h ?_ ?_<;>intro h;exact gR 1 rfl<|qJ q (h K q) [0];exact gR 1 rfl<|qJ q (h K q) [0]
theorem nb(m:Nat)(q:List aa)(p1:Tree)(G:List aa)(h:∃b,ai p1 0 b∧(q++[(aa.mk b [91])]).length≤1000000000∧∃a,dj (q++[(aa.mk b [91])]) p1 0 (p1.kids.length:Int) 2 a∧∃c,ai p1 1 c∧(a++[(aa.mk c [93])]).length≤1000000000∧(a++[(aa.mk c [93])])=G):jN (m+1) q p1 G:=by
 intro K J;refine gR 4 rfl ?_;obtain⟨b,d,h⟩:=h;refine qC0 d rfl<|gR 2 rfl ?_;obtain⟨E,h⟩:=h;refine gDo (.repl 0 (.row 110 2 (List.map aa.w (q++[(aa.mk b [91])])))) (bm ac rfl rfl rfl rfl rfl (apM aa.w q (aa.mk b [91])) (by rw[ax];exact E)) (okR rfl) rfl rfl rfl<|gR 4 rfl<|qDs [] 10 10<|qDr (qR 0 3 2 [(4,2)]) rfl rfl ?_;obtain⟨a,e,h⟩:=h;refine qDC 3 e [2] rfl ?_;refine gHR 4 (List.map aa.w a) rfl (vD _ a) rfl ?_;obtain⟨c,f,h⟩:=h;refine bD 5 f (by kernel_rfl) rfl (by kernel_rfl) rfl rfl .rfl rfl rfl ?_;refine qDr [(6,0),(7,0)] rfl rfl ?_;obtain⟨E,h⟩:=h;refine bY 8 (.repl 4 (.row 110 2 (List.map aa.w (a++[(aa.mk c [93])])))) rfl (by kernel_rfl) (bm ac rfl rfl rfl rfl rfl (apM aa.w a (aa.mk c [93])) (by rw[ax];exact E)) (okR rfl) rfl (by kernel_rfl) rfl rfl ?_;refine qDr [(9,0)] rfl rfl<|qDe<|gR 4 rfl ?_;subst h;exact gE J [] [(4,.sl 1)] [1000,6] [.tmp 4]
theorem jn(m:Nat)(E:List aa)(p1:Tree)(G:List aa)(h:((p1.kind=19)→jJ m E p1 G)∧((p1.kind≠19)→gf m E p1 G)):fT (m+1) E p1 G:=by
 intro K q;refine gR 6 rfl<|qBeZ 249 250 rfl rfl rfl rfl h ?_ ?_<;>intro h;exact gR 1 rfl<|qJ q (h K q) [0];exact gR 1 rfl<|qJ q (h K q) [0]
theorem mW(m:Nat)(E:List aa)(p1:Tree)(J:List aa)(h:∃g,p1.kids[0]?=some g∧∃c,ai p1 0 c∧(E++[(aa.mk c [105,102])]).length≤1000000000∧∃a,aj (E++[(aa.mk c [105,102])]) g a∧∃i,p1.kids[1]?=some i∧∃d,ai p1 1 d∧(a++[(aa.mk d [116,104,101,110])]).length≤1000000000∧∃b,aj (a++[(aa.mk d [116,104,101,110])]) i b∧∃j,p1.kids[2]?=some j∧∃e,ai p1 2 e∧(b++[(aa.mk e [101,108,115,101])]).length≤1000000000∧∃f,aj (b++[(aa.mk e [101,108,115,101])]) j f∧f=J):jJ (m+1) E p1 J:=by
 intro K O;refine gR 1 rfl<|qDs [] 12 12<|qDr [(0,2),(1,2),(6,2),(7,2)] rfl rfl ?_;obtain⟨g,k,h⟩:=h;refine gYd 8 rfl (by kernel_rfl) (aG (aq k) ac rfl rfl rfl rfl) rfl rfl<|qDr [(9,2)] rfl rfl ?_;obtain⟨c,o,h⟩:=h;refine bD 2 o (by kernel_rfl) rfl (by kernel_rfl) rfl rfl .rfl rfl rfl ?_;refine qDr [(3,0),(4,0)] rfl rfl ?_;obtain⟨G,h⟩:=h;refine bY 5 (.repl 0 (.row 110 2 (List.map aa.w (E++[(aa.mk c [105,102])])))) rfl (by kernel_rfl) (bm ac rfl rfl rfl rfl rfl (apM aa.w E (aa.mk c [105,102])) (by rw[ax];exact G)) (okR rfl) rfl (by kernel_rfl) rfl rfl ?_;obtain⟨a,p,h⟩:=h;refine qDC 10 p [2] rfl ?_;refine gHR 4 (List.map aa.w a) rfl (vD _ a) rfl<|qDr [(11,0)] rfl rfl<|qDe<|gR 2 rfl<|qDs [] 12 12<|qDr [(0,2),(1,2),(6,2),(7,2)] rfl rfl ?_;obtain⟨i,l,h⟩:=h;refine gYd 8 rfl (by kernel_rfl) (aG (aq l) ac rfl rfl rfl rfl) rfl rfl<|qDr [(9,2)] rfl rfl ?_;obtain⟨d,q,h⟩:=h;refine bD 2 q (by kernel_rfl) rfl (by kernel_rfl) rfl rfl .rfl rfl rfl ?_;refine qDr [(3,0),(4,0)] rfl rfl ?_;obtain⟨G,h⟩:=h;refine bY 5 (.repl 4 (.row 110 2 (List.map aa.w (a++[(aa.mk d [116,104,101,110])])))) rfl (by kernel_rfl) (bm ac rfl rfl rfl rfl rfl (apM aa.w a (aa.mk d [116,104,101,110])) (by rw[ax];exact G)) (okR rfl) rfl (by kernel_rfl) rfl rfl ?_;obtain⟨b,r,h⟩:=h;refine qDC 10 r [6] rfl ?_;refine gHR 8 (List.map aa.w b) rfl (vD _ b) rfl<|qDr [(11,0)] rfl rfl<|qDe<|gR 2 rfl<|qDs [] 12 12<|qDr [(0,2),(1,2),(6,2),(7,2)] rfl rfl ?_;obtain⟨j,n,h⟩:=h;refine gYd 8 rfl (by kernel_rfl) (aG (aq n) ac rfl rfl rfl rfl) rfl rfl<|qDr [(9,2)] rfl rfl ?_;obtain⟨e,s,h⟩:=h;refine bD 2 s (by kernel_rfl) rfl (by kernel_rfl) rfl rfl .rfl rfl rfl ?_;refine qDr [(3,0),(4,0)] rfl rfl ?_;obtain⟨G,h⟩:=h;refine bY 5 (.repl 8 (.row 110 2 (List.map aa.w (b++[(aa.mk e [101,108,115,101])])))) rfl (by kernel_rfl) (bm ac rfl rfl rfl rfl rfl (apM aa.w b (aa.mk e [101,108,115,101])) (by rw[ax];exact G)) (okR rfl) rfl (by kernel_rfl) rfl rfl ?_;obtain⟨f,t,h⟩:=h;refine qDC 10 t [10] rfl ?_;refine gHR 12 (List.map aa.w f) rfl (vD _ f) rfl<|qDr [(11,0)] rfl rfl<|qDe<|gR 4 rfl ?_;subst h;exact gE O [] [(4,.sl 1)] [1000,12] [.tmp 4]
theorem jr(m:Nat)(E:List aa)(p1:Tree)(G:List aa)(h:((p1.kind=20)→jI m E p1 G)∧((p1.kind≠20)→fX m E p1 G)):gf (m+1) E p1 G:=by
 intro K q;refine gR 6 rfl<|qBeZ 284 285 rfl rfl rfl rfl h ?_ ?_<;>intro h;exact gR 1 rfl<|qJ q (h K q) [0];exact gR 1 rfl<|qJ q (h K q) [0]
theorem mT(m:Nat)(E:List aa)(p1:Tree)(J:List aa)(h:∃b,ai p1 0 b∧∃c,ai p1 1 c∧∃d,ai p1 2 d∧(E++[(aa.mk b [108,101,116]),(aa.mk c p1.text),(aa.mk d [61])]).length≤1000000000∧∃i,p1.kids[0]?=some i∧∃a,aj (E++[(aa.mk b [108,101,116]),(aa.mk c p1.text),(aa.mk d [61])]) i a∧∃e,ai p1 3 e∧(a++[(aa.mk e [105,110])]).length≤1000000000∧∃j,p1.kids[1]?=some j∧∃g,aj (a++[(aa.mk e [105,110])]) j g∧g=J):jI (m+1) E p1 J:=by
 intro K O;refine gR 1 rfl<|qDs [] 15 15<|qDr [(0,2),(1,2),(4,2),(6,2),(7,2),(9,2)] rfl rfl ?_;obtain⟨b,n,h⟩:=h;refine bD 2 n (by kernel_rfl) rfl (by kernel_rfl) rfl rfl .rfl rfl rfl ?_;refine qDr [(3,2)] rfl rfl ?_;obtain⟨c,o,h⟩:=h;refine bD 5 o (by kernel_rfl) rfl (by kernel_rfl) rfl rfl .rfl rfl rfl ?_;refine qDr [(8,2)] rfl rfl ?_;obtain⟨d,p,h⟩:=h;refine bD 10 p (by kernel_rfl) rfl (by kernel_rfl) rfl rfl .rfl rfl rfl ?_;refine qDr [(11,0),(12,0)] rfl rfl ?_;obtain⟨G,h⟩:=h;refine bY 13 (.repl 0 (.row 110 2 (List.map aa.w (E++[(aa.mk b [108,101,116]),(aa.mk c p1.text),(aa.mk d [61])])))) rfl (by kernel_rfl) (bm ac rfl rfl rfl rfl rfl (List.map_append (f:=aa.w) (l₁:=E) (l₂:=[(aa.mk b [108,101,116]),(aa.mk c p1.text),(aa.mk d [61])])).symm (by rw[ax];exact G)) (okR rfl) rfl (by kernel_rfl) rfl rfl ?_;refine qDr [(14,0)] rfl rfl<|qDe<|gR 2 rfl<|qDs [] 12 12<|qDr (qR 0 3 2 []) rfl rfl ?_;obtain⟨i,k,h⟩:=h;refine gYd 3 rfl (by kernel_rfl) (aG (aq k) ac rfl rfl rfl rfl) rfl rfl<|qDr [(4,2),(6,2)] rfl rfl ?_;obtain⟨a,q,h⟩:=h;refine qDC 5 q [2] rfl ?_;refine gHR 4 (List.map aa.w a) rfl (vD _ a) rfl ?_;obtain⟨e,r,h⟩:=h;refine bD 7 r (by kernel_rfl) rfl (by kernel_rfl) rfl rfl .rfl rfl rfl ?_;refine qDr [(8,0),(9,0)] rfl rfl ?_;obtain⟨G,h⟩:=h;refine bY 10 (.repl 4 (.row 110 2 (List.map aa.w (a++[(aa.mk e [105,110])])))) rfl (by kernel_rfl) (bm ac rfl rfl rfl rfl rfl (apM aa.w a (aa.mk e [105,110])) (by rw[ax];exact G)) (okR rfl) rfl (by kernel_rfl) rfl rfl ?_;refine qDr [(11,0)] rfl rfl<|qDe<|gR 6 rfl ?_;obtain⟨j,l,h⟩:=h;refine gY (aG (aq l) ac rfl rfl rfl rfl) rfl rfl<|gR 1 rfl ?_;obtain⟨g,s,h⟩:=h;refine qC s [6] ?_;refine gHR 8 (List.map aa.w g) rfl (vD _ g) rfl<|gR 6 rfl ?_;subst h;exact gE O [] [(4,.sl 1)] [1000,8] [.tmp 4]
theorem jl(m:Nat)(E:List aa)(p1:Tree)(G:List aa)(h:((p1.kind=21)→jB m E p1 G)∧((p1.kind≠21)→fW m E p1 G)):fX (m+1) E p1 G:=by
 intro K q;refine gR 6 rfl<|qBeZ 317 318 rfl rfl rfl rfl h ?_ ?_<;>intro h;exact gR 1 rfl<|qJ q (h K q) [0];exact gR 1 rfl<|qJ q (h K q) [0]
theorem mX(m:Nat)(q:List aa)(p1:Tree)(E:List aa)(h:∃d,p1.kids[0]?=some d∧∃a,aj q d a∧∃b,ai p1 0 b∧(a++[(aa.mk b p1.text)]).length≤1000000000∧∃e,p1.kids[1]?=some e∧∃c,aj (a++[(aa.mk b p1.text)]) e c∧c=E):jB (m+1) q p1 E:=by
 intro K G;refine gR 1 rfl<|qDs [] 14 14<|qDr (qR 0 3 2 []) rfl rfl ?_;obtain⟨d,f,h⟩:=h;refine gYd 3 rfl (by kernel_rfl) (aG (aq f) ac rfl rfl rfl rfl) rfl rfl<|qDr [(4,2),(6,2),(8,2),(9,2)] rfl rfl ?_;obtain⟨a,i,h⟩:=h;refine qDC 5 i [0] rfl ?_;refine gHR 2 (List.map aa.w a) rfl (vD _ a) rfl ?_;obtain⟨b,j,h⟩:=h;refine bD 7 j (by kernel_rfl) rfl (by kernel_rfl) rfl rfl .rfl rfl rfl ?_;refine qDr [(10,0),(11,0)] rfl rfl ?_;obtain⟨J,h⟩:=h;refine bY 12 (.repl 2 (.row 110 2 (List.map aa.w (a++[(aa.mk b p1.text)])))) rfl (by kernel_rfl) (bm ac rfl rfl rfl rfl rfl (apM aa.w a (aa.mk b p1.text)) (by rw[ax];exact J)) (okR rfl) rfl (by kernel_rfl) rfl rfl ?_;refine qDr [(13,0)] rfl rfl<|qDe<|gR 6 rfl ?_;obtain⟨e,g,h⟩:=h;refine gY (aG (aq g) ac rfl rfl rfl rfl) rfl rfl<|gR 1 rfl ?_;obtain⟨c,k,h⟩:=h;refine qC k [4] ?_;refine gHR 6 (List.map aa.w c) rfl (vD _ c) rfl<|gR 6 rfl ?_;subst h;exact gE G [] [(4,.sl 1)] [1000,6] [.tmp 4]
theorem jj(m:Nat)(q:List aa)(p1:Tree)(E:List aa)(h:((p1.kind=22)→jF m q p1 E)∧((p1.kind≠22)→∃a,ai p1 0 a∧(q++[(aa.mk a p1.text)]).length≤1000000000∧(q++[(aa.mk a p1.text)])=E)):fW (m+1) q p1 E:=by
 intro K G;refine gR 6 rfl<|qBeZ 338 339 rfl rfl rfl rfl h ?_ ?_<;>intro h;exact gR 1 rfl<|qJ G (h K G) [0];refine gR 5 rfl<|qDs [] 9 9<|qDr [(0,2),(1,2),(3,2),(4,2)] rfl rfl ?_;obtain⟨a,b,h⟩:=h;refine bD 2 b (by kernel_rfl) rfl (by kernel_rfl) rfl rfl .rfl rfl rfl ?_;refine qDr [(5,0),(6,0)] rfl rfl ?_;obtain⟨J,h⟩:=h;refine bY 7 (.repl 0 (.row 110 2 (List.map aa.w (q++[(aa.mk a p1.text)])))) rfl (by kernel_rfl) (bm ac rfl rfl rfl rfl rfl (apM aa.w q (aa.mk a p1.text)) (by rw[ax];exact J)) (okR rfl) rfl (by kernel_rfl) rfl rfl ?_;refine qDr [(8,0)] rfl rfl<|qDe<|gR 2 rfl ?_;subst h;exact gE G [] [(4,.sl 1)] [1000,2] [.tmp 4]
theorem mV(m:Nat)(q:List aa)(p1:Tree)(G:List aa)(h:∃b,ai p1 0 b∧(q++[(aa.mk b [40])]).length≤1000000000∧∃d,p1.kids[0]?=some d∧∃a,aj (q++[(aa.mk b [40])]) d a∧∃c,ai p1 1 c∧(a++[(aa.mk c [41])]).length≤1000000000∧(a++[(aa.mk c [41])])=G):jF (m+1) q p1 G:=by
 intro K J;refine gR 4 rfl ?_;obtain⟨b,f,h⟩:=h;refine qC0 f rfl<|gR 2 rfl ?_;obtain⟨E,h⟩:=h;refine gDo (.repl 0 (.row 110 2 (List.map aa.w (q++[(aa.mk b [40])])))) (bm ac rfl rfl rfl rfl rfl (apM aa.w q (aa.mk b [40])) (by rw[ax];exact E)) (okR rfl) rfl rfl rfl<|gR 4 rfl<|qDs [] 12 12<|qDr (qR 0 3 2 []) rfl rfl ?_;obtain⟨d,e,h⟩:=h;refine gYd 3 rfl (by kernel_rfl) (aG (aq e) ac rfl rfl rfl rfl) rfl rfl<|qDr [(4,2),(6,2)] rfl rfl ?_;obtain⟨a,g,h⟩:=h;refine qDC 5 g [2] rfl ?_;refine gHR 4 (List.map aa.w a) rfl (vD _ a) rfl ?_;obtain⟨c,i,h⟩:=h;refine bD 7 i (by kernel_rfl) rfl (by kernel_rfl) rfl rfl .rfl rfl rfl ?_;refine qDr [(8,0),(9,0)] rfl rfl ?_;obtain⟨E,h⟩:=h;refine bY 10 (.repl 4 (.row 110 2 (List.map aa.w (a++[(aa.mk c [41])])))) rfl (by kernel_rfl) (bm ac rfl rfl rfl rfl rfl (apM aa.w a (aa.mk c [41])) (by rw[ax];exact E)) (okR rfl) rfl (by kernel_rfl) rfl rfl ?_;refine qDr [(11,0)] rfl rfl<|qDe<|gR 4 rfl ?_;subst h;exact gE J [] [(4,.sl 1)] [1000,6] [.tmp 4]
def dJ(m:Nat)(p1:Tree)(E J O:Int)(a:List aa)(b:Int)(U:List aa):Prop:=∀(K:Ctx) (q:Nat),ar K []→m≤q→qLG K f114 (λu G=>u=.sl 1∧G=⟨2,[(1,.row 110 2 (List.map aa.w U))]⟩) (cL (xE (cB (ae f114)))) [.loop (cL (xE (cB (ae f114)))) q,.blk 0,.seq (xA (ae f114))] 41 (mkF 41 0 [(0,.sl 0),(2,qi E),(3,qi J),(4,qi O),(6,.box (ak p1) 0),(11,qi b)]) ⟨1,[(0,.row 110 2 (List.map aa.w a))]⟩
theorem pM(m:Nat)(p0:List aa)(p1:Tree)(p2 p3 p4:Int)(r0:List aa)(h:dJ m p1 p2 p3 p4 p0 p2 r0):dj p0 p1 p2 p3 p4 r0:=by
 refine qA 41 [] func114 λK hK=>?_;exact gR 3 rfl<|gFP 1 rfl rfl rfl rfl<|gR 11 rfl<|go_loop m<|qW hK h [0]
theorem fc(m:Nat)(p1:Tree)(G O J:Int)(b:List aa)(a:Int)(U:List aa)(h:((a<O)→((G<a)→InI (J+a)∧InI ((J+a)-G)∧InI (((J+a)-G)-1)∧∃c,ai p1 (((J+a)-G)-1) c∧(b++[(aa.mk c [44])]).length≤1000000000∧∃f,a=((f:Nat):Int)∧∃i,p1.kids[f]?=some i∧∃d,aj (b++[(aa.mk c [44])]) i d∧InI (a+1)∧dJ m p1 G O J d (a+1) U)∧((¬G<a)→∃g,a=((g:Nat):Int)∧∃j,p1.kids[g]?=some j∧∃e,aj b j e∧InI (a+1)∧dJ m p1 G O J e (a+1) U))∧((¬a<O)→b=U)):dJ (m+1) p1 G O J b a U:=by
 refine qj λK j1 Z s=>?_;refine gR 8 rfl<|qXd 15 rfl rfl rfl h ?_ ?_<;>intro hd h;refine gR 13 rfl<|qXd 20 rfl rfl rfl h ?_ ?_<;>intro hd h;refine gR 6 rfl ?_;obtain⟨E,h⟩:=h;refine gR 1 rfl<|gV 25 (qi (J+a)) rfl (an E rfl) rfl<|gR 1 rfl ?_;obtain⟨E,h⟩:=h;refine gR 1 rfl<|gV 27 (qi ((J+a)-G)) rfl (an E rfl) rfl ?_;obtain⟨E,h⟩:=h;refine gR 1 rfl<|gV 28 (qi (((J+a)-G)-1)) rfl (an E rfl) rfl ?_;obtain⟨c,p,h⟩:=h;refine qC0 p rfl<|gR 2 rfl ?_;obtain⟨E,h⟩:=h;refine gDo (.repl 0 (.row 110 2 (List.map aa.w (b++[(aa.mk c [44])])))) (bm ac rfl rfl rfl rfl rfl (apM aa.w b (aa.mk c [44])) (by rw[ax];exact E)) (okR rfl) rfl rfl rfl<|gR 8 rfl ?_;obtain⟨f,n,h⟩:=h;refine gV 36 (qi ((f:Nat):Int)) rfl (ds n) rfl ?_;obtain⟨i,k,h⟩:=h;refine gY (aG (aq k) ac rfl rfl rfl rfl) rfl rfl<|gR 1 rfl ?_;obtain⟨d,q,h⟩:=h;refine qC q [2] ?_;refine gHR 4 (List.map aa.w d) rfl (vD _ d) rfl<|gR 6 rfl ?_;obtain⟨E,h⟩:=h;exact gR 1 rfl<|gV 17 (qi (a+1)) rfl (an E rfl) rfl<|gR 2 rfl<|go_xloop<|qW Z h [4];refine gR 8 rfl ?_;obtain⟨g,o,h⟩:=h;refine gV 36 (qi ((g:Nat):Int)) rfl (ds o) rfl ?_;obtain⟨j,l,h⟩:=h;refine gY (aG (aq l) ac rfl rfl rfl rfl) rfl rfl<|gR 1 rfl ?_;obtain⟨e,r,h⟩:=h;refine qC r [0] ?_;refine gHR 2 (List.map aa.w e) rfl (vD _ e) rfl<|gR 6 rfl ?_;obtain⟨E,h⟩:=h;exact gR 1 rfl<|gV 17 (qi (a+1)) rfl (an E rfl) rfl<|gR 2 rfl<|go_xloop<|qW Z h [2];refine gR 3 rfl<|go_xloopE<|gR 9 rfl ?_;subst h;exact gE Z [] [(10,.sl 1)] [1000,0] [.tmp 10]
theorem lf(m:Nat)(q:Tree)(p1:Int)(E:List UInt8)(h:((p1<(q.leads.length:Int))→∃a,p1=((a:Nat):Int)∧∃b,q.leads[a]?=some b∧b=E)∧((¬p1<(q.leads.length:Int))→[]=E)):ai q p1 E:=by
 refine⟨rfl,rfl,?_⟩;refine qA 15 [] func113 λK G=>?_;refine gR 3 rfl<|gFP 0 rfl rfl rfl rfl<|gR 10 rfl<|gV 8 (qi (q.leads.length:Int)) rfl (aW (ax V.str _)) rfl<|gLB 7 rfl (ax V.str _) λe=>gR 3 rfl<|qBd 9 rfl rfl rfl h ?_ ?_<;>intro h;refine gR 6 rfl ?_;obtain⟨a,d,h⟩:=h;refine gV 12 (qi ((a:Nat):Int)) rfl (ds d) rfl ?_;obtain⟨b,c,h⟩:=h;refine gY (aG (au (f:=V.str) c) ac rfl rfl rfl rfl) rfl rfl<|gR 6 rfl ?_;subst h;exact qN [.tmp 4];refine gR 9 rfl ?_;subst h;exact qN [.tmp 4]
def iz(q:Bool):Prop:=qS 5 [] (.bool q)
def iL(q p1:List ah)(E:Bool):Prop:=qS 11 [.row 3 (List.map ah.w q),.row 3 (List.map ah.w p1)] (.bool E)
def fv(q:List Int)(E:List Tree):Prop:=qS 6 [.row 1 (List.map (V.int .i64) q)] (.row 4 (kidsV E))
def fk(m:Nat)(E p1:List ah)(a:Nat)(G:Bool):Prop:=∀(K:Ctx) (q:Nat),ar K []→m≤q→qLG K f11 (λu _=>u=.bool G) (xI (ae f11)) [.loop (xI (ae f11)) q,.blk 0,.seq (xH (ae f11))] 56 (mkF 56 0 [(0,.row 3 (List.map ah.w E)),(1,.row 3 (List.map ah.w p1)),(5,qi (a:Int))]) ⟨0,[]⟩
theorem pn(m:Nat)(p0 p1:List ah)(r0:Bool)(h:((p0.length≠p1.length)→false=r0)∧((p0.length=p1.length)→fk m p0 p1 0 r0)):iL p0 p1 r0:=by
 refine⟨rfl,rfl,?_⟩;refine qA 56 [] func11 λK hK=>?_;refine gR 10 rfl<|gV 7 (qi (p0.length:Int)) rfl (aW (ax ah.w _)) rfl<|gLB 6 rfl (ax ah.w _) λa=>gR 2 rfl<|gV 9 (qi (p1.length:Int)) rfl (aW (ax ah.w _)) rfl<|gLB 8 rfl (ax ah.w _) λb=>gR 3 rfl<|qXh 10 rfl rfl rfl h FC EB ?_ ?_<;>intro hd h;refine gR 8 rfl ?_;subst h;exact qN [.tmp 4];exact gR 10 rfl<|go_loop m<|qW hK h []
theorem kY(m:Nat)(E p1:List ah)(a:Nat)(G:Bool)(h:((a<E.length)→∃b,E[a]?=some b∧∃c,p1[a]?=some c∧((b.Free≠c.Free)→false=G)∧((b.Free=c.Free)→∃g,E[a]?=some g∧∃i,p1[a]?=some i∧∃d,bh g.Path i.Path d∧((d=false)→false=G)∧((d=true)→∃j,E[a]?=some j∧∃k,p1[a]?=some k∧∃e,bh j.Binder k.Binder e∧((e=false)→false=G)∧((e=true)→fk m E p1 (a+1) G))))∧((¬a<E.length)→true=G)):fk (m+1) E p1 a G:=by
 refine qj λK O J x=>?_;refine gR 6 rfl<|gV 13 (qi (E.length:Int)) rfl (aW (ax ah.w _)) rfl<|gLB 12 rfl (ax ah.w _) λs=>gR 3 rfl<|qXh 14 rfl rfl rfl h ec ej ?_ ?_<;>intro hd h;refine gR 6 rfl<|qDs [] 39 39<|qDr [(0,2),(1,2)] rfl rfl ?_;obtain⟨b,l,h⟩:=h;refine gYd 2 rfl (by kernel_rfl) (aG (au (f:=ah.w) l) ac rfl rfl rfl rfl) rfl rfl<|qDr (qR 3 3 2 [(6,0)]) rfl rfl ?_;obtain⟨c,n,h⟩:=h;refine dI 7 rfl (by kernel_rfl) (aG (au (f:=ah.w) n) ac rfl rfl rfl rfl) rfl rfl ?_;refine qDr (qR 8 4 0 []) rfl rfl<|qXhZ 28 27 rfl rfl rfl rfl h mj jT ?_ ?_<;>intro hd h;refine qDr (qR 12 6 2 (qR 18 8 0 (qR 26 6 2 (qR 32 7 0 [])))) rfl rfl<|qDe<|gR 2 rfl<|go_sub (F':=(mkF 56 0 [])) (H':=⟨0,[]⟩) [] [] rfl J trivial trivial rfl<|gR 8 rfl<|go_xloopR<|gR 2 rfl ?_;subst h;exact qN [.tmp 4];refine qDr [(12,2),(13,2)] rfl rfl ?_;obtain⟨g,o,h⟩:=h;refine gYd 14 rfl (by kernel_rfl) (aG (au (f:=ah.w) o) ac rfl rfl rfl rfl) rfl rfl<|qDr (qR 15 3 2 [(18,0)]) rfl rfl ?_;obtain⟨i,p,h⟩:=h;refine dI 19 rfl (by kernel_rfl) (aG (au (f:=ah.w) p) ac rfl rfl rfl rfl) rfl rfl ?_;refine qDr [(20,0),(21,0)] rfl rfl ?_;obtain⟨d,t,h⟩:=h;refine bD 22 t (by kernel_rfl) rfl (by kernel_rfl) rfl rfl .rfl rfl rfl ?_;refine qDr (qR 23 3 0 []) rfl rfl<|qXhZ 42 41 rfl rfl rfl rfl h cx cw ?_ ?_<;>intro hd h;refine qDr (qR 26 6 2 (qR 32 7 0 [])) rfl rfl<|qDe<|gR 2 rfl<|go_sub (F':=(mkF 56 0 [])) (H':=⟨0,[]⟩) [] [] rfl J trivial trivial rfl<|gR 8 rfl<|go_xloopR<|gR 2 rfl ?_;subst h;exact qN [.tmp 4];refine qDr [(26,2),(27,2)] rfl rfl ?_;obtain⟨j,q,h⟩:=h;refine gYd 28 rfl (by kernel_rfl) (aG (au (f:=ah.w) q) ac rfl rfl rfl rfl) rfl rfl<|qDr (qR 29 3 2 [(32,0)]) rfl rfl ?_;obtain⟨k,r,h⟩:=h;refine dI 33 rfl (by kernel_rfl) (aG (au (f:=ah.w) r) ac rfl rfl rfl rfl) rfl rfl ?_;refine qDr [(34,0),(35,0)] rfl rfl ?_;obtain⟨e,v,h⟩:=h;refine bD 36 v (by kernel_rfl) rfl (by kernel_rfl) rfl rfl .rfl rfl rfl ?_;refine qDr [(37,0),(38,0)] rfl rfl<|qDe<|gR 1 rfl<|qXh 55 rfl rfl rfl h cx cw ?_ ?_<;>intro hd h;refine gR 1 rfl<|go_sub (F':=(mkF 56 0 [])) (H':=⟨0,[]⟩) [] [] rfl J trivial trivial rfl<|gR 8 rfl<|go_xloopR<|gR 2 rfl ?_;subst h;exact qN [.tmp 4];exact gR 7 rfl<|gV 16 (qi ((a+1:Nat):Int)) rfl (an (by have :=s;omega) (by omega)) rfl<|gR 2 rfl<|go_xloop<|qW J h [];refine gR 3 rfl<|go_xloopE<|gR 8 rfl ?_;subst h;exact qN [.tmp 4]
def bX(m:Nat)(a:List Tree)(b:Nat)(c E:List Tree):Prop:=∀(K:Ctx) (q:Nat),ar K []→m≤q→qLG K f6 (λu _=>u=.row 4 (kidsV E)) (xN (ae f6)) [.loop (xN (ae f6)) q,.blk 0,.seq (xJ (ae f6))] 47 (mkF 47 0 [(3,.sl 0),(4,.row 4 (kidsV a)),(5,qi (b:Int))]) ⟨1,[(0,.row 31 4 (kidsV c))]⟩
def bG(m:Nat)(a b:List Tree)(c d:Nat)(G:List Tree):Prop:=∀(K:Ctx) (q E:Nat),ar K []→m≤q→m≤E→qLG K f6 (λu _=>u=.row 4 (kidsV G)) (cL (xD (cK (cA (cB (xN (ae f6))))))) [.loop (cL (xD (cK (cA (cB (xN (ae f6))))))) q,.blk 2,.blk 1,.seq (xA (xN (ae f6))),.loop (xN (ae f6)) E,.blk 0,.seq (xJ (ae f6))] 47 (mkF 47 0 [(3,.sl 0),(4,.row 4 (kidsV a)),(5,qi (d:Int)),(6,qi (c:Int))]) ⟨1,[(0,.row 31 4 (kidsV b))]⟩
theorem mx(m:Nat)(p0:List Int)(r0:List Tree)(h:∃a,hJ p0 a∧bX m a 0 ([]:List Tree) r0):fv p0 r0:=by
 refine⟨rfl,rfl,?_⟩;refine qA 47 [] func6 λK hK=>?_;refine gR 13 rfl ?_;obtain⟨a,b,h⟩:=h;exact qC0 b rfl<|gR 10 rfl<|go_loop m<|gNS 3 31 4 rfl rfl rfl rfl<|qW hK h [0]
theorem iE(m:Nat)(a:List Tree)(b:Nat)(c r0:List Tree)(h:((b<a.length)→bG m a c 0 b r0)∧((¬b<a.length)→c=r0)):bX (m+1) a b c r0:=by
 refine qj λK j1 hK e=>?_;refine gR 6 rfl<|gV 11 (qi (a.length:Int)) rfl (aW (aN _)) rfl<|gLB 10 rfl (aN _) λd=>gR 3 rfl<|qXh 12 rfl rfl rfl h ec ej ?_ ?_<;>intro hd h;exact gR 11 rfl<|go_loop m<|qJ hK (h K _ _ hK (by omega) (by omega)) [0];refine gR 3 rfl<|go_xloopE<|gR 9 rfl<|gFR 0 rfl (cN _) rfl rfl ?_;subst h;exact qN [.tmp 2]
theorem eI(m:Nat)(d e:List Tree)(a b:Nat)(G:List Tree)(h:∃f,d[b]?=some f∧((a<f.kids.length)→∃i,d[b]?=some i∧∃g,i.kids[a]?=some g∧((g.kind=2)→∃k,d[b]?=some k∧∃c,k.kids[a]?=some c∧(e++[c]).length≤1000000000∧bG m d (e++[c]) (a+1) b G)∧((g.kind≠2)→bG m d e (a+1) b G))∧((¬a<f.kids.length)→b+1≤9223372036854775807∧bX m d (b+1) e G)):bG (m+1) d e a b G:=by
 intro K J O E s t;obtain⟨J,rfl⟩:∃j,J=j+1:=⟨J-1,by omega⟩;obtain⟨O,rfl⟩:∃j,O=j+1:=⟨O-1,by omega⟩;refine gR 6 rfl ?_;obtain⟨f,l,h⟩:=h;refine gY (aG (aq l) ac rfl rfl rfl rfl) rfl rfl<|gR 3 rfl<|gV 21 (qi (f.kids.length:Int)) rfl (aW (aN _)) rfl<|gLB 20 rfl (aN _) λr=>gR 3 rfl<|qXh 22 rfl rfl rfl h ec ej ?_ ?_<;>intro hd h;refine gR 9 rfl ?_;obtain⟨i,n,h⟩:=h;refine gY (aG (aq n) ac rfl rfl rfl rfl) rfl rfl<|gR 3 rfl ?_;obtain⟨g,o,h⟩:=h;refine gY (aG (aq o) ac rfl rfl rfl rfl) rfl rfl<|gR 5 rfl<|qXe 34 rfl rfl rfl h ?_ ?_<;>intro hd h;refine gR 5 rfl ?_;obtain⟨k,p,h⟩:=h;refine gY (aG (aq p) ac rfl rfl rfl rfl) rfl rfl<|gR 3 rfl ?_;obtain⟨c,q,h⟩:=h;refine gY (aG (aq q) ac rfl rfl rfl rfl) rfl rfl<|gR 2 rfl<|gHR 1 (kidsV [c]) rfl (lv c) rfl ?_;obtain⟨U,h⟩:=h;exact gDo (.repl 0 (.row 31 4 (kidsV (e++[c])))) (bm ac rfl rfl rfl rfl rfl (fF e [c]).symm (by rw[aN];exact U)) (okR rfl) rfl rfl rfl<|gR 7 rfl<|gV 24 (qi ((a+1:Nat):Int)) rfl (an (by have :=r;omega) (by omega)) rfl<|gR 2 rfl<|go_xloop<|qJ E (h K _ _ E (by omega) (by omega)) [2];exact gR 7 rfl<|gV 24 (qi ((a+1:Nat):Int)) rfl (an (by have :=r;omega) (by omega)) rfl<|gR 2 rfl<|go_xloop<|qJ E (h K _ _ E (by omega) (by omega)) [0];refine gR 3 rfl<|go_xloopE<|gR 5 rfl ?_;obtain⟨U,h⟩:=h;exact gR 1 rfl<|gV 14 (qi ((b+1:Nat):Int)) rfl (an (by omega) (by omega)) rfl<|gR 2 rfl<|go_xloop<|qW E h [0]
end Go.Proofs.YtojjjmkmkbnieaaGreat
