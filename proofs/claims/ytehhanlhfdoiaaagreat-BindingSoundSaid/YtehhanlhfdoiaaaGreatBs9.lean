/- Contracts of the functions that the law reaches, part 9. -/
import Derived.Test.YtehhanlhfdoiaaaGreatBs8
import Derived.Shelf.Sort.Plain
import Derived.Sort.OwnSortedInts
set_option linter.unusedVariables false
set_option linter.unusedSimpArgs false
namespace Go.Proofs.YtehhanlhfdoiaaaGreat
open _root_.Go.Proofs.Tryz
open Go.RowKit Lx Sx
set_option maxHeartbeats 1000000
set_option maxRecDepth 100000
variable{n:Nat}
variable{k:Int}
variable{t:Tree}
variable{u:Tree}
set_option maxHeartbeats 1100000
variable{p:YT}
variable{i:Int}{e:En}
variable{L:List En}{r y:Int}
variable{l:YI}
variable{todo:YI}
variable{x:Int}{ks:YI}
set_option maxHeartbeats 4000000
open Go.RowKit Go.Shelf Go.Sort Lx Sx
def OH:Go.Shelf.Ren:=⟨fun|189=>42|125=>74|257=>73|128=>123|129=>124|294=>114|295=>115|296=>116|297=>117|298=>118|299=>119|216=>120|300=>121|301=>122|328=>165|329=>166|330=>167|331=>168|332=>169|215=>170|343=>194|n=>n,fun|28=>36|3=>3|46=>96|0=>0|51=>176|53=>178|4=>4|183=>168|182=>167|131=>173|5=>5|9=>9|218=>199|222=>203|228=>218|229=>70|n=>n,fun|n=>n⟩
theorem Lk:Go.Proofs.Lays.n189 prog OH:={
 mixed:=by kernel_rfl
 f125:=func74.trans (congrArg some<|by kernel_rfl)
 f128:=func123.trans (congrArg some<|by kernel_rfl)
 f129:=func124.trans (congrArg some<|by kernel_rfl)
 f189:=func42.trans (congrArg some<|by kernel_rfl)
 f215:=func170.trans (congrArg some<|by kernel_rfl)
 f216:=func120.trans (congrArg some<|by kernel_rfl)
 f257:=func73.trans (congrArg some<|by kernel_rfl)
 f294:=func114.trans (congrArg some<|by kernel_rfl)
 f295:=func115.trans (congrArg some<|by kernel_rfl)
 f296:=func116.trans (congrArg some<|by kernel_rfl)
 f297:=func117.trans (congrArg some<|by kernel_rfl)
 f298:=func118.trans (congrArg some<|by kernel_rfl)
 f299:=func119.trans (congrArg some<|by kernel_rfl)
 f300:=func121.trans (congrArg some<|by kernel_rfl)
 f301:=func122.trans (congrArg some<|by kernel_rfl)
 f328:=func165.trans (congrArg some<|by kernel_rfl)
 f329:=func166.trans (congrArg some<|by kernel_rfl)
 f330:=func167.trans (congrArg some<|by kernel_rfl)
 f331:=func168.trans (congrArg some<|by kernel_rfl)
 f332:=func169.trans (congrArg some<|by kernel_rfl)
 f343:=func194.trans (congrArg some<|by kernel_rfl)
 t0:=underlying0
 a0:=isAgg0
 z0:=sizeOf0
 v0:=zeroValue0
 t3:=underlying3
 a3:=isAgg3
 z3:=sizeOf3
 v3:=zeroValue3
 t4:=underlying4
 a4:=isAgg4
 z4:=sizeOf4
 v4:=zeroValue4
 t5:=underlying5
 a5:=isAgg5
 z5:=sizeOf5
 v5:=zeroValue5
 t9:=underlying9
 a9:=isAgg9
 z9:=sizeOf9
 v9:=zeroValue9
 t28:=underlying36
 a28:=isAgg36
 z28:=sizeOf36
 v28:=zeroValue36
 t46:=underlying96
 a46:=isAgg96
 z46:=sizeOf96
 v46:=zeroValue96
 t51:=underlying176
 a51:=isAgg176
 z51:=sizeOf176
 v51:=zeroValue176
 t53:=underlying178
 a53:=isAgg178
 z53:=sizeOf178
 v53:=zeroValue178
 t131:=underlying173
 a131:=isAgg173
 z131:=sizeOf173
 v131:=zeroValue173
 t182:=underlying167
 a182:=isAgg167
 z182:=sizeOf167
 v182:=zeroValue167
 t183:=underlying168
 a183:=isAgg168
 z183:=sizeOf168
 v183:=zeroValue168
 t218:=underlying199
 a218:=isAgg199
 z218:=sizeOf199
 v218:=zeroValue199
 t222:=underlying203
 a222:=isAgg203
 z222:=sizeOf203
 v222:=zeroValue203
 t228:=underlying218
 a228:=isAgg218
 z228:=sizeOf218
 v228:=zeroValue218
 t229:=underlying70
 a229:=isAgg70
 z229:=sizeOf70
 v229:=zeroValue70}
theorem SU(w:World):Calls prog 74 #[.int .u64 0] w λe w'=>e=.returned (.int .i64 0)∧w'=w:=by
 have h:=λD=>(Any.lenWalkInAll (P:=prog) (ρ:=OH) {Lk with } D) 0 w (by decide);have :=calls_of_every_depth h;simp only[show((bitsLen 0:Nat):Int)=0 by simp[bitsLen]]at this;exact this
theorem PP(p:Option Addr)(cap:Nat)(w:World):Calls prog 114 #[.slice p 0 cap,.int .i64 0,.int .i64 0] w λe w'=>e=.returned (.tuple #[])∧w'=w:=by
 go_enter func114,ntmps114
 go_wp2
 refine wp_loop_rounds 1 ?_;rw[rounds_succ]
 go_wp2
 go_end0
 exact⟨I,I⟩
theorem Pp(p:Option Addr)(cap:Nat)(w:World):Calls prog 73 #[.slice p 0 cap,.int .i64 0,.int .i64 0,.int .i64 0] w λe w'=>e=.returned (.tuple #[])∧w'=w:=by
 go_enter func73,ntmps73
 go_wp2
 refine wp_loop_rounds 1 ?_;rw[rounds_succ]
 go_wp2_with (first|(go_at_call 114;refine (PP p cap _).mono ?_;rintro e w' ⟨rfl,rfl⟩))
 refine bodyPost_ret (results_none I _ _ _) I ?_;exact⟨I,I⟩
theorem Nw(p:Option Addr)(cap:Nat)(w:World):Calls prog 42 #[.slice p 0 cap] w λe w'=>e=.returned (.tuple #[])∧w'=w:=by
 go_enter func42,ntmps42
 go_wp2_with (first
  |(go_at_call 74;refine (SU _).mono ?_;rintro e w' ⟨rfl,rfl⟩)
  |(go_at_call 73;refine (Pp p cap _).mono ?_;rintro e w' ⟨rfl,rfl⟩))
 go_end0
 exact⟨I,I⟩
def lD(l:YI):YI:=l.mergeSort λx y=>decide<|x<=y
theorem Av(l:YI):(lD l).length=l.length:=List.length_mergeSort _
theorem Ha(l:YI)(hl:l.length<=1000000000):rp l (lD l):=by
 intro S w ρ xs hr hx;simp only[LRel,VRel]at hx;obtain⟨v,_,rfl,⟨hv,hv1⟩,rfl⟩:=hx;have Z:(⟨1,[(0,.row 3 1 (l.map (V.int .i64)))]⟩:Hp).get 0=.row 3 1 (l.map (V.int .i64)):=rfl;have E:∀(o:Ob) i,i≠0->(⟨1,[(0,o)]⟩:Hp).get i=.free:=λo i hi=>by
  unfold Hp.get;have :Nat.blt i 1=false:=by cases hb:Nat.blt i 1;rfl;simp[Nat.blt_eq]at hb;omega
  rw[this]
 obtain⟨v',ys,h1,h2,h3⟩:=jp hr Z;rw[hv]at h1;cases h1;have ey:=yv h3;subst ey;have J:w.ownsRow 0 3 1 v l.length (l.map<|Value.int .i64):=by simpa using h2
 have fin:∀w',w'.ownsRow 0 3 1 v l.length ((lD l).map<|Value.int .i64)->Chg v.ownBlock.toList w w'->SP ⟨w,S,λb=>∃id,own ρ id ((⟨1,[(0,.row 3 1<|l.map<|V.int .i64)]⟩:Hp).get id) b,pU [0] (⟨1,[(0,.row 3 1<|l.map<|V.int .i64)]⟩:Hp).get ρ⟩ (λu G=>u=.tup []∧G=⟨1,[(0,.row 3 1<|(lD l).map<|V.int .i64)]⟩) (.returned<|.tuple #[]) w':=λw' ho hc=>by
  have hX:∀b,b∈v.ownBlock.toList->own ρ 0 ((⟨1,[(0,.row 3 1<|l.map<|V.int .i64)]⟩:Hp).get 0) b:=λb hb=>⟨v,hv,by simpa using hb⟩;have hk:eK S w' ρ 0 (.row 3 1<|(lD l).map<|V.int .i64):=⟨v,(lD l).map<|Value.int .i64,hv,by simpa[Av]using ho,tT _⟩;have ef:=qx (id:=0) (o:=.row 3 1<|(lD l).map<|V.int .i64) hr hc hX hk λb hb=>hb;have hh:bi (⟨1,[(0,.row 3 1<|l.map<|V.int .i64)]⟩:Hp).get 0 (.row 3 1<|(lD l).map<|V.int .i64)=(⟨1,[(0,.row 3 1<|(lD l).map<|V.int .i64)]⟩:Hp).get:=by
   funext i
   by_cases hi:i=0
   ·subst hi;rw[aP];rfl
   ·rw[aY _ _ hi,E _ i hi,E _ i hi]
  have hi0:Inv ⟨w,S,λb=>∃id,own ρ id ((⟨1,[(0,.row 3 1 (l.map (V.int .i64)))]⟩:Hp).get id) b,pU [0] (⟨1,[(0,.row 3 1 (l.map (V.int .i64)))]⟩:Hp).get ρ⟩ S w ρ (⟨1,[(0,.row 3 1 (l.map (V.int .i64)))]⟩:Hp).get:=⟨ChgP.refl _ _,λ_ h=>h,λ_ h=>.inl h,λid b hb=>.inl ⟨id,hb⟩,λid x h=>by
   simp only[pU]at h;split at h
   ·exact h
   ·cases h⟩
  refine⟨_,S,ρ,_,_,I,⟨I,I⟩,?_,?_,?_⟩
  ·rw[<-hh];exact ef.hr
  ·rw[<-hh];exact hi0.eff ef
  ·simp only[VRel];exact⟨[],rfl,by simp[LRel]⟩
 rcases J.2 with⟨hn,h0⟩|⟨g,cap,cur,rfl,hb,U,c1,c2,c3,c4⟩
 ·have hl0:l=[]:=List.length_eq_zero_iff.1 (by simpa using h0);subst hl0;subst hn;refine(Nw none 0 w).mono ?_;rintro e w' ⟨rfl,rfl⟩;exact fin w' (by simpa[lD]using J)<|Chg.refl _ _
 ·have hH:=holds_of_blockI (ss:=l) U (by simpa using c4);have hgl:g<w.heap.size:=by
   rcases Nat.lt_or_ge g w.heap.size with h|h
   ·exact h
   ·rw[Array.getElem?_eq_none h]at U;cases U
  refine(Any.slices_Sort_int Lk g 0 cap l w hH hgl<|by omega).mono ?_;rintro e w' ⟨rfl,n,os,rfl⟩;refine fin _ ?_<|Chg.grown (row:=some g)<|grownBy_sortedI _;have :=ownsRow_sortedI (n:=n) (os:=os) (ss:=l) (ts:=lD l) (Av l) hb U c1 c2 c3;exact this
theorem Iy{l:List aj}{K:List<|Int×Int}(hl:l.length<=100000000)(hs:di ⟨l⟩ true)(hK:l.foldl rq []=K)(hf:∀c∈l,∃k,aC c.Id K=some k):kY ⟨l⟩ (l.foldl (nZ K) []):=by
 have hk:=Im (l:=l) (by omega);rw[hK]at hk;have loop:∀k n r,k+n=l.length->r.length<=n->cD (k+1) ⟨l⟩ K n r ((l.drop n).foldl (nZ K) r):=λk=>by
  induction k with
  |zero=>
   intro n r hn hr;refine rG 0 _ _ _ _ _ (⟨λh=>by simp only at h;omega,λ_=>?_⟩);rw[List.drop_of_length_le<|by omega];rfl
  | succ k ih=>
   intro n r hn hr;obtain⟨c,hc⟩:∃c,l[n]?=some c:=⟨_,List.getElem?_eq_getElem (by omega)⟩;obtain⟨kk,h1⟩:=hf c (List.mem_of_getElem? hc);rw[bV hc,aax];have no:¬(c.Field=2∧aC c.Id K=some 1∧c.V_.N=1)->cD (k+1) ⟨l⟩ K (n+1) r ((l.drop (n+1)).foldl (nZ K) (nZ K r c)):=λh=>by rw[nZ,if_neg h];exact ih (n+1) r (by omega) (by omega)
   refine rG (k+1) _ _ _ _ _ (⟨λ_=>⟨c,hc,λe=>⟨λh=>(by rw[h1]at h;cases h),λd hd=>⟨λe1=>⟨λe2=>⟨?_,by omega,?_⟩,λe2=>⟨by omega,no λh=>e2 h.2.2⟩⟩,λe1=>⟨by omega,no λh=>?_⟩⟩⟩,λe=>⟨by omega,no λh=>e h.1⟩⟩,λh=>by simp only at h;omega⟩)
   ·simp only[aac,List.length_singleton];omega
   ·rw[nZ,if_pos ⟨e,by rw[hd,e1],e2⟩];exact ih (n+1) _ (by omega) (by simp only[aac,List.length_singleton];omega)
   ·rw[hd]at h;exact e1<|Option.some.inj h.2.1
 exact zQ _ _ _ (⟨_,hs,λh=>(by cases h),λ_=>⟨_,hk,by simpa using loop l.length 0 [] (by omega) (by simp)⟩⟩)
abbrev OwR:=List (Int×Value×YI)
def owP(k i:Int)(v:Value):OwR->OwR
 |[]=>[(k,v,[i])]
 |p::r=>if p.1=k then(k,v,p.2.2++[i])::r else p::owP k i v r
theorem Kd(k i:Int)(v:Value):∀X:OwR,(owP k i v X).map (λp=>(p.1,p.2.1))=aR k v (X.map λp=>(p.1,p.2.1))
 |[]=>rfl
 |p::r=>by
  simp only[owP,aah,aR];split
  ·rfl
  ·rw[aah,Kd k i v r]
theorem Ot{k i:Int}{v:Value}:∀{X:OwR},aC k (X.map λp=>(p.1,p.2.1))=none->(owP k i v X).map (λp=>p.2)=X.map (λp=>p.2)++[(v,[i])]
 |[],_=>rfl
 | p::r,h=>by
  simp only[aah,aC]at h;split at h
  ·cases h
  ·rename_i hp;simp only[owP,if_neg hp,aah,aap];rw[Ot h]
theorem OB{k:Int}{d:Value}:∀{X:OwR},aC k (X.map λp=>(p.1,p.2.1))=some d->∃(j:Nat) (l:YI),(k,d,l)∈X∧(X.map λp=>p.2)[j]?=some (d,l)∧∀i v,(owP k i v X).map (λp=>p.2)=(X.map λp=>p.2).set j (v,l++[i])
 |[],h=>by cases h
 | p::r,h=>by
  simp only[aah,aC]at h;split at h
  ·rename_i hp;injection h with h
   subst h hp;exact⟨0,p.2.2,by simp,rfl,λi v=>by simp only[owP,if_true,aah,List.set_cons_zero]⟩
  ·rename_i hp;obtain⟨j,l,h0,h1,h2⟩:=OB h;exact⟨j+1,l,by simp[h0],by simpa using h1,λi v=>by simp only[owP,if_neg hp,aah,List.set_cons_succ,h2 i v]⟩
def owG(k:Int)(X:OwR):YI:=(aC k<|X.map λp=>(p.1,p.2.2)).getD []
theorem Ou(k k' i:Int)(v:Value):∀X:OwR,owG k' (owP k i v X)=if k'=k then owG k X++[i]else owG k' X
 |[]=>by
  simp only[owP,owG,aah,aau,aC];by_cases h:k'=k
  ·subst h;simp
  ·rw[if_neg λe=>h e.symm,if_neg h]
 | p::r=>by
  have ih:=Ou k k' i v r;simp only[owG]at ih⊢;simp only[owP];split
  ·rename_i hp;subst hp;simp only[aah,aC,if_true];by_cases h:k'=p.1
   ·rw[if_pos h,if_pos h.symm];rfl
   ·rw[if_neg h,if_neg λe=>h e.symm,if_neg λe=>h e.symm]
  ·rename_i hp;simp only[aah,aC];by_cases h:p.1=k'
   ·rw[if_pos h,if_pos h,if_neg λe=>hp<|h.trans e]
   ·rw[if_neg h,if_neg h,ih,if_neg hp]
theorem GU{k i:Int}{v:Value}{n:Nat}:∀{X:OwR},(∀p∈X,p.2.2.length<=n)->∀p∈owP k i v X,p.2.2.length<=n+1
 |[],_,p,hp=>by simp only[owP,List.mem_singleton]at hp;rw[hp];simp
 | q::r,h,p,hp=>by
  simp only[owP]at hp;split at hp
  ·rcases List.mem_cons.1 hp with rfl|hp
   ·have :=h q (by simp);simp only[aac,List.length_singleton];omega
   ·have :=h p (by simp[hp]);omega
  ·rcases List.mem_cons.1 hp with rfl|hp
   ·have :=h p (by simp);omega
   ·exact GU (λx hx=>h x<|by simp[hx]) p hp
def jA(m:Int->YI)(c:aj)(k:Int):YI:=if c.Field=2∧c.V_.Ref≠0∧k=c.V_.Ref then m k++[c.Id]else m k
theorem GF{l:List aj}(hl:l.length<=100000000){id:Int}{r:YI}(M:Nat)(k:∀X:OwR,(∀k,owG k X=l.foldl jA (λ_=>[]) k)->(∀p∈X,p.2.2.length<=l.length)->gr M X [id] (aR id true ([]:List<|Int×Bool)) [] r):
  ∃M',dl M' ⟨l⟩ id 0 [] ([],[]) r:=by
 have loop:∀j n (X:OwR) (bs:List Nat),j+n=l.length->(∀k,owG k X=(l.take n).foldl jA (λ_=>[]) k)->(∀p∈X,p.2.2.length<=n)->dl (M+3*j+1) ⟨l⟩ id n (X.map λp=>(p.1,p.2.1)) (bs,X.map λp=>p.2) r:=λj=>by
  induction j with
  |zero=>
   intro n X bs hn hX hlen;rw[List.take_of_length_le (by omega)]at hX;exact uE M _ _ _ _ _ _ (⟨λh=>by simp only at h;omega,λ_=>⟨X,rfl,rfl,k X hX λp hp=>aao (hlen p hp)<|by omega⟩⟩)
  | succ j ih=>
   intro n X bs hn hX hlen;obtain⟨c,hc⟩:∃c,l[n]?=some c:=⟨_,List.getElem?_eq_getElem (by omega)⟩;have htk:l.take (n+1)=l.take n++[c]:=by rw[List.take_add_one,hc];rfl
   have no:¬(c.Field=2∧c.V_.Ref≠0)->dl (M+3*j+1) ⟨l⟩ id (n+1) (X.map λp=>(p.1,p.2.1)) (bs,X.map λp=>p.2) r:=λhno=>by refine ih (n+1) X bs (by omega) (λk=>?_) (λp hp=>by have :=hlen p hp;omega);rw[htk,List.foldl_append,aax,List.foldl_nil,jA,if_neg λh=>hno ⟨h.1,h.2.1⟩];exact hX k
   have yes:c.Field=2->c.V_.Ref≠0->∀v bs',dl (M+3*j+1) ⟨l⟩ id (n+1) ((owP c.V_.Ref c.Id v X).map λp=>(p.1,p.2.1)) (bs',(owP c.V_.Ref c.Id v X).map λp=>p.2) r:=λe1 e2 v bs'=>by
    refine ih (n+1) _ bs' (by omega) (λk=>?_)<|GU hlen;rw[Ou,htk,List.foldl_append,aax,List.foldl_nil,jA,hX];by_cases h:k=c.V_.Ref
    ·subst h;rw[if_pos rfl,if_pos ⟨e1,e2,rfl⟩]
    ·rw[if_neg h,if_neg λh'=>h h'.2.2,hX]
   show dl (M+3*j+3+1) ⟨l⟩ id n (X.map λp=>(p.1,p.2.1)) (bs,X.map λp=>p.2) r;refine uE _ _ _ _ _ _ _ (⟨λ_=>⟨c,hc,λe1=>?_,λe1=>?_⟩,λh=>by simp only at h;omega⟩)
   ·refine uJ (M+3*j+2) _ _ _ _ _ _ _ _ (⟨λe2=>?_,λe2=>⟨by omega,?_⟩⟩)
    ·have e2:c.V_.Ref≠0:=by simpa using e2
     refine⟨λh=>λv bs'=>?_,λd hd=>?_⟩
     ·refine tR (M+3*j+1) _ _ _ _ _ _ (⟨by omega,?_⟩);have :=yes e1 e2 v bs';rw[Kd,Ot h]at this;exact this
     ·obtain⟨q,w,h0,h1,h2⟩:=OB hd;refine⟨q,w,h1,by have :=hlen _ h0;simp only at this;omega,λv bs'=>?_⟩;refine tR (M+3*j+1) _ _ _ _ _ _ (⟨by omega,?_⟩);have :=yes e1 e2 v bs';rw[Kd,h2]at this;exact this
    ·have :=no λh=>by simp[h.2]at e2
     exact λK j1 hK hj=>this K j1 hK (by omega)
   ·refine uJ (M+3*j+2) _ _ _ _ _ _ _ _ (⟨λe2=>(by cases e2),λe2=>⟨by omega,?_⟩⟩);have :=no λh=>e1 h.1;exact λK j1 hK hj=>this K j1 hK (by omega)
 exact⟨_,by simpa using loop l.length 0 [] [] (by omega) (λk=>rfl) (by simp)⟩
theorem MJ(hr:kg L i r)(h:SeaK L i r x ks todo l):l.length<=L.length:=by
 have :=lB (b:=nT i L.length) h.nd λy hy=>qn.2 (yh hr<|h.und y hy);simpa[nT]using this
def Met(r:Int)(l:YI)(Mp:List<|Int×Bool):Prop:=∀k,aC k Mp=if k=r∨k∈l then some true else none
theorem Pf{Mp:List<|Int×Bool}(h:Met r l Mp):Met r (l++[k]) (aR k true Mp):=λy=>by
 rw[ik,h y];by_cases hy:y=k
 ·rw[if_pos hy,if_pos<|.inr<|by simp[hy]]
 ·rw[if_neg hy];by_cases h2:y=r∨y∈l
  ·rw[if_pos h2,if_pos<|h2.imp id λh=>by simp[h]]
  ·rw[if_neg h2,if_neg λE=>h2<|E.imp id λh=>by simpa[hy]using h]
theorem FI{X:OwR}{G:Int->YI}(h:∀k,owG k X=G k):(aC x (X.map λp=>(p.1,p.2.2))=none∧G x=[])∨aC x (X.map λp=>(p.1,p.2.2))=some (G x):=by
 have :=h x;unfold owG at this;cases hq:aC x (X.map λp=>(p.1,p.2.2))with
 |none=>rw[hq]at this;exact .inl ⟨rfl,this.symm⟩
 |some d=>rw[hq]at this;exact .inr (by rw[<-this];rfl)
theorem FM{G:Int->YI}(hr:kg L i r)(hG:∀x y,y∈G x↔sP L i x y)(hg:∀x,(G x).length<=100000000)(hL:L.length<=100000000):
  ∀(μ:Nat) (todo l:YI),μ<=400000000->Sea L i r todo l->2*(L.length-l.length)+todo.length<=μ->∃M' l',BelE L i r l'∧∀(X:OwR) Mp,(∀k,owG k X=G k)->Met r l Mp->gr M' X todo Mp l (lD l'):=λμ=>by
 have stop:∀l,Sea L i r [] l->∃M' l',BelE L i r l'∧∀(X:OwR) Mp,(∀k,owG k X=G k)->Met r l Mp->gr M' X [] Mp l (lD l'):=λl h=>
  ⟨1,l,PT h,λX Mp _ _=>tX 0 _ _ _ _ _<|⟨λh=>by simp at h,λ_=>⟨_,Ha l (aao (Qg hr h)<|by omega),rfl⟩⟩⟩
 induction μ with
 |zero=>
  intro todo l _ hs hm;have h0:todo=[]:=List.length_eq_zero_iff.1 (by omega);subst h0;exact stop l hs
 | succ μ ih=>
  intro todo l hμ hs hm;rcases List.eq_nil_or_concat todo with rfl|⟨todo,x,rfl⟩
  ·exact stop l hs
  rw[List.concat_eq_append]at hs hm⊢;simp only[aac,List.length_singleton]at hm;have inner:∀j n,j+n=(G x).length->∀(todo l:YI),SeaK L i r x ((G x).drop n) todo l->2*(L.length-l.length)+todo.length<=μ->∃M' l',BelE L i r l'∧∀(X:OwR) Mp,(∀k,owG k X=G k)->Met r l Mp->gq M' X (G x) (G x).length Mp l todo n (lD l'):=λj=>by
   induction j with
   |zero=>
    intro n hn todo l hk hm;rw[List.drop_of_length_le (by omega)]at hk;obtain⟨M',l',h1,h2⟩:=ih todo l (by omega) (Mo hk) hm;exact⟨M'+1,l',h1,λX Mp hX hM=>oO M' _ _ _ _ _ _ _ _<|⟨λh=>by omega,λ_=>h2 X Mp hX hM⟩⟩
   | succ j ihj=>
    intro n hn todo l hk hm;obtain⟨k,hkn⟩:∃k,(G x)[n]?=some k:=⟨_,List.getElem?_eq_getElem (by omega)⟩;have hgx:=hg x;rw[bV hkn]at hk;by_cases hmet:k=r∨k∈l
    ·obtain⟨M',l',h1,h2⟩:=ihj (n+1) (by omega) todo l (Nd hk hmet) hm;refine⟨M'+1+1,l',h1,λX Mp hX hM=>oO (M'+1) _ _ _ _ _ _ _ _<|⟨λ_=>⟨k,hkn,λh=>?_,λd hd=>?_⟩,λh=>by omega⟩⟩
     ·rw[hM k,if_pos hmet]at h;cases h
     ·rw[hM k,if_pos hmet]at hd;injection hd with hd
      subst hd;exact uB M' _ _ _ _ _ _ _ _ _ _ (⟨λh=>(by cases h),λ_=>⟨by omega,h2 X Mp hX hM⟩⟩)
    ·have hnew:=Mz hk (λe=>hmet<|.inl e) λe=>hmet<|.inr e;have hlen:=MJ hr hnew;simp only[aac,List.length_singleton]at hlen;obtain⟨M',l',h1,h2⟩:=ihj (n+1) (by omega) (todo++[k]) (l++[k]) hnew (by simp only[aac,List.length_singleton];omega);refine⟨M'+1+1,l',h1,λX Mp hX hM=>oO (M'+1) _ _ _ _ _ _ _ _<|⟨λ_=>⟨k,hkn,λh=>?_,λd hd=>?_⟩,λh=>by omega⟩⟩
     ·exact uB M' _ _ _ _ _ _ _ _ _ _ (⟨λ_=>⟨by simp only[aac,List.length_singleton];omega,by simp only[aac,List.length_singleton];omega,by omega,h2 X _ hX<|Pf hM⟩,λh=>by cases h⟩)
     ·rw[hM k,if_neg hmet]at hd;cases hd
  obtain⟨M',l',h1,h2⟩:=inner (G x).length 0 (by omega) todo l (by rw[List.drop_zero];exact JZ hs<|hG x) (by omega);refine⟨M'+1,l',h1,λX Mp hX hM=>tX M' _ _ _ _ _<|⟨λ_=>⟨todo.length,by simp,x,by simp,todo.length,by simp,by simp,λh=>?_,λd hd=>?_⟩,λh=>by simp at h⟩⟩
  ·rw[show(todo++[x]).take todo.length=todo by simp];rcases FI (x:=x) hX with⟨_,e⟩|e
   ·have :=h2 X Mp hX hM;rw[e]at this;exact this
   ·rw[h]at e;cases e
  ·rw[show(todo++[x]).take todo.length=todo by simp];rcases FI (x:=x) hX with⟨e,_⟩|e
   ·rw[hd]at e;cases e
   ·rw[hd]at e;injection e with e;rw[e];exact h2 X Mp hX hM
theorem Nt{l:List aj}(hl:l.length<=100000000)(hs:di ⟨l⟩ true)(hv:InS r)(hr:kg L i r)(E:∀x y,y∈l.foldl jA (λ_=>[]) x↔sP L i x y)(G:∀x,(l.foldl jA (λ_=>[]) x).length<=100000000)(J:L.length<=100000000):∃s l',nK ⟨l⟩ r s∧BelE L i r l'∧s.length=l'.length:=by
 obtain⟨M,l',h1,h2⟩:=FM hr E G J (2*L.length+1) [r] [] (by omega) (Lp L i r) (by simp);obtain⟨M',U⟩:=GF (l:=l) hl (id:=r) (r:=lD l') M λX Z _=>h2 X _ Z (λk=>by
  rw[ik];by_cases h:k=r
  ·rw[if_pos h,if_pos<|.inl h]
  ·rw[if_neg h,if_neg (λh'=>h'.elim h (by simp))];rfl)
 exact⟨lD l',l',BH M' _ _ _ (⟨_,Bz hv,λh=>(by cases h),λ_=>⟨_,hs,λh=>(by cases h),λ_=>U⟩⟩),h1,Av l'⟩
def mI(m:List (Int×Int)×YI)(c:aj):List (Int×Int)×YI:=if c.Field=2∧c.V_.Ref≠0 then(aR c.Id c.V_.Ref m.1,m.2++[c.Id])else m
theorem JL{O:List<|Int×Int}{A:YI}(hA:A.length<=100000000)(hn:A.Nodup)(hp:∀a∈A,0<a)(hO:∀x o,aC x O=some o->0<o∧o<x):∀j n F,j+n=A.length->(∀x v,aC x F=some v->v∈A.take n)->∃M,ff M O A A.length n [] F []:=λj=>by
 induction j with
 |zero=>
  intro n F hn _;exact⟨1,uw 0 _ _ _ _ _ _ _ (⟨λh=>by omega,λ_=>⟨_,Ha [] (by simp),by simp[lD]⟩⟩)⟩
 | succ j ih=>
  intro n F hj hF;obtain⟨st,hst⟩:∃st,A[n]?=some st:=⟨_,List.getElem?_eq_getElem (by omega)⟩;have hpos:=hp st (List.mem_of_getElem? hst);have htk:A.take (n+1)=A.take n++[st]:=by rw[List.take_add_one,hst];rfl
  have hno:st∉A.take n:=λh=>by
   have h2:(A.take<|n+1).Nodup:=hn.sublist<|List.take_sublist _ _;rw[htk,List.nodup_append]at h2;exact h2.2.2 st h st (by simp) rfl
  have inner:∀b (at':Int) F',at'.toNat<=b->0<at'->(∀x v,aC x F'=some v->v∈A.take (n+1))->(∀x v,x<=at'->aC x F'=some v->v∈A.take n)->∃M,fc M O A A.length st F' at' [] n []:=λb=>by
   induction b with
   |zero=>intro at' F' h1 h2;omega
   | succ b ihb=>
    intro at' F' h1 h2 h3 h4;obtain⟨M2,hM2⟩:=ih (n+1) F' (by omega) h3;have l4:jT (M2+1) O A A.length st F' [] at' n []:=by refine Bp M2 _ _ _ _ _ _ _ _ _ (⟨λ_=>⟨by omega,hM2⟩,λd hd=>⟨λ_=>⟨by omega,hM2⟩,λ_=>⟨λ_=>⟨λ_=>⟨by omega,hM2⟩,λh=>by omega⟩,λv hv=>⟨λ_=>⟨by omega,hM2⟩,λh=>?_⟩⟩⟩⟩);subst h;exact absurd (h4 at' _ (by omega) hv) hno
    cases ho:aC at' O with
    |none=>exact⟨M2+1+1,pq (M2+1) _ _ _ _ _ _ _ _ _<|⟨λ_=>l4,λd hd=>by rw[ho]at hd;cases hd⟩⟩
    | some o=>
     obtain⟨o1,o2⟩:=hO at' o ho;cases hf:aC at' F' with
     |some v=>
      have hv:=List.mem_of_mem_take (h4 at' v (by omega) hf);have :=hp v hv;exact⟨M2+1+1,pq (M2+1) _ _ _ _ _ _ _ _ _ (⟨λh=>(by rw[ho]at h;cases h),λd hd=>⟨λ_=>⟨λh=>(by rw[hf]at h;cases h),λv' hv'=>⟨λh=>(by rw[hf]at hv';injection hv' with hv';omega),λ_=>l4⟩⟩,λ_=>l4⟩⟩)⟩
     | none=>
      obtain⟨M3,hM3⟩:=ihb o (aR at' st F') (by omega) o1 (λx v h=>by
       rw[ik]at h;split at h
       ·injection h with h;rw[htk,<-h];simp
       ·exact h3 x v h) (λx v hx h=>by
       rw[ik,if_neg (by omega)]at h;exact h4 x v (by omega) h)
      refine⟨M3+M2+1+1,pq (M3+M2+1) _ _ _ _ _ _ _ _ _<|⟨λh=>(by rw[ho]at h;cases h),λd hd=>⟨λ_=>⟨λ_=>⟨λh=>(by rw[ho]at h;cases h),λd' hd'=>?_⟩,λv' hv'=>(by rw[hf]at hv';cases hv')⟩,λh=>?_⟩⟩⟩
      ·rw[ho]at hd';injection hd' with hd';subst hd'
       exact λK j1 j2 hK hj1 hj2=>hM3 K j1 j2 hK (by omega) (by omega)
      ·rw[ho]at hd;injection hd with hd;omega
  obtain⟨M,hM⟩:=inner st.toNat st F (by omega) hpos (λx v h=>by rw[htk];simp[hF x v h]) λx v _ h=>hF x v h;exact⟨M+1,uw M _ _ _ _ _ _ _<|⟨λ_=>⟨st,hst,hM⟩,λh=>by omega⟩⟩
theorem Gm:∀(l:List aj) (m:List (Int×Int)×YI),(l.foldl mI m).2.length<=m.2.length+l.length
 |[],m=>by simp
 |c::l,m=>by
  have :=Gm l<|mI m c;have h2:(mI m c).2.length<=m.2.length+1:=by unfold mI;split<;>simp
  simp only[aax,aad];omega
theorem Na{l:List aj}(hl:l.length<=100000000)(hs:di ⟨l⟩ true){O:List<|Int×Int}{A:YI}(hOA:l.foldl mI ([],[])=(O,A))(hn:A.Nodup)(hp:∀a∈A,0<a)(hO:∀x o,aC x O=some o->0<o∧o<x):nO ⟨l⟩ []:=by
 have hA:=Gm l ([],[]);rw[hOA]at hA;simp only[aae,Nat.zero_add]at hA;obtain⟨M,hM⟩:=JL (O:=O) (by omega) hn hp hO A.length 0 [] (by omega) (λx v h=>by cases h);have loop:∀k n m,k+n=l.length->m.2.length<=n->(l.drop n).foldl mI m=(O,A)->fa (M+2*k+1) ⟨l⟩ m.1 m.2 n []:=λk=>by
  induction k with
  |zero=>
   intro n m hn hm he;rw[List.drop_of_length_le (by omega)]at he;have e:m=(O,A):=he;subst e;exact tW M _ _ _ _ _ (⟨λh=>by simp only at h;omega,λ_=>hM⟩)
  | succ k ih=>
   intro n m hn hm he;obtain⟨c,hc⟩:∃c,l[n]?=some c:=⟨_,List.getElem?_eq_getElem (by omega)⟩;rw[bV hc,aax]at he;have no:¬(c.Field=2∧c.V_.Ref≠0)->fa (M+2*k+1) ⟨l⟩ m.1 m.2 (n+1) []:=λh=>by rw[mI,if_neg h]at he;exact ih (n+1) m (by omega) (by omega) he
   show fa (M+2*k+2+1) ⟨l⟩ m.1 m.2 n [];refine tW _ _ _ _ _ _ (⟨λ_=>⟨c,hc,λe1=>?_,λe1=>?_⟩,λh=>by simp only at h;omega⟩)
   ·refine tZ (M+2*k+1) _ _ _ _ _ _ _ (⟨λe2=>⟨?_,by omega,?_⟩,λe2=>⟨by omega,no λh=>by simp[h.2]at e2⟩⟩)
    ·simp only[aac,List.length_singleton];omega
    ·rw[mI,if_pos ⟨e1,by simpa using e2⟩]at he;exact ih (n+1) _ (by omega) (by simp only[aac,List.length_singleton];omega) he
   ·exact tZ (M+2*k+1) _ _ _ _ _ _ _ (⟨λe2=>(by cases e2),λ_=>⟨by omega,no λh=>e1 h.1⟩⟩)
 exact BM _ _ _ (⟨_,hs,λh=>(by cases h),λ_=>loop l.length 0 ([],[]) (by omega) (by simp)<|by simpa using hOA⟩)
structure GoodE (i:Int) (e:En):Prop where
 k:1<=e.k∧e.k<=5
 f:e.f=3∨e.f=4
 fit:∀c∈enC i e,yp e.k c
 nz:∀c∈enC i e,jY c.V_=false
 ld:e.l.Pairwise (λx y=>x.1<y.1)
 l40:∀x∈e.l,x.1<40
 h1:e.k=1->e.h.N=1∧e.h.Ref=0
 h2:e.k≠1->e.h.Ref≠0
def oZ(i:Int)(L:List En):Prop:=∀(j:Nat) e,L[j]?=some e->GoodE (i+j) e
theorem oZ.tail{r:List En}(h:oZ i<|e::r):GoodE i e∧oZ (i+1) r:=
 ⟨by simpa using h 0 e rfl,λj x hx=>by
  have :=h (j+1) x (by simpa using hx)
  rwa [show i+((j+1:Nat):Int)=i+1+(j:Int) by omega]at this⟩
theorem oZ.f(h:oZ i L):∀e∈L,e.f=3∨e.f=4:=λe E=>by obtain⟨j,G⟩:=List.mem_iff_getElem?.1 E;exact(h j e G).f
theorem sa(E:k<8):((8+n:Nat):Int)≠k:=by omega
theorem EH(h:∀e∈L,e.f=3∨e.f=4):(enL i L).foldl rq []=asc (λe=>some e.k) i L:=by
 have :=Ar (g:=λe:En=>some e.k) (st:=rq) (ok:=λe=>e.f=3∨e.f=4) (λi e m hf E=>by rw[vt (λm i n x=>by rw[rq,if_neg (sa (by omega))]),rq,rq,rq,if_neg (by simp only;omega),if_neg (by simp only;omega),if_pos rfl,wD E]) L i [] h (by simp)
 simpa using this
theorem NC(h:∀e∈L,e.f=3∨e.f=4):(enL i L).foldl sC []=asc (λ_=>some true) i L:=by
 have :=Ar (g:=λ_:En=>some true) (st:=sC) (ok:=λe=>e.f=3∨e.f=4) (λi e m hf E=>by rw[vt (λm i n x=>by rw[sC,if_neg (λh=>h.elim (sa (by omega)) (sa (by omega)))]),sC,sC,sC,if_pos (by simp only;omega),if_neg (by simp only;omega),if_neg (by simp only;omega),wD E]) L i [] h (by simp)
 simpa using this
theorem zS{j:Nat}(h:L[j]?=some e):aC (i+j) (asc (λe=>some e.k) i L)=some e.k:=FG h
theorem JI(hf:e.f=3∨e.f=4)(E:∀x∈e.l,x.1<40):∀c∈enC i e,1<=c.Field∧c.Field<48:=λc G=>by
 simp only[enC,aai,List.mem_map]at G;rcases G with rfl|rfl|rfl|⟨x,hx,rfl⟩
 ·simp only;omega
 ·simp only;omega
 ·simp only;omega
 ·have :=E x hx;simp only;omega
theorem OY(hf:e.f=3∨e.f=4)(hl:e.l.Pairwise λx y=>x.1<y.1):(enC i e).Pairwise BZ:=by
 simp only[enC,List.pairwise_cons,aai,List.mem_map,List.pairwise_map];refine⟨λc E=>?_,λc E=>?_,λc E=>?_,hl.imp λh=>.inr ⟨rfl,by simp only;omega⟩⟩
 ·rcases E with rfl|rfl|⟨x,_,rfl⟩<;>exact .inr ⟨rfl,by simp only;omega⟩
 ·rcases E with rfl|⟨x,_,rfl⟩<;>exact .inr ⟨rfl,by simp only;omega⟩
 ·obtain⟨x,_,rfl⟩:=E;exact .inr ⟨rfl,by simp only;omega⟩
theorem Ir:∀{L:List En} {i:Int},oZ i L->(enL i L).Pairwise BZ
 |[],i,_=>List.Pairwise.nil
 |e::r,i,h=>by obtain⟨h1,h2⟩:=h.tail;rw[enL,List.pairwise_append];refine⟨OY h1.f h1.ld,Ir h2,λa E b hb=>.inl ?_⟩;obtain⟨j,J,_,G⟩:=sb hb;rw[xZ E,xZ G];omega
section
variable{L:List En}{i:Int}(h:oZ i L)(hi:1048576<i)(hn:i+L.length<=2097152)(hl:(enL i L).length<=100000000)
include h hi hn hl
theorem wX:di ⟨enL i L⟩ true:=by
 have ids:∀c∈enL i L,InS c.Id∧1<=c.Field∧c.Field<48:=λc E=>by obtain⟨j,e,h1,h2⟩:=sb E;have g:=h j e h1;have :=(List.getElem?_eq_some_iff.1 h1).1;exact⟨by rw[xZ h2];constructor<;>omega,JI g.f g.l40 c h2⟩
 have hv:=LW (l:=enL i L) (by omega) ids (λc E=>by obtain⟨j,e,h1,h2⟩:=sb E;exact(h j e h1).nz c h2) (Ir h)
 refine MS (by omega) hv (EH h.f) (λc E=>?_) ?_
 ·obtain⟨j,e,h1,h2⟩:=sb E;have g:=h j e h1;refine⟨e.k,?_,by have :=g.k;omega,g.fit c h2⟩;rw[xZ h2];exact zS h1
 ·rw[NC h.f,Ca λ_ _=>rfl,Ca λ_ _=>rfl]
end
def mdE:Int->List En->YI
 |_,[]=>[]
 |i,e::r=>(if e.k=1 then[i]else[])++mdE (i+1) r
theorem GQ:∀(a b:List En) (i:Int),mdE i (a++b)=mdE i a++mdE (i+(a.length:Int)) b
 |[],b,i=>by simp[mdE]
 |e::a,b,i=>by simp only[aap,mdE,GQ a b,aak,aad];rw[show i+1+(a.length:Int)=i+((a.length+1:Nat):Int) by omega]
theorem yY:∀{L:List En} {i x:Int},x∈mdE i L↔∃(j:Nat) (e:En),L[j]?=some e∧e.k=1∧x=i+j
 |[],i,x=>by simp[mdE]
 | e ::r,i,x=>by
  simp only[mdE,aaj,yY (L:=r)];constructor
  ·rintro(h|⟨j,e',h1,h2,h3⟩)
   ·split at h
    ·rename_i hk;simp only[List.mem_singleton]at h;exact⟨0,e,I,hk,by simpa using h⟩
    ·cases h
   ·exact⟨j+1,e',by simpa using h1,h2,by omega⟩
  ·rintro⟨j,e',h1,h2,h3⟩;cases j with
   |zero=>
    simp only[List.getElem?_cons_zero,aaa]at h1;subst h1;exact .inl (by rw[if_pos h2];simpa using h3)
   |succ j=>exact .inr ⟨j,e',by simpa using h1,h2,by omega⟩
theorem Hm:∀{L:List En} {i:Int},(mdE i L).Pairwise (·<·)
 |[],i=>List.Pairwise.nil
 |e::r,i=>by
  rw[mdE,List.pairwise_append];refine⟨by split<;>simp,Hm,λa E b hb=>?_⟩;obtain⟨j,G,_,_,J⟩:=yY.1 hb;split at E
  ·simp only[List.mem_singleton]at E;omega
  ·cases E
theorem EB(h:l.Pairwise (·<·)):l.Nodup:=by rw[List.nodup_iff_pairwise_ne];exact h.imp λh e=>by omega
theorem EG{K:List<|Int×Int}:∀{L:List En} {i:Int} {r:YI},oZ i L->(∀(j:Nat) e,L[j]?=some e->aC (i+j) K=some e.k)->(enL i L).foldl (nZ K) r=r++mdE i L
 |[],i,r,_,_=>by simp[enL,mdE]
 | e::L,i,r,h,hK=>by
  obtain⟨h1,h2⟩:=h.tail;have hk:=hK 0 e rfl;simp only[Int.natCast_zero,Int.add_zero]at hk;have hf:=h1.f;have e0:(enC i e).foldl (nZ K) r=r++if e.k=1 then[i]else[]:=by
   rw[vt λm i n x=>by rw[nZ,if_neg λh=>sa (by omega) h.1]];have a1:nZ K r ⟨i,1,⟨e.k,false,[],0⟩⟩=r:=by rw[nZ,if_neg (λh=>by have :=h.1;simp only at this;omega)]
   rw[a1];have a3:∀r',nZ K r' ⟨i,e.f,e.v⟩=r':=λr'=>by rw[nZ,if_neg (λh=>by have :=h.1;simp only at this;omega)]
   rw[a3];by_cases h0:e.k=1
   ·rw[nZ,if_pos ⟨rfl,by simp only;rw[hk,h0],(h1.h1 h0).1⟩,if_pos h0]
   ·rw[nZ,if_neg (λh=>h0 (by have :=h.2.1;simp only at this;rw[hk]at this;exact Option.some.inj this)),if_neg h0];simp
  rw[wC,e0,EG h2 (λj x hx=>by
   have :=hK (j+1) x (by simpa using hx)
   rwa [show i+((j+1:Nat):Int)=i+1+(j:Int) by omega]at this),mdE,aak]
theorem ET:∀{L:List En} {i:Int} {m:Int->YI} {x y:Int},(∀e∈L,e.f=3∨e.f=4)->(y∈(enL i L).foldl jA m x↔y∈m x∨sP L i x y)
 |[],i,m,x,y,_=>by simp[enL,sP]
 | e ::L,i,m,x,y,hf=>by
  have hfe:=hf e (by simp);have e0:(enC i e).foldl jA m=jA m ⟨i,2,e.h⟩:=by
   rw[vt (λm i n x=>by funext k;rw[jA,if_neg λh=>sa (by omega) h.1])];have a1:jA m ⟨i,1,⟨e.k,false,[],0⟩⟩=m:=by funext k;rw[jA,if_neg (λh=>by have :=h.1;simp only at this;omega)]
   have a3:∀m',jA m' ⟨i,e.f,e.v⟩=m':=λm'=>by funext k;rw[jA,if_neg (λh=>by have :=h.1;simp only at this;omega)]
   rw[a1,a3]
  rw[wC,e0,ET λz hz=>hf z<|by simp[hz]];have e1:y∈jA m ⟨i,2,e.h⟩ x↔y∈m x∨(e.h.Ref=x∧x≠0∧y=i):=by
   rw[jA];split
   ·rename_i h;obtain⟨_,h1,h2⟩:=h;simp only[aaj,List.mem_singleton];constructor
    ·rintro(h|h)
     ·exact .inl h
     ·exact .inr ⟨h2.symm,by rw[h2];exact h1,h⟩
    ·rintro(h|⟨_,_,h⟩)
     ·exact .inl h
     ·exact .inr h
   ·rename_i h;constructor
    ·exact .inl
    ·rintro(h'|⟨a,b,_⟩)
     ·exact h'
     ·exact absurd ⟨rfl,by simp only;rw[a];exact b,a.symm⟩ h
  rw[e1];constructor
  ·rintro((h|⟨a,b,c⟩)|⟨j,e',a,b,c,d⟩)
   ·exact .inl h
   ·exact .inr ⟨0,e,I,a,b,by simpa using c⟩
   ·exact .inr ⟨j+1,e',by simpa using a,b,c,by omega⟩
  ·rintro(h|⟨j,e',a,b,c,d⟩)
   ·exact .inl<|.inl h
   ·cases j with
    |zero=>
     simp only[List.getElem?_cons_zero,aaa]at a;subst a;exact .inl (.inr ⟨b,c,by simpa using d⟩)
    |succ j=>exact .inr ⟨j,e',by simpa using a,b,c,by omega⟩
theorem Hq:∀(l:List aj) (m:Int->YI) (x:Int),(l.foldl jA m x).length<=(m x).length+l.length
 |[],m,x=>by simp
 |c::l,m,x=>by
  have :=Hq l (jA m c) x;have h2:(jA m c x).length<=(m x).length+1:=by unfold jA;split<;>simp
  simp only[aax,aad];omega
def Cd(e:En):Option Int:=if e.h.Ref≠0 then some e.h.Ref else none
theorem Aw:∀{L:List En} {i:Int} {M:List<|Int×Int} {A:YI},(∀e∈L,e.f=3∨e.f=4)->(∀x∈M,x.1<i)->(enL i L).foldl mI (M,A)=(M++asc Cd i L,A++(asc Cd i L).map (·.1))
 |[],i,M,A,_,_=>by simp[enL,asc]
 | e::L,i,M,A,hf,hM=>by
  have hfe:=hf e (by simp);have e0:(enC i e).foldl mI (M,A)=match Cd e with|some b=>(M++[(i,b)],A++[i])|none=>(M,A):=by
   rw[vt λm i n x=>by rw[mI,if_neg λh=>sa (by omega) h.1]];have a1:mI (M,A) ⟨i,1,⟨e.k,false,[],0⟩⟩=(M,A):=by rw[mI,if_neg (λh=>by have :=h.1;simp only at this;omega)]
   have a3:∀m',mI m' ⟨i,e.f,e.v⟩=m':=λm'=>by rw[mI,if_neg (λh=>by have :=h.1;simp only at this;omega)]
   rw[a1,a3,mI,Cd];by_cases h0:e.h.Ref≠0
   ·rw[if_pos ⟨rfl,h0⟩,if_pos h0];simp only;rw[wD hM]
   ·rw[if_neg λh=>h0 h.2,if_neg h0]
  rw[wC,e0,asc];cases hq:Cd e with
  |none=>
   simp only[aal];exact Aw (λz hz=>hf z<|by simp[hz]) λx hx=>by have :=hM x hx;omega
  | some b=>
   simp only[aaq,aah,aau];rw[Aw (λz hz=>hf z (by simp[hz])) λx hx=>by
    rcases List.mem_append.1 hx with hx|hx
    ·have :=hM x hx;omega
    ·simp only[List.mem_singleton]at hx;rw[hx];simp only;omega]
   simp only[aak]
theorem Fc{β:Type}{g:En->Option β}:∀{L:List En} {i:Int},((asc g i L).map (·.1)).Pairwise (·<·)
 |[],i=>List.Pairwise.nil
 |e::r,i=>by
  rw[asc,aaq,List.pairwise_append];refine⟨by cases g e<;>simp,Fc,λa E b hb=>?_⟩;obtain⟨y,hy,rfl⟩:=List.mem_map.1 hb;have :=yd hy;cases G:g e with
  |none=>rw[G]at E;cases E
  |some v=>rw[G]at E;simp only[aah,aau,List.mem_singleton]at E;omega
section
variable{L:List En}{i:Int}(h:oZ i L)(hT:Dx L i)(hi:1048576<i)(hn:i+L.length<=2097152)(hl:(enL i L).length<=100000000)
include h hi hn hl
theorem Pr:kY ⟨enL i L⟩ (mdE i L):=by
 have :=Iy (l:=enL i L) hl (wX h hi hn hl) (EH h.f) (λc E=>by obtain⟨j,e,h1,h2⟩:=sb E;exact⟨e.k,by rw[xZ h2];exact zS h1⟩)
 rw[EG h λj e G=>zS G]at this;exact this
include hT
theorem Mm(hr:r∈mdE i L):∃s l',nK ⟨enL i L⟩ r s∧BelE L i r l'∧s.length=l'.length:=by
 have _:=hT
 obtain⟨j,e,h1,h2,E⟩:=yY.1 hr;have :=(List.getElem?_eq_some_iff.1 h1).1;refine Nt hl (wX h hi hn hl) (by constructor<;>omega) ⟨j,e,h1,((h j e h1).h1 h2).2,E⟩ (λx y=>?_) (λx=>?_) (by omega)
 ·rw[ET h.f];simp
 ·have :=Hq (enL i L) (λ_=>[]) x;simp only[aae]at this;omega
theorem Nv:nO ⟨enL i L⟩ []:=by
 have hf:=Aw (L:=L) (i:=i) (M:=[]) (A:=[]) h.f (by simp);simp only[aal]at hf;refine Na hl (wX h hi hn hl) hf (EB Fc) (λa J=>?_) λx o hx=>?_
 ·obtain⟨y,hy,rfl⟩:=List.mem_map.1 J;have :=yd hy;omega
 ·obtain⟨j,e,h1,h2,E⟩:=Gc hx;unfold Cd at E;split at E
  ·rename_i U;injection E with E
   rcases hT.2 j e h1 with G|⟨Z,G,h5⟩
   ·exact absurd G U
   ·omega
  ·cases E
end
theorem BW(h:oZ i L):kg L i r↔r∈mdE i L:=by
 rw[yY];constructor
 ·rintro⟨j,e,h1,h2,E⟩;refine⟨j,e,h1,?_,E⟩;by_cases G:e.k=1
  ·exact G
  ·exact absurd h2<|(h j e h1).h2 G
 ·rintro⟨j,e,h1,h2,E⟩;exact⟨j,e,h1,((h j e h1).h1 h2).2,E⟩
def kA(E:YI)(G:Bool):Prop:=qS 6 [.row 1<|List.map (V.int .i64) E]<|.bool G
def cx(m:Nat)(a:YT)(b:aJ)(d e:Int)(f:YI)(g i:Nat)(E:Bool):Prop:=z8 m [] f6 (z6<|.bool E) (xL<|xA<|ab f6) [.blk 0,.seq<|xD<|xH<|ab f6] 68 [(3,.row 4<|kidsV a),(4,.ptr 0 0),(5,qi d),(6,qi e),(7,qi (g:Int)),(8,.row 1<|List.map (V.int .i64) f),(9,qi (i:Int))] ⟨1,[(0,.var 30<|aJ.c b)]⟩
theorem jU(m:Nat)(p0:YI)(r0:Bool)(h:∃a,lM p0 a∧((a=false)->∃d,kH d∧d=r0)∧((a=true)->∃b,km p0 b∧∃c e f,jw b 1048576 c e f∧∃g,kY c g∧cx m b c e f g 0 0 r0)):kA p0 r0:=by
 refine⟨I,I,?_⟩;refine qA 68 [] func6 λK hK=>?_;refine gR 9 I ?_;obtain⟨a,i,h⟩:=h;refine qC0 i rfl<|gR 3 rfl<|qXh 12 rfl rfl rfl h bz bx ?_ ?_<;>intro hd h;refine gR 3 I ?_;obtain⟨d,j,h⟩:=h;refine qC0 j I<|gR 5 I ?_;subst h;exact qN [.tmp 2];refine gR 6 I ?_;obtain⟨b,k,h⟩:=h;refine qC0 k I<|gR 6 I ?_;obtain⟨c,e,f,l,h⟩:=h;refine qC0 l I<|gR 18 I ?_;obtain⟨g,n,h⟩:=h;exact qC0 n I<|gR 10 I<|go_loop m<|qW hK h [0]
theorem jN(m:Nat)(g:YT)(i:aJ)(c j:Int)(a:YI)(b d:Nat)(E:Bool)(h:y6 (d<a.length) (b+1<=9223372036854775807∧∃o,a[d]?=some o∧∃e,nK i o e∧b+1+e.length<=9223372036854775807∧cx m g i c j a (b+1+e.length) (d+1) E)<|∃k,kH k∧y7 k (y9 j 0 (∃l,di i l∧y7 l (y9 a.length g.length (InI (c-1048576)∧y9 (b:Int) (c-1048576) (∃n,nO i n∧((n.length:Int)==0)=E) (false=E))<|false=E) (false=E))<|false=E) (false=E)):cx (m+1) g i c j a b d E:=by
 refine qj λK U J z=>?_;refine gR 6 rfl<|gV 26 (qi (a.length:Int)) rfl (aN<|az (V.int .i64) _) rfl<|gLB 25 rfl (az (V.int .i64) _) λq=>gR 3 rfl<|qXh 27 rfl rfl rfl h bQ bS ?_ ?_<;>intro G h;refine gR 5 I<|qDs [0] 7 11<|qDr [(0,2)] I I ?_;obtain⟨hb,h⟩:=h;refine qDr [(1,2)] I I<|gV 31 (qi ((b+1:Nat):Int)) I (am (by omega)<|by omega) I<|qDr [(2,3),(3,2),(4,0)] I I ?_;obtain⟨o,p,h⟩:=h;refine fB 5 I (by kernel_rfl) (ax (av (f:=(V.int .i64)) p) ac I I I I) I I ?_;refine qDr [(6,0)] I I ?_;obtain⟨e,r,h⟩:=h;refine bM 7 r (by kernel_rfl) I (by kernel_rfl) I I .rfl I I ?_;refine qDr [(8,1)] I I<|gV 38 (qi (e.length:Int)) I (aN<|az (V.int .i64) _) I<|gLB 37 I (az (V.int .i64) _) λw=>?_;obtain⟨hb,h⟩:=h;exact qDr [(9,1)] I I<|gV 39 (qi ((b+1+e.length:Nat):Int)) I (am (by omega)<|by omega) I<|qDr [(10,1)] I I<|qDe<|gR 5 I<|gV 29 (qi ((d+1:Nat):Int)) I (am (by have :=q;omega)<|by omega) I<|gR 2 I<|go_xloop<|qW J h [0];refine gR 3 I<|go_xloopE<|gR 4 I ?_;obtain⟨k,s,h⟩:=h;refine qC0 s rfl<|gR 1 rfl<|qXiZ 41 40 rfl rfl rfl rfl h ?_ ?_<;>intro G h;refine gR 4 rfl<|qXeZ 45 44 rfl rfl rfl rfl h ?_ ?_<;>intro G h;refine gR 1 I ?_;obtain⟨l,t,h⟩:=h;refine qC0 t rfl<|gR 2 rfl<|qXiZ 49 48 rfl rfl rfl rfl h ?_ ?_<;>intro G h;refine gR 2 rfl<|gV 51 (qi (a.length:Int)) rfl (aN<|az (V.int .i64) _) rfl<|gR 2 rfl<|gV 53 (qi (g.length:Int)) rfl (aN<|aO _) rfl<|gLB 52 rfl (aO _) λx=>gR 3 rfl<|qXhZ 56 55 rfl rfl rfl rfl h Tv Tf ?_ ?_<;>intro G h;refine gR 2 I ?_;obtain⟨hb,h⟩:=h;refine gR 1 rfl<|gV 59 (qi<|c-1048576) rfl (am hb rfl) rfl<|gR 3 rfl<|qXeZ 62 61 rfl rfl rfl rfl h ?_ ?_<;>intro G h;refine gR 1 I ?_;obtain⟨n,v,h⟩:=h;refine qC0 v I<|gR 1 I<|gV 65 (qi (n.length:Int)) I (aN<|az (V.int .i64) _) I<|gLB 64 I (az (V.int .i64) _) λy=>gR 6 I ?_;subst h;exact qN [.tmp 2];refine gR 9 I ?_;subst h;exact qN [.tmp 2];refine gR 15 I ?_;subst h;exact qN [.tmp 2];refine gR 22 I ?_;subst h;exact qN [.tmp 2];refine gR 26 I ?_;subst h;exact qN [.tmp 2];refine gR 30 I ?_;subst h;exact qN [.tmp 2]
theorem Ct:∀(q:YI) (t u:Tree),leadedT t=true->atK t q=some u->leadedT u=true
 |[],t,u,h,hq=>by simp only[atK,aaa]at hq;subst hq;exact h
 |i::q,t,u,h,hq=>by
  simp only[atK]at hq;split at hq
  ·cases hq
  split at hq
  ·cases hq
  rename_i y hy;exact Ct q y u (oS (oP h).2.2 hy) hq
theorem Hc:∀(q:YI) (t u:Tree),atK t q=some u->tbulk u<=tbulk t
 |[],t,u,hq=>by simp only[atK,aaa]at hq;subst hq;exact aag _
 |i::q,t,u,hq=>by
  simp only[atK]at hq;split at hq
  ·cases hq
  split at hq
  ·cases hq
  rename_i y hy;have h1:=Hc q y u hq;have h2:=cP hy;have E:=bt t;omega
theorem GS{k:Int}:∀{ls:List YB} {i n:Nat} {s:YB},iJ k ls i=true->ls[n]?=some s->cC false s (k==1&&((i+n:Nat):Int)==2)=true
 |[],i,n,s,_,h=>by simp at h
 |a::r,i,0,s,h,hs=>by simp only[List.getElem?_cons_zero,aaa]at hs;subst hs;simp only[iJ,aab]at h;simpa using h.1
 |a::r,i,n+1,s,h,hs=>by
  simp only[iJ,aab]at h;have :=GS (n:=n) h.2 (by simpa using hs)
  rwa [show i+1+n=i+(n+1) by omega]at this
theorem FP(hl:leadedT u=true)(E:limK u=true):u.leads.length<=40:=by
 have h1:=(oP hl).1;rw[nw]at h1;rw[vJ]at E;simp only[aab,aas]at E;obtain⟨⟨a,b,c,d⟩,_⟩:=E;unfold bB f0 at h1
 repeat' split at h1
 all_goals first|omega|(have :=b ‹_›;omega)|(have :=c ‹_›;omega)|(have :=d ‹_›;omega)
theorem Fa{n:Int}(h:0<=bB k n):1<=k∧k<=22:=by
 unfold bB f0 at h
 repeat' split at h
 all_goals omega
def ldE:Nat->List YB->List (Nat×YB)
 |_,[]=>[]
 |k,s::r=>if s=[]then ldE (k+1) r else(k,s)::ldE (k+1) r
theorem Lq(i:Int):∀(k:Nat) (l:List YB),nzF (ldK i k l)=(ldE k l).map λx=>(⟨i,((8+x.1:Nat):Int),⟨0,false,x.2,0⟩⟩:aj)
 |_,[]=>rfl
 | k,s::r=>by
  have ih:=Lq i (k+1) r;simp only[ldK,ldE];by_cases h:s=[]
  ·subst h;rw[if_pos rfl,<-ih];simp[nzF,jY]
  ·rw[if_neg h,aah,<-ih];simp[nzF,jY,h]
theorem vP:∀{l:List YB} {k:Nat} {x:Nat×YB},x∈ldE k l->∃n,l[n]?=some x.2∧x.1=k+n∧x.2≠[]
 |[],k,x,h=>by cases h
 | s::r,k,x,h=>by
  simp only[ldE]at h;split at h
  ·obtain⟨n,h1,h2,h3⟩:=vP h;exact⟨n+1,by simpa using h1,by omega,h3⟩
  ·rename_i hs;rcases List.mem_cons.1 h with rfl|h
   ·exact⟨0,I,I,hs⟩
   ·obtain⟨n,h1,h2,h3⟩:=vP h;exact⟨n+1,by simpa using h1,by omega,h3⟩
theorem Cc:∀(l:List YB) (k:Nat),(ldE k l).Pairwise λx y=>x.1<y.1
 |[],k=>List.Pairwise.nil
 | s::r,k=>by
  simp only[ldE];split
  ·exact Cc r<|k+1
  ·rw[List.pairwise_cons];refine⟨λx hx=>?_,Cc r<|k+1⟩;obtain⟨n,_,h2,_⟩:=vP hx;simp only;omega
def enK(p:YT)(m:Nat)(t:Tree)(q:YI):En:=
 ⟨dp (atD t q).kind,iO 1048576 p m t q,if dp (atD t q).kind=5 then 4 else 3,if dp (atD t q).kind=5 then qr 1048576 p m t q else⟨0,false,(atD t q).text,0⟩,ldE 0 (atD t q).leads⟩
variable{m:Nat}
theorem Br(h:nNs (p.take m)+n+1<=1048575):idK 1048576 p m n=1048577+((nNs (p.take m)+n:Nat):Int):=by
 rw[idK,eE,if_pos ⟨by decide,by omega⟩,if_neg (by omega),if_neg<|by omega];simp only;omega
theorem Qk{i:Nat}(hn:n<=400)(hi:i<n):gG ((wW n).getD i []) true:=by
 have e:(wW n).getD i []=Cb n (i+1):=by rw[List.getD_eq_getElem?_getD,List.getElem?_eq_getElem (by rw[EA];exact hi)];simp[wW]
 have h1:=Nat.div_mul_le_self 650<|n+1;have h2:0<650/(n+1):=Nat.div_pos (by omega) (by omega);have J:(i+1)*(650/(n+1))<=n*(650/(n+1)):=Nat.mul_le_mul_right _ (by omega);have U:(n+1)*(650/(n+1))=n*(650/(n+1))+650/(n+1):=Nat.succ_mul _ _;rw[Nat.mul_comm]at h1;obtain⟨x,hx⟩:∃x,x=(i+1)*(650/(n+1)):=⟨_,rfl⟩;have G:x<650:=by omega
 have t1:(UInt8.ofNat<|97+x/25).toNat=97+x/25:=by rw[UInt8.toNat_ofNat'];omega
 have t2:(UInt8.ofNat<|98+x%25).toNat=98+x%25:=by rw[UInt8.toNat_ofNat'];omega
 rw[e,Cb,<-hx];refine Qe (by simp) (by simp) (λc E=>?_) λc E=>?_
 ·simp only[aai,List.not_mem_nil,or_false]at E;rcases E with rfl|rfl
  ·rw[t1];omega
  ·rw[t2];omega
 ·change some (UInt8.ofNat<|98+x%25)=some c at E;injection E with E
  rw[<-E,t2];omega
section
variable{p:YT}(hN:nNs p<=1000000)(hp:ea p=true)(hF:Few p){m:Nat}{t u:Tree}{q:YI}(ht:p[m]?=some t)(hq:atK t q=some u)
include hN ht hq
theorem Eg:InS (idK 1048576 p m<|ay t q):=by
 have h1:=oI q t u hq;have h2:=fy ht;have E:=sV u;rw[Br<|by omega];constructor<;>omega
include hp in
theorem Ei(hs:shapeK u=true)(h5:dp u.kind=5):DC (qr 1048576 p m t q):=by
 have hu:=fZ hq;have hk:=Fa<|lu hs;have hw:nE u.kind u.text=true:=by rw[dQ]at hs;simp only[aab]at hs;exact hs.1.2
 have h5':5<=u.kind:=by
  unfold dp at h5
  repeat' split at h5
  all_goals omega
 unfold qr;cases h:usK p m t q with
 |none=>rw[hu];exact .inl ⟨rfl,rfl,h5',hk.2,hw⟩
 | some v=>
  obtain⟨j,t',w,r,a1,a2,a3,a4⟩:=KL hp ht hq h;have hid:=Eg hN a3 a4;simp only[a1,a2,Int.toNat_natCast];refine .inr ⟨hid,I,?_⟩;rw[hu];have hk2:u.kind=12∨u.kind=16∨u.kind=9∨u.kind=17:=by
   unfold usK at h;rw[hu]at h;by_cases c1:u.kind=12
   ·exact .inl c1
   by_cases c2:u.kind=16∨u.kind=9
   ·rcases c2 with c|c
    ·exact .inr<|.inl c
    ·exact .inr<|.inr<|.inl c
   by_cases c3:u.kind=17
   ·exact .inr<|.inr<|.inr c3
   rw[if_neg c1,if_neg c2,if_neg c3]at h;cases h
  rcases hk2 with c|c|c|c
  ·left;simp[c]
  ·right;left;exact c
  ·right;right;exact c
  ·left;simp[c]
include hF in
theorem Nn(ht1:shapeK t=true)(hne:q≠[]):IA (iO 1048576 p m t q)∧∃g,g<nNs (p.take m)+ay t q∧(iO 1048576 p m t q).Ref=1048577+(g:Int):=by
 rcases List.eq_nil_or_concat q with rfl|⟨r,i,rfl⟩
 ·exact absurd I hne
 rw[List.concat_eq_append]at hq⊢;obtain⟨w,c,rfl,U,hc⟩:=vp hq;have el:(r++[(c:Int)]).length-1=r.length:=by simp
 have et:(r++[(c:Int)]).take r.length=r:=by simp
 have eg:(r++[(c:Int)]).getD r.length 0=(c:Int):=by simp[List.getD_eq_getElem?_getD]
 have hid:=Eg hN ht U;have hk4:=hF m t w r ht U;have hcl:=(List.getElem?_eq_some_iff.1 hc).1;have hws:=nW r t w ht1 U;have E:=lu hws;have h1:=oI r t w U;have h2:=fy ht;have h3:=sV w;have J:=Br (p:=p) (m:=m) (n:=ay t r) (by omega);have hnum:=CA U hc;have Z:¬(r++[(c:Int)]=[]):=by simp
 rw[iO,if_neg Z,el,et,eg,fZ U];have hl0:0<=gh w:=by
  unfold gh
  repeat' split
  ·omega
  ·rename_i hk2;rw[hk2]at E;simp[bB,f0]at E
   repeat' split at E
   all_goals omega
  ·omega
 obtain⟨n,hn⟩:∃n:Nat,gh w=n:=⟨(gh w).toNat,by omega⟩;have hlk:=Er w;split
 ·rename_i hlt;rw[hn]at hlt;refine⟨⟨I,hid,.inl ⟨I,?_⟩⟩,nNs (p.take m)+ay t r,by omega,J⟩;rw[hn,Int.toNat_natCast,Int.toNat_natCast];exact Qk (by omega) (by omega)
 ·rename_i G;refine⟨⟨I,hid,.inr ⟨?_,?_,I⟩⟩,nNs (p.take m)+ay t r,by omega,J⟩
  ·simp only;omega
  ·simp only;unfold gh at G⊢;by_cases k1:w.kind=1∨w.kind=16∨w.kind=18
   ·rw[if_pos k1]at G;omega
   ·rw[if_neg k1]at G⊢;by_cases k2:w.kind=2
    ·rw[if_pos k2]at G⊢;omega
    ·rw[if_neg k2];have :w.kids.length<=3:=by
      unfold bB f0 at E
      repeat' split at E
      all_goals omega
     omega
end
theorem yl:dp k=1↔k=1:=by
 unfold dp
 repeat' split
 all_goals omega
theorem OO(k:Int):1<=dp k∧dp k<=5:=by
 unfold dp
 repeat' split
 all_goals omega
theorem good_en(hN:nNs p<=1000000)(hp:ea p=true)(hF:Few p){q:YI}(ht:p[m]?=some t)(hq:atK t q=some u)(h1:t.kind=1)(hv:Vld t)(hb:tbulk t<=10000000):
  nzF (rr 1048576 p m t q)=enC (idK 1048576 p m<|ay t q) (enK p m t q)∧GoodE (idK 1048576 p m<|ay t q) (enK p m t q)∧(q=[]->(enK p m t q).k=1)∧(q≠[]->(enK p m t q).k≠1∧∃g,g<nNs (p.take m)+ay t q∧(enK p m t q).h.Ref=1048577+(g:Int)):=by
 have G:=fZ hq;have hs:=nW q t u hv.shape hq;have hl:=Ct q t u hv.lead hq;have hm:=FR q t u hv.lim hq;have hbu:=Hc q t u hq;have htl:=cU u;have htb:=bt u;have hk:=Fa<|lu hs;have he:=OO u.kind;have hw:nE u.kind u.text=true:=by rw[dQ]at hs;simp only[aab]at hs;exact hs.1.2
 have hid:=Eg hN ht hq;have hq1:q=[]->u.kind=1:=λe=>by subst e;simp only[atK,aaa]at hq;subst hq;exact h1
 have hq2:q≠[]->u.kind≠1:=λe=>by
  rcases List.eq_nil_or_concat q with rfl|⟨r,i,rfl⟩
  ·exact absurd I e
  rw[List.concat_eq_append]at hq;obtain⟨w,c,rfl,hw',hc⟩:=vp hq;exact Ci (iB (nW r t w hv.shape hw') hc).2
 have hhome:(q=[]∧iO 1048576 p m t q=⟨1,false,[],0⟩)∨(q≠[]∧IA (iO 1048576 p m t q)∧∃g,g<nNs (p.take m)+ay t q∧(iO 1048576 p m t q).Ref=1048577+(g:Int)):=by
  by_cases e:q=[]
  ·left;exact⟨e,by rw[iO,if_pos e]⟩
  ·right;exact⟨e,Nn hN hF ht hq hv.shape e⟩
 have hnh:jY (iO 1048576 p m t q)=false:=by
  rw[jY,aaA];rintro⟨a,_,_,b⟩;rcases hhome with⟨_,e⟩|⟨_,h,_⟩
  ·rw[e]at a;cases a
  ·have :=h.2.1.1;omega
 have hname:dp u.kind≠5->(((u.kind=1∨u.kind=3)∧(bj u.text:Int)=2)∨((u.kind=2∨u.kind=4)∧(bj u.text:Int)=1))∧dp u.kind=u.kind:=λh=>by
  have h4:u.kind=1∨u.kind=2∨u.kind=3∨u.kind=4:=by
   unfold dp at h
   repeat' split at h
   all_goals omega
  rcases h4 with h4|h4|h4|h4<;>(rw[h4]at hw⊢;simp[nE]at hw;simp[dp,hw])
 have U:jY (if dp u.kind=5 then qr 1048576 p m t q else⟨0,false,u.text,0⟩)=false:=by
  rw[jY,aaA];split
  ·rename_i E;rintro⟨a,_,c,b⟩;rcases Ei hN hp ht hq hs E with⟨_,_,h,_⟩|⟨h,_⟩
   ·omega
   ·have :=h.1;omega
  ·rename_i E;rintro⟨_,_,a,_⟩;rcases(hname E).1 with⟨_,h⟩|⟨_,h⟩
   ·exact Eb (λe=>by rw[e]at h;cases h) a
   ·exact Eb (λe=>by rw[e]at h;cases h) a
 have Z:nzF (rr 1048576 p m t q)=enC (idK 1048576 p m<|ay t q) (enK p m t q):=by
  have hkn:jY (⟨dp u.kind,false,[],0⟩:ak)=false:=by rw[jY,aaA];rintro⟨a,_⟩;simp only at a;omega
  rw[rr,fL,fL,fL,Lq,enC,enK,G,rZ,rZ,if_neg (by rw[hkn];simp),if_neg (by rw[hnh];simp)];by_cases E:dp u.kind=5
  ·rw[if_pos E]at U;rw[if_pos E,if_pos E,if_pos E,rZ,if_neg (by rw[U];simp)];rfl
  ·rw[if_neg E]at U;rw[if_neg E,if_neg E,if_neg E,rZ,if_neg (by rw[U];simp)];rfl
 refine⟨Z,⟨?_,?_,?_,?_,?_,?_,?_,?_⟩,λe=>?_,λe=>⟨?_,?_⟩⟩
 ·simp only[enK,G];exact he
 ·simp only[enK,G];split<;>simp
 ·intro c hc;simp only[enC,enK,G,aai,List.mem_map]at hc;rcases hc with rfl|rfl|rfl|⟨x,hx,rfl⟩
  ·simp only[enK,G];exact Nu he.1 he.2
  ·simp only[enK,G];rcases hhome with⟨e,h⟩|⟨e,h,_⟩
   ·rw[h,hq1 e];exact LN
   ·have :dp u.kind≠1:=λh'=>hq2 e<|yl.1 h';exact MB (by omega) he.2 h
  ·simp only[enK,G];by_cases E:dp u.kind=5
   ·rw[if_pos E,if_pos E,E];have hg:=Ei hN hp ht hq hs E;refine Kq ?_ hg;unfold qr;cases usK p m t q with
    |none=>rw[G];simp only;omega
    |some v=>simp
   ·rw[if_neg E,if_neg E];obtain⟨n1,n2⟩:=hname E;rw[n2];exact ME (by omega) n1
  ·simp only[enK,G];obtain⟨n,l1,l2,l3⟩:=vP hx;have hl40:=FP hl hm;have hn:=(List.getElem?_eq_some_iff.1 l1).1;have htr:=GS (oP hl).2.1 l1;have hsz:=ta l1;rw[Nat.zero_add]at htr l2;rw[l2];refine Ms he.1 he.2 (by omega) (by omega) ?_;rw[<-htr]
   congr 1
   have e1:decide (dp u.kind=1)=(u.kind==1):=by
    by_cases h:u.kind=1
    ·rw[h];rfl
    ·rw[decide_eq_false λh'=>h<|yl.1 h'];exact(beq_eq_false_iff_ne.2 h).symm
   have e2:decide (n=2)=(((n:Nat):Int)==2):=by
    by_cases h:n=2
    ·subst h;rfl
    ·rw[decide_eq_false h];exact(beq_eq_false_iff_ne.2 (by omega)).symm
   rw[e1,e2]
 ·intro c hc;rw[<-Z]at hc;have :=(List.mem_filter.1 hc).2;simpa using this
 ·simp only[enK];exact Cc _ _
 ·intro x hx;simp only[enK,G]at hx;obtain⟨n,l1,l2,l3⟩:=vP hx;have hl40:=FP hl hm;have hn:=(List.getElem?_eq_some_iff.1 l1).1;omega
 ·intro J;simp only[enK,G]at J⊢;rcases hhome with⟨e,h⟩|⟨e,h,_⟩
  ·rw[h];exact⟨rfl,rfl⟩
  ·exact absurd (yl.1 J)<|hq2 e
 ·intro J;simp only[enK,G]at J⊢;rcases hhome with⟨e,h⟩|⟨e,h,_⟩
  ·exact absurd (yl.2 (hq1 e)) J
  ·have :=h.2.1.1;omega
 ·simp only[enK,G];rw[hq1 e];rfl
 ·simp only[enK,G];exact λh=>hq2 e<|yl.1 h
 ·rcases hhome with⟨e',_⟩|⟨_,_,h⟩
  ·exact absurd e' e
  ·exact h
def enT(p:YT)(m:Nat)(t:Tree)(l:List<|YI×Tree):List En:=l.map λx=>enK p m t x.1
def enP(p:YT):Nat->YT->List En
 |_,[]=>[]
 |m,t::r=>enT p m t (nodK t [])++enP p (m+1) r
theorem Ih:∀(a b:List En) (i:Int),enL i (a++b)=enL i a++enL (i+(a.length:Int)) b
 |[],b,i=>by simp[enL]
 |e::a,b,i=>by simp only[aap,enL,Ih a b,aak,aad];rw[show i+1+(a.length:Int)=i+((a.length+1:Nat):Int) by omega]
section
variable{p:YT}(hN:nNs p<=1000000)(hp:ea p=true)(hF:Few p)(hv:∀t∈p,t.kind=1∧Vld t)(hb:kbulk p<=10000000)
include hN hp hF hv hb
theorem yS{q:YI}(ht:p[m]?=some t)(hq:atK t q=some u):nzF (rr 1048576 p m t q)=enC (idK 1048576 p m<|ay t q) (enK p m t q)∧GoodE (idK 1048576 p m<|ay t q) (enK p m t q)∧(q=[]->(enK p m t q).k=1)∧(q≠[]->(enK p m t q).k≠1∧∃g,g<nNs (p.take m)+ay t q∧(enK p m t q).h.Ref=1048577+(g:Int)):=
 good_en hN hp hF ht hq (hv t<|List.mem_of_getElem? ht).1 (hv t<|List.mem_of_getElem? ht).2 (by have :=cP ht;omega)
theorem QM(ht:p[m]?=some t):∀k n,k+n=nN t->nzF (xp 1048576 p m t<|(nodK t []).drop n)=enL (1048577+((nNs (p.take m)+n:Nat):Int)) (enT p m t<|(nodK t []).drop n):=λk=>by
 induction k with
 |zero=>intro n hn;rw[List.drop_of_length_le (by rw[nodK_nN];omega)];rfl
 |succ k ih=>
  intro n hn;obtain⟨x,hx⟩:∃x,(nodK t [])[n]?=some x:=⟨_,List.getElem?_eq_getElem (by rw[nodK_nN];omega)⟩;obtain⟨G,E⟩:=yP hx;have h2:=fy ht;have g:=(yS hN hp hF hv hb ht G).1;rw[E,Br (by omega)]at g;have J:enT p m t (x::(nodK t []).drop (n+1))=enK p m t x.1::enT p m t ((nodK t []).drop (n+1)):=rfl;rw[bV hx,xp,fL,g,ih (n+1) (by omega),J,enL];rw[show(1048577:Int)+((nNs (p.take m)+(n+1):Nat):Int)=1048577+((nNs (p.take m)+n:Nat):Int)+1 by omega]
theorem Ro:∀k i,k+i=p.length->nzF (gw 1048576 p i<|p.drop i)=enL (1048577+((nNs (p.take i):Nat):Int)) (enP p i<|p.drop i):=λk=>by
 induction k with
 |zero=>intro i hi;rw[List.drop_of_length_le<|by omega];rfl
 |succ k ih=>
  intro i hi;obtain⟨t,ht⟩:∃t,p[i]?=some t:=⟨_,List.getElem?_eq_getElem (by omega)⟩;have E:=QM hN hp hF hv hb ht (nN t) 0 (by omega);rw[List.drop_zero,Nat.add_zero]at E;rw[bV ht,gw,enP,fL,E,ih (i+1) (by omega),Ih,ol ht];have hl:(enT p i t (nodK t [])).length=nN t:=by rw[enT,aam,nodK_nN]
  rw[hl];rw[show(1048577:Int)+((nNs (p.take i)+nN t:Nat):Int)=1048577+((nNs (p.take i):Nat):Int)+((nN t:Nat):Int) by omega]
end
theorem Ql:∀k i g,k+i=p.length->(enP p i<|p.drop i)[g]?=some e->∃(m:Nat) (t u:Tree) (q:YI),p[m]?=some t∧atK t q=some u∧nNs (p.take m)+ay t q=nNs (p.take i)+g∧e=enK p m t q:=λk=>by
 induction k with
 |zero=>intro i g hi h;rw[List.drop_of_length_le<|by omega]at h;simp[enP]at h
 | succ k ih=>
  intro i g hi h;obtain⟨t,ht⟩:∃t,p[i]?=some t:=⟨_,List.getElem?_eq_getElem (by omega)⟩;rw[bV ht,enP]at h;have hl:(enT p i t (nodK t [])).length=nN t:=by rw[enT,aam,nodK_nN]
  by_cases hg:g<nN t
  ·rw[List.getElem?_append_left (by omega),enT,List.getElem?_map]at h;obtain⟨x,hx,rfl⟩:=Option.map_eq_some_iff.1 h;obtain⟨hat,hnum⟩:=yP hx;exact⟨i,t,x.2,x.1,ht,hat,by rw[hnum],I⟩
  ·rw[List.getElem?_append_right (by omega),hl]at h;obtain⟨m,t',u,q,h1,h2,h3,h4⟩:=ih (i+1) (g-nN t) (by omega) h;rw[ol ht]at h3;exact⟨m,t',u,q,h1,h2,by omega,h4⟩
theorem Hb:∀k i,k+i=p.length->(enP p i<|p.drop i).length+nNs (p.take i)=nNs p:=λk=>by
 induction k with
 |zero=>intro i hi;rw[List.drop_of_length_le (by omega),List.take_of_length_le<|by omega];simp[enP]
 |succ k ih=>
  intro i hi;obtain⟨t,ht⟩:∃t,p[i]?=some t:=⟨_,List.getElem?_eq_getElem (by omega)⟩;have :=ih (i+1) (by omega);rw[ol ht]at this;rw[bV ht,enP,aac,enT,aam,nodK_nN];omega
theorem Ht:∀{L:List En} {i:Int},(∀e∈L,e.k≠1)->mdE i L=[]
 |[],_,_=>rfl
 |e::r,i,h=>by rw[mdE,if_neg (h e<|by simp),Ht λx hx=>h x<|by simp[hx]];rfl
theorem EK{b:Int}{p:YT}{m:Nat}{t:Tree}:∀l:List<|YI×Tree,(∀x∈l,atK t x.1=some x.2)->(xp b p m t l).length=wL l
 |[],_=>rfl
 |x::l,h=>by
  rw[xp,aac,EF,fZ (h x<|by simp),EK l λy hy=>h y (by simp[hy]),wL]
theorem ES{b:Int}{p:YT}:∀(l:YT) (m:Nat),(gw b p m l).length<=3*kbulk l
 |[],m=>by simp[gw]
 |t::r,m=>by
  have h1:=ES (b:=b) (p:=p) r<|m+1;have h2:=wL_bulk t [];rw[gw,aac,EK _<|nodK_at t t [] rfl,kbulk];omega
section
variable{p:YT}(hN:nNs p<=1000000)(hp:ea p=true)(hF:Few p)(hv:∀t∈p,t.kind=1∧Vld t)(hb:kbulk p<=10000000)
include hN hp hF hv hb
theorem Fp:oZ 1048577 (enP p 0 p)∧Dx (enP p 0 p) 1048577:=by
 refine⟨λj e E=>?_,by omega,λj e E=>?_⟩
 all_goals
  obtain⟨m,t,u,q,h1,h2,G,rfl⟩:=Ql (p:=p) p.length 0 j (by omega) (by simpa using E);obtain⟨g1,g2,J,U⟩:=yS hN hp hF hv hb h1 h2;have k1:=oI q t u h2;have k2:=fy h1;have k3:=sV u;rw[Br<|by omega]at g2;simp only[List.take_zero,nNs,Nat.zero_add]at G
 ·rw[G]at g2;exact g2
 ·by_cases hq:q=[]
  ·left;exact(g2.h1<|J hq).2
  ·obtain⟨_,g,e1,Z⟩:=U hq;exact .inr ⟨g,by omega,Z⟩
theorem MO:∀k i (x:Int),k+i=p.length->(mdE x<|enP p i<|p.drop i).length=k:=λk=>by
 induction k with
 |zero=>intro i x hi;rw[List.drop_of_length_le<|by omega];rfl
 | succ k ih=>
  intro i x hi;obtain⟨t,ht⟩:∃t,p[i]?=some t:=⟨_,List.getElem?_eq_getElem (by omega)⟩;rw[bV ht,enP,GQ,aac,ih (i+1) _ (by omega)];obtain⟨hd,tl,e⟩:∃(x0:YI×Tree) (tl:List (YI×Tree)),nodK t []=x0::tl:=by
   have h1:=nodK_nN t [];have h2:=sV t;cases h:nodK t []with
   |nil=>rw[h]at h1;simp at h1;omega
   |cons a b=>exact⟨a,b,rfl⟩
  have hx0:=yP (t:=t) (n:=0) (x:=hd) (by rw[e];rfl);have hn0:hd.1=[]:=(EN hx0.1 (show atK t []=some t from rfl) (by rw[hx0.2];rfl)).1;have h1:(enK p i t hd.1).k=1:=(yS hN hp hF hv hb ht hx0.1).2.2.1 hn0;have h2:mdE (x+1) (enT p i t tl)=[]:=Ht λy hy=>by obtain⟨z,hz,rfl⟩:=List.mem_map.1 hy;obtain⟨n,hn⟩:=List.mem_iff_getElem?.1 hz;have hzn:=yP (t:=t) (n:=n+1) (x:=z) (by rw[e];simpa using hn);refine((yS hN hp hF hv hb ht hzn.1).2.2.2 λhq=>?_).1;have :=hzn.2;rw[hq]at this;simp[ay]at this
  rw[e];simp only[enT,aah,mdE]at h2⊢;rw[if_pos h1,h2];simp
  try omega
theorem JW{cs:List aj}(hcs:cs=enL 1048577 (enP p 0 p))(hl:cs.length<=100000000):∃M,cx M p ⟨cs⟩ (1048576+((nNs p:Nat):Int)) 0 (mdE 1048577<|enP p 0 p) 0 0 true:=by
 subst hcs;obtain⟨hG,hT⟩:=Fp hN hp hF hv hb;have hlen:(enP p 0 p).length=nNs p:=by have :=Hb (p:=p) p.length 0 (by omega);simpa[nNs]using this
 have hml:(mdE 1048577<|enP p 0 p).length=p.length:=by have :=MO hN hp hF hv hb p.length 0 1048577 (by omega);simpa using this
 have hnd:=EB<|Hm (L:=enP p 0 p) (i:=1048577);have loop:∀(rest:YI) (D:List<|Int×YI),mdE 1048577 (enP p 0 p)=D.map (·.1)++rest->(∀x∈D,kg (enP p 0 p) 1048577 x.1∧BelE (enP p 0 p) 1048577 x.1 x.2)->(D.map λx=>1+x.2.length).sum<=2000000->
   ∃M,cx M p ⟨enL 1048577<|enP p 0 p⟩ (1048576+((nNs p:Nat):Int)) 0 (mdE 1048577<|enP p 0 p) (D.map λx=>1+x.2.length).sum D.length true:=λrest=>by
  induction rest with
  |nil=>
   intro D hD hx hs;rw[aaz]at hD;have hsum:=KF hT (R:=D) (by rw[<-hD];exact hnd) hx (λr hr=>by rw[<-hD];exact(BW hG).1 hr);have hDl:D.length=(mdE 1048577<|enP p 0 p).length:=by rw[hD,aam]
   refine⟨1,jN 0 _ _ _ _ _ _ _ _<|⟨λh=>by omega,λ_=>⟨_,Rc,λ_=>⟨λ_=>⟨_,wX hG (by omega) (by omega) hl,λ_=>⟨λ_=>⟨by constructor<;>omega,λ_=>⟨_,Nv hG hT (by omega) (by omega) hl,rfl⟩,λh=>absurd (by rw[hsum,hlen];omega) h⟩,λh=>absurd hml h⟩,λh=>by cases h⟩,λh=>absurd rfl h⟩,λh=>by cases h⟩⟩⟩
  | cons r rest ih=>
   intro D hD hx hs;have hr:r∈mdE 1048577 (enP p 0 p):=by rw[hD];simp
   obtain⟨s,l',b1,b2,b3⟩:=Mm hG hT (by omega) (by omega) hl hr;have hll:l'.length<=(enP p 0 p).length:=by
    have :=lB (b:=nT 1048577 (enP p 0 p).length) b2.nd λy hy=>qn.2 (yh ((BW hG).2 hr)<|(b2.iff y).1 (.inr hy));simpa[nT]using this
   have hx':∀x∈D++[(r,l')],kg (enP p 0 p) 1048577 x.1∧BelE (enP p 0 p) 1048577 x.1 x.2:=λx hx2=>by
    rcases List.mem_append.1 hx2 with h|h
    ·exact hx x h
    ·simp only[List.mem_singleton]at h;rw[h];exact⟨(BW hG).2 hr,b2⟩
   have hnd':((D++[(r,l')]).map (·.1)).Nodup:=by
    have :(D.map (·.1)++r::rest).Nodup:=by rw[<-hD];exact hnd
    have h2:=this.sublist<|List.Sublist.append (List.Sublist.refl _)<|(List.nil_sublist rest).cons_cons r;simpa using h2
   have hsum':((D++[(r,l')]).map λx=>1+x.2.length).sum=(D.map λx=>1+x.2.length).sum+1+l'.length:=by simp;omega
   have hle:((D++[(r,l')]).map λx=>1+x.2.length).sum<=(enP p 0 p).length:=by
    obtain⟨T,t1,t2,t3⟩:=yE (D++[(r,l')]) hnd' hx';rw[<-t3];have :=lB (b:=nT 1048577 (enP p 0 p).length) t1 λy hy=>by obtain⟨x,hx3,hu⟩:=(t2 y).1 hy;exact qn.2 (yh (hx' x hx3).1 hu)
    simpa[nT]using this
   obtain⟨M,hM⟩:=ih (D++[(r,l')]) (by rw[hD];simp) hx' (by omega);rw[hsum',<-b3,aac,List.length_singleton]at hM;have hDl:D.length<(mdE 1048577<|enP p 0 p).length:=by rw[hD];simp
   have hget:(mdE 1048577<|enP p 0 p)[D.length]?=some r:=by rw[hD];simp
   exact⟨M+1,jN M _ _ _ _ _ _ _ _<|⟨λ_=>⟨by omega,r,hget,s,b1,by omega,hM⟩,λh=>absurd hDl h⟩⟩
 obtain⟨M,hM⟩:=loop (mdE 1048577<|enP p 0 p) [] (by simp) (by simp) (by simp);exact⟨M,by simpa using hM⟩
end
theorem Pn(l:YI):kA l true:=by
 by_cases hl:((l.length:Nat):Int)<=120
 rotate_left
 ·exact jU 0 _ _<|⟨_,CL l,λ_=>⟨_,Rc,I⟩,λh=>absurd (of_decide_eq_true h) hl⟩
 obtain⟨p,hp,hb,J,U⟩:=JG l (by omega);have E:okP ov p=true:=by simp only[okP,aab,aas,List.all_eq_true,aar];exact⟨by omega,λt ht=>⟨(J t ht).1,(qo t).2 (J t ht).2⟩⟩
 have hprog:ea p=true:=by
  clear E hp hb U
  induction p with
  |nil=>rfl
  |cons t r ih=>
   obtain⟨a1,a2⟩:=J t (by simp);simp only[ea,a1,a2.shape,ih λx hx=>J x<|by simp[hx]];rfl
 have hnb:=nNs_bulk p;have hF:=GX E;have k1:=Hn (p:=p) 1048576 (by omega) GX;have G:=Ro (by omega) hprog hF J (by omega) p.length 0 (by omega);simp only[List.drop_zero,List.take_zero,nNs,Int.natCast_zero,Int.add_zero]at G;have eB:cq ov 1048576 p=(⟨nzF<|gw 1048576 p 0 p⟩,1048576+((nNs p:Nat):Int),0):=by
  by_cases h0:nNs p=0
  ·have Z:p=[]:=by
    have :=wc p;exact List.length_eq_zero_iff.1 (by omega)
   rw[cq,if_pos ⟨E,by decide⟩,if_pos h0];subst Z;rfl
  ·have n1:eE 1048576 (nNs p:Nat)=(1048576+((nNs p:Nat):Int),0):=by
    rw[eE,if_pos ⟨by decide,by omega⟩,if_neg (by omega),if_neg<|by omega]
   rw[cq,if_pos ⟨E,by decide⟩,if_neg h0,n1,if_neg<|by simp]
 rw[eB]at k1;have hlen:=ES (b:=1048576) (p:=p) p 0;have hnz:=BG<|gw 1048576 p 0 p;obtain⟨M,hM⟩:=JW (by omega) hprog hF J (by omega) G (by omega);obtain⟨hG,hT⟩:=Fp (by omega) hprog hF J (by omega);have hLn:(enP p 0 p).length=nNs p:=by have :=Hb (p:=p) p.length 0 (by omega);simpa[nNs]using this
 have hmods:=Pr hG (by omega) (by omega) (by rw[<-G];omega);rw[<-G]at hmods;exact jU M _ _<|⟨_,CL l,λh=>absurd hl<|of_decide_eq_false h,λ_=>⟨p,hp,_,_,_,k1,_,hmods,hM⟩⟩
open Go.RowKit Go.ChangeShapes Go.WideShapes Go.Deep
theorem LA:prog.cellsOf 3=1:=by kernel_rfl
variable{W:World}
theorem Sc{H:Type}{enc:TypeId×Value->H}{a0:Option Addr}{len cap:Nat}{d:DataW H}{p:List MemPlace}(h:DataW.Trod enc prog W 0 (λ_=>true) true 36 (.slice a0 len cap) d p):
  ∃zs:YI,len=zs.length∧len<=cap∧cap<=maxLen∧RowIn Any W 1 a0 zs.length (zs.map λz=>.int .i64 z):=by
 obtain⟨fuel,hf⟩:=h;rcases open_ints underlying36 underlying3 LA hf with⟨E,hx⟩|⟨a,len',cap',zs,E,hb,hl,hm,G,hx,hcell,hwf⟩
 ·simp[Value.cells]at E;obtain⟨rfl,rfl,rfl⟩:=E;exact⟨[],I,aag _,aat _,RowIn.none_⟩
 ·simp[Value.cells]at E;obtain⟨rfl,rfl,rfl⟩:=E;simp only[if_true]at G;have J:(zs.take len).length=len:=by simp;omega
  refine⟨zs.take len,J.symm,hl,hm,by simp,λh0=>?_⟩;rw[J]at h0⊢;have hs:a.spot=none:=World.cell?_spot (a:=a) (by have :=hcell 0 (by omega);simpa[Addr.add]using this);obtain⟨b,off,spot⟩:=a;simp only at hs;subst hs;have U:∀k,(⟨b,off,none⟩:Addr).add k=⟨b,off+k,none⟩:=λk=>by unfold Addr.add;split<;>simp_all
  refine⟨b,off,I,trivial,?_,λj hj=>?_⟩
  ·have :=hcell 0 (by omega);exact World.block_lt_of_cell? W ⟨b,off,none⟩ (by simpa[Addr.add]using this)
  ·have Z:j<len:=by omega
   have :=hcell j (by omega);rw[U]at this;rw[this];simp[Z,List.getD_eq_getElem?_getD,show j<zs.length from by omega]
abbrev yU(W:World):Nat->Prop:=λb=>b<W.heap.size
theorem RowIn.live{sz:Nat}{A:Option Addr}{xs:List Value}(h:RowIn Any W sz A n xs):RowIn (yU W) W sz A n xs:=⟨h.1,λhp=>by obtain⟨b,off,h1,_,E,G⟩:=h.2 hp;exact⟨b,off,h1,E,E,G⟩⟩
abbrev JC(W:World)(v:V)(x:Value):Prop:=VRel (yU W) W (λ_=>none) v x
theorem TI{A:Option Addr}{cap:Nat}(E:l.length<=cap)(G:cap<=maxLen)(hr:RowIn Any W 1 A l.length<|l.map λz=>.int .i64 z):JC W (.row 1<|l.map<|V.int .i64) (.slice A l.length cap):=by simp only[JC,VRel];exact⟨A,cap,_,by simp,by simpa using E,G,FW l,by simpa using hr.live⟩
theorem TJ{fid:FuncId}{us:List V}{b:Bool}(h:si prog fid us<|.bool b)(E:∀p∈Dw,VRel (yU W) W ρ0 (.box p.2 0) (.pointer<|some ⟨p.1,0,none⟩):=by exact λp hp=>nomatch hp){xs:List Value}(hx:LRel (yU W) W (λ_=>none) us xs):Calls prog fid xs.toArray W λe W'=>e=.returned (.bool b)∧Ext W W':=by
 have G:HRel (yU W) W (λ_=>none) (⟨0,[]⟩:Hp).get:=OL ⟨λ_ h=>h,E⟩;refine(h.2.2 _ W _ xs G hx).mono ?_;rintro e W' ⟨x,S',ρ',v,H',rfl,rfl,h1,h2,U⟩;simp only[VRel]at U;subst U;have J:∀b,¬∃id,own (λ_=>none) id ((⟨0,[]⟩:Hp).get id) b:=λb ⟨id,hb⟩=>by rw[yx]at hb;exact hb
 exact⟨I,Chg.ext ⟨h2.chg.os,h2.chg.tape,h2.chg.output,h2.chg.size,λb hb _=>h2.chg.block b hb<|J b⟩⟩
theorem lr1{u:V}{x:Value}(h:JC W u x):LRel (yU W) W (λ_=>none) [u] [x]:=⟨x,[],rfl,h,rfl⟩
end Go.Proofs.YtehhanlhfdoiaaaGreat
