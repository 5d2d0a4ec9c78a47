/- Contracts of the functions that the law reaches, part 8. -/
import Derived.Test.YtomplbgchbfjpaaGreatDoorOf7
set_option linter.unusedVariables false
set_option linter.unusedSimpArgs false
namespace Go.Proofs.YtomplbgchbfjpaaGreatDoor
open _root_.Go.Proofs.Tryz
open Go.RowKit Lx Sx
set_option maxRecDepth 100000
set_option maxHeartbeats 4000000
abbrev TT:TypeId:=29
mutual
def NestC(w:World):Nat->Nat->Tree->List Value->Prop
 |lo,hi,.node k s _ ks,c=>∃B n g cs,c=[.int .i64 k,gr s,.slice none 0 0,.slice B ks.length n]∧ks.length<=n∧n<=maxLen∧lo<=hi∧(ks≠[]->B=some ⟨g,0,none⟩∧lo<=g∧g<hi∧Blk w g TT cs)∧NestK w (g+1) hi ks cs
def NestK(w:World):Nat->Nat->YT->List Value->Prop
 |lo,hi,[],cs=>cs=[]
 |lo,hi,t::r,cs=>∃c d mid,cs=c++d∧lo<=mid∧mid<=hi∧NestC w lo mid t c∧NestK w mid hi r d
end
variable{t:Tree}
section
variable{w w':World}
theorem vX{b:Nat}{t:TypeId}{cs:List Value}(h:w'.heap[b]?=w.heap[b]?)(k:Blk w b t cs):Blk w' b t cs:=h.trans k
mutual
theorem NestC.keep:∀{lo hi:Nat} {t:Tree} {c:List Value},(∀x,lo<=x->x<hi->w'.heap[x]?=w.heap[x]?)->NestC w lo hi t c->NestC w' lo hi t c
 | lo,hi,.node k s ls ks,c,hk,h=>by
  simp only[NestC]at h⊢;obtain⟨B,n,g,cs,e,h1,h2,h3,h4,h5⟩:=h;by_cases hn:ks=[]
  ·subst hn;exact⟨B,n,g,cs,e,h1,h2,h3,λh=>absurd rfl h,by simpa only[NestK]using h5⟩
  ·obtain⟨e1,e2,e3,e4⟩:=h4 hn;exact⟨B,n,g,cs,e,h1,h2,h3,λ_=>⟨e1,e2,e3,vX (hk g e2 e3) e4⟩,NestK.keep (λx h1 h2=>hk x (by omega) h2) h5⟩
theorem NestK.keep:∀{lo hi:Nat} {ts:YT} {cs:List Value},(∀x,lo<=x->x<hi->w'.heap[x]?=w.heap[x]?)->NestK w lo hi ts cs->NestK w' lo hi ts cs
 |lo,hi,[],cs,hk,h=>by simpa only[NestK]using h
 |lo,hi,t::r,cs,hk,h=>by
  simp only[NestK]at h⊢;obtain⟨c,d,mid,e,h1,h2,h3,h4⟩:=h;exact⟨c,d,mid,e,h1,h2,NestC.keep (λx g1 g2=>hk x g1<|by omega) h3,NestK.keep (λx g1 g2=>hk x (by omega) g2) h4⟩
end
theorem NestC.lo_{lo lo' hi:Nat}{c:List Value}(h:NestC w lo hi t c)(hl:lo'<=lo):NestC w lo' hi t c:=by obtain⟨k,s,ls,ks⟩:=t;simp only[NestC]at h⊢;obtain⟨B,n,g,cs,e,h1,h2,h3,G,J⟩:=h;exact⟨B,n,g,cs,e,h1,h2,by omega,λO=>by obtain⟨U,e2,Z,e4⟩:=G O;exact⟨U,by omega,Z,e4⟩,J⟩
theorem NestC.four{lo hi:Nat}{c:List Value}(h:NestC w lo hi t c):c.length=4:=by obtain⟨k,s,ls,ks⟩:=t;simp only[NestC]at h;obtain⟨B,n,g,cs,e,_⟩:=h;rw[e];rfl
theorem NestC.one{lo hi:Nat}{c:List Value}(h:NestC w lo hi t c):c.all (·.oneCell')=true:=by obtain⟨k,s,ls,ks⟩:=t;simp only[NestC]at h;obtain⟨B,n,g,cs,e,_⟩:=h;rw[e];rfl
theorem NestK.hi_:∀{ts:YT} {lo hi G:Nat} {cs:List Value},NestK w lo hi ts cs->hi<=G->NestK w lo G ts cs
 |[],lo,hi,G,cs,h,J=>by simpa only[NestK]using h
 |t::r,lo,hi,G,cs,h,J=>by simp only[NestK]at h⊢;obtain⟨c,d,mid,e,h1,h2,O,U⟩:=h;exact⟨c,d,mid,e,h1,by omega,O,NestK.hi_ U J⟩
theorem NestK.snoc:∀{ts:YT} {lo mid hi:Nat} {cs c:List Value} {t:Tree},NestK w lo mid ts cs->NestC w mid hi t c->lo<=mid->mid<=hi->NestK w lo hi (ts++[t]) (cs++c)
 |[],lo,mid,hi,cs,c,t,h,G,h1,h2=>by simp only[NestK]at h;subst h;simp only[aam,NestK];exact⟨c,[],hi,by simp,by omega,aaf _,G.lo_ h1,rfl⟩
 |u::r,lo,mid,hi,cs,c,t,h,G,h1,h2=>by simp only[NestK]at h;obtain⟨c',d,m,e,J,O,U,Z⟩:=h;simp only[aav,NestK];exact⟨c',d++c,m,by rw[e];simp,J,by omega,U,NestK.snoc Z G O h2⟩
end
variable{m:Nat}
section
variable{P:Program}{a:Act}{w:World}{n:Nat}{f:Nat->Option Value}{S:Nat->Prop}
theorem Qa{x y:Operand}{A:Option Addr}{ls:List YB}{t e:TypeId}{by_:Nat}{z:Value}(h:Fr a n f)(hx:aG f x=some (.slice none 0 0))(hy:aG f y=some (.slice A ls.length m))(J:RowIn S w 1 A ls.length<|ls.map gr)(hl:ls.length<=1000000000)
  (ht:P.underlying t=some (.slice e)) (hi:(P.info? e).map (λi=>(i.zero,i.size,i.bytes))=some (some z,1,by_)) (hzs:z.cells.size=1) (hb:Nat.ble by_ 64=true) (ty:TypeId):
  ∃A' O w',Runs P a ty (.call {callee:=.builtin .append,args:=#[x,y],argTypes:=#[t,t]}) w (.value<|.slice A' ls.length O) w'∧ls.length<=O∧O<=maxLen∧RowIn (λb=>w.heap.size<=b) w' 1 A' ls.length (ls.map gr)∧Chg [] w w':=by
 have hb':by_<=64:=Nat.le_of_ble_eq_true hb;obtain⟨i0,hi0,U⟩:=Option.map_eq_some_iff.1 hi;simp only[Prod.mk.injEq]at U;obtain⟨hz,hs,hbb⟩:=U;have hsize:dO P e=some 1:=by simp[dO,hi0,hs]
 by_cases hn:ls=[]
 ·subst hn;refine⟨none,0,w,λ_ _ _ _=>?_,aaf _,aao _,RowIn.none_,Chg.refl _ _⟩;simp only[execOp,resolve,invoke,builtin,List.map_toArray,aal,aaA,h.eval hx,h.eval hy];have :=wX (P:=P) (w:=w) (ty:=ty) (A:=none) (B:=A) (k:=0) (c:=0) (d:=m) ht hsize<|aaf _;simp only[aae];simp[this]
 ·have Z:0<ls.length:=List.length_pos_iff.2 hn;obtain⟨b,off,rfl,_,_,hc⟩:=J.2 Z;have G:(ls.map gr).length=ls.length*1:=by simp
  have h63:0+ls.length<=maxLen:=by simp only[maxLen];omega
  have hby:(0+ls.length)*by_<=140737488355328:=by have :=Nat.mul_le_mul hl hb';rw[Nat.zero_add];omega
  obtain⟨v',w',hrun,h2,h3,_,h5⟩:=run_append_own_at (P:=P) w w.heap.size t ty e i0 z 1 by_ ht hi0 hz hs hbb hzs (by omega) (.slice none 0 0) 0 [] (World.ownsRow_nil w _ e 1) ⟨b,off,none⟩ ls.length m (ls.map gr) G
   (λj q hq=>by have hj:j<(ls.map gr).length:=(List.getElem?_eq_some_iff.1 hq).1;rw[oF,hc j (by rw[<-G];exact hj)];exact hq) (λu hu=>by simp only[List.mem_map]at hu;obtain⟨_,_,rfl⟩:=hu;rfl) h63 hby (aaf _)
  rw[Nat.zero_add]at h2;rw[aam]at h2;obtain⟨A',O,rfl,hm1,hm2⟩:=DW h2;refine⟨A',O,w',λ_ _ _ _=>?_,hm1,hm2,RowIn.of_own h2,Chg.grown h3⟩;simp only[execOp,resolve,invoke,builtin,List.map_toArray,aal,aaA,h.eval hx,h.eval hy];simp[hrun]
end
theorem OJ{pre post:List Value}{G J U O u:Value}:(pre++[G,J,U,O]++post).set (pre.length+2) u=pre++[G,J,u,O]++post:=by
 rw[aaj,List.set_append_right _ _<|by omega];simp
theorem Ho(pre post:List Value)(J O U G:Value):(pre++[J,O,U,G]++post)[pre.length+3]?=some G:=by
 rw[aaj,List.getElem?_append_right<|by omega];simp
section
variable{P:Program}
theorem LI{a:Act}{w:World}{n:Nat}{f:Nat->Option Value}{t tb:TypeId}{x y:Operand}{b o:Nat}{vs pre old post:List Value}(h:Fr a n f)(hx:aG f x=some (.pointer<|some ⟨b,o,none⟩))(hy:aG f y=some (.agg vs.toArray))(hz:dO P t=some m)(hv:vs.length=m)(hone:vs.all (·.oneCell')=true)(hb:Blk w b tb<|pre++old++post)(hp:pre.length=o)(hm:old.length=m)(ty:TypeId):
  ∃w',Runs P a ty (.store t x y) w .skip w'∧Blk w' b tb (pre++vs++post)∧Chg [b] w w':=by
 obtain⟨i,hi,hs⟩:=Option.map_eq_some_iff.1 (show(P.info? t).map (·.size)=some m from hz);subst hp;have key:∀(l:List Value) (j:Nat) (w:World) (cs:List Value),Blk w b tb cs->pre.length+j+l.length<=cs.length->l.all (·.oneCell')=true->∃w',(storeCells ⟨b,pre.length,none⟩ l j).run P w=.ok () w'∧Blk w' b tb (cs.take (pre.length+j)++l++cs.drop (pre.length+j+l.length))∧Chg [b] w w':=by
  intro l
  induction l with
  |nil=>intro j w cs hb hj _;exact⟨w,by simp[storeCells],by simpa using hb,Chg.refl _ _⟩
  | cons c r ih=>
   intro j w cs hb hj hone;simp only[List.all_cons,aaa]at hone;simp only[aac]at hj;have ho:pre.length+j<cs.length:=by omega
   have hc:w.cell? ⟨b,pre.length+j,none⟩=some cs[pre.length+j]:=by rw[hb.cell];simp[ho]
   have hfz:=hb.frozen<|pre.length+j;have ha:(⟨b,pre.length,none⟩:Addr).add j=⟨b,pre.length+j,none⟩:=oF _ _ _;obtain⟨w2,h1,h2,h3⟩:=ih (j+1) (w.setCell ⟨b,pre.length+j,none⟩ c) (cs.set (pre.length+j) c) (hb.set _ c) (by simp;omega) hone.2;refine⟨w2,?_,?_,(Chg.set w b _ c).trans h3 λx hx=>.inl hx⟩
   ·simp only[storeCells,ha];have hst:=run_store P w ⟨b,pre.length+j,none⟩ c .plain hone.1;simp[hst,stored,hc,hfz];exact h1
   ·have e1:(cs.set (pre.length+j) c).take (pre.length+(j+1))=cs.take (pre.length+j)++[c]:=by
     rw[<-aat,List.take_succ_eq_append_getElem (by simpa using ho),List.take_set_of_le<|aaf _];simp
    have e2:(cs.set (pre.length+j) c).drop (pre.length+(j+1)+r.length)=cs.drop (pre.length+j+(r.length+1)):=by
     rw[List.drop_set_of_lt<|by omega];congr 1;omega
    rw[e1,e2]at h2;simpa using h2
 obtain⟨w1,h1,h2,h3⟩:=key vs 0 w _ hb (by simp;omega) hone;have e1:(pre++old++post).take (pre.length+0)=pre:=by simp
 have e2:(pre++old++post).drop (pre.length+0+vs.length)=post:=by
  have :pre.length+0+vs.length=(pre++old).length:=by simp;omega
  rw[this];simp
 rw[e1,e2]at h2;refine⟨w1,λ_ _ _ _=>?_,h2,h3⟩;simp only[execOp,h.eval hx,h.eval hy];simp[Instr.storeAt,Instr.sureAddr,storeVar,sizeOf,typeInfo,hi,hs,hv,Value.cells,h1]
end
def HH(ft:Nat->Nat->Option Nat)(n:Nat):Nat->Pt->List It->(Nat->Option Value)->Pt×List It×(Nat->Option Value)
 |0,p,s,f=>(p,s,f)
 |k+1,p,s,f=>match jN ft n 1 p s f with
  |some (p',s',f')=>HH ft n k p' s' f'
  |none=>(p,s,f)
def ftR:Nat->Nat->Option Nat:=ftG [(TT,3,3),(TT,2,2),(TT,1,1),(TT,0,0)]
theorem LM:∀t i k,ftR t i=some k->jc prog t i=some k:=HJ _ (by kernel_rfl)
section
variable{Q:Exit->Act->World->Prop}{a:Act}{w:World}{n:Nat}{f f':Nat->Option Value}{p p':Pt}{s s':List It}
theorem Jb:∀(k:Nat) (p:Pt) (s:List It) (f:Nat->Option Value) (a:Act),Fr a n f->HH ftR n k p s f=(p',s',f')->(∀a',Fr a' n f'->Pt.wp prog Q p' s' a' w)->Pt.wp prog Q p s a w
 |0,p,s,f,a,h,hr,kk=>by simp only[HH,Prod.mk.injEq]at hr;obtain⟨rfl,rfl,rfl⟩:=hr;exact kk a h
 | k+1,p,s,f,a,h,hr,kk=>by
  simp only[HH]at hr;split at hr
  ·rename_i p1 s1 f1 he;exact fk LM 1 p s f a h he λa' h'=>Jb k p1 s1 f1 a' h' hr kk
  ·simp only[Prod.mk.injEq]at hr;obtain⟨rfl,rfl,rfl⟩:=hr;exact kk a h
theorem rG(k:Nat)(h:Fr a n f)(hr:HH ftR n k p s f=(p',s',f'))(kk:∀a',Fr a' n f'->Pt.wp prog Q p' s' a' w):Pt.wp prog Q p s a w:=Jb k p s f a h hr kk
theorem dG{fuel c:Nat}{ops:Array Oper}{S:World->Prop}{listed:Array Bool}(is:YN)(hs:Region.noSelect ops=true)(G:JF ops m is listed=true)(h:Fr a n f)(J:is.length=c)(hr:HB ftR n ops is f=some f')(O:S w∨listed.getD m false=true)(k:∀a',Fr a' n f'->wpAnyL prog .any ops (NoPanic Q) S m fuel (Oe is listed) a' w):wpAnyL prog .any ops (NoPanic Q) S m (fuel+c) listed a w:=by subst J;exact Pb LM hs is fuel listed f a G h hr O k
end
theorem Ms{S:Nat->Prop}{w:World}{ks:YT}{cs:List Value}{i:Nat}(Z:KidsAre S w ks cs)(hi:i<ks.length):∃G J O U,TreeIs S w ks[i] [G,J,O,U]∧∀j,j<4->cs[i*4+j]?=([G,J,O,U]:List Value)[j]?:=by
 obtain⟨c0,c1,c2,c3,hT,h0,h1,h2,h3⟩:=Z.at_ hi;refine⟨c0,c1,c2,c3,hT,λj hj=>?_⟩;rcases(by omega:j=0∨j=1∨j=2∨j=3)with rfl|rfl|rfl|rfl
 ·exact h0
 ·exact h1
 ·exact h2
 ·exact h3
theorem Hb{ks:YT}{i:Nat}(hi:i<ks.length):tbulk ks[i]<=kbulk ks:=bn<|List.getElem?_eq_getElem hi
def Gj(t:Tree):Prop:=∀(w:World) (b:Nat) (pre c post ct:List Value) (lo hi:Nat) (Sf:Nat->Prop),tbulk t<=1000000000->
 Blk w b TT (pre++c++post)->NestC w lo hi t c->¬(lo<=b∧b<hi)->hi<=w.heap.size->TreeIs Sf w t ct->(∀x,Sf x->x≠b∧¬(lo<=x∧x<hi))->
 Calls prog 90 #[.pointer<|some ⟨b,pre.length,none⟩,.agg ct.toArray] w λe w'=>e=.returned (.tuple #[])∧∃c',Blk w' b TT (pre++c'++post)∧ChgP (λx=>x=b∨(lo<=x∧x<hi)) w w'∧TreeIs (λx=>(lo<=x∧x<hi)∨w.heap.size<=x) w' t c'
def Fg(t:Tree):Prop:=∀(w:World) (S:Nat->Prop) (ct:List Value),tbulk t<=1000000000->TreeIs S w t ct->
 Calls prog 89 #[.agg ct.toArray] w λe w'=>∃c,e=.returned (.agg c.toArray)∧Chg [] w w'∧NestC w' w.heap.size w'.heap.size t c
theorem Nh(t:Tree)(ih:∀(i:Nat) (u:Tree),t.kids[i]?=some u->Fg u):Fg t:=by
  obtain⟨k,s,ls,ks⟩:=t;intro w S ct hbk hT;simp only[TreeIs]at hT;obtain⟨A,m,B',n',rfl,hm1,hm2,hm3,hm4,hA,kcs,hKT,hKR⟩:=hT;simp only[Tree.kids]at ih;simp only[tbulk]at hbk;have hkl:=fe ks;refine rE 36 func89 I I I ?_;intro a hf;refine rG 60 hf I ?_;clear hf a;intro a hf;obtain⟨w1,b1,he,hB1,hx1,e1,l1⟩:=Dn (P:=prog) (t:=TT) (x:=(.tmp 0)) hf rfl rfl w 0;refine rV hf I he ?_;clear he hf a;intro a hf;obtain⟨w2,b2,he,hB2,hx2,e2,l2⟩:=eT a w1 0;refine rV hf I he ?_;clear he hf a;intro a hf;replace hB1:=hB1.c0 hx2;refine rG 60 hf I ?_;clear hf a;intro a hf;refine rV hf I (jJ hf I (by kernel_rfl) hB1 I) ?_;clear hf a;intro a hf;refine rG 60 hf I ?_;clear hf a;intro a hf;refine rV hf I (jJ hf I (by kernel_rfl) hB1 I) ?_;clear hf a;intro a hf;refine rV hf I (TU (z:=zT) (os:=[0,1]) (cs:=[.int .i64 k,gr s,.slice none 0 0,.slice none 0 0]) hf I (by kernel_rfl) (by kernel_rfl) (by kernel_rfl) I I) ?_;clear hf a;intro a hf;obtain⟨w3,b3,he,hB3,hx3,e3,l3⟩:=eT a w2 0;refine rV hf I he ?_;clear he hf a;intro a hf;replace hB1:=hB1.c0 hx3;replace hB2:=hB2.c0 hx3;obtain⟨w4,he,hB3',hx4⟩:=eN (.tmp 3) (.tmp 10) hf rfl rfl rfl rfl hB3 rfl 0;refine rS hf I he ?_;clear he hf a;intro a hf;clear hB3;have hB3:=hB3';clear hB3';have s1:=hx1.size;have s2:=hx2.size;have s3:=hx3.size;have s4:=hx4.size;replace hB1:=hB1.chg hx4 (by simp;omega);replace hB2:=hB2.chg hx4 (by simp;omega);have hC:Chg [] w w4:=((hx1.t0 hx2).t0 hx3).n1 hx4 (by omega);clear hx1 hx2 hx3 hx4;refine rG 60 hf I ?_;clear hf a;intro a hf;refine rV hf I (jJ hf I (by kernel_rfl) hB1 I) ?_;clear hf a;intro a hf;refine rV hf I (uc hf underlying22 I) ?_;clear hf a;intro a hf;have hfin:∀(B:Option Addr) (nn g:Nat) (cs:List Value) (w':World),Chg [] w w'->ks.length<=nn->nn<=maxLen->(ks≠[]->B=some ⟨g,0,none⟩∧w.heap.size<=g∧g<w'.heap.size∧Blk w' g TT cs)->NestK w' (g+1) w'.heap.size ks cs->NestC w' w.heap.size w'.heap.size (.node k s ls ks) [.int .i64 k,gr s,.slice none 0 0,.slice B ks.length nn]:=λB nn g cs w' h1 h2 h3 h4 h5=>by simp only[NestC];exact⟨B,nn,g,cs,I,h2,h3,h1.size,h4,h5⟩
  by_cases hk0:ks=[]
  · skip
    subst hk0;refine rV hf rfl (FU (c:=false) hf rfl rfl<|by simp) ?_;clear hf a;intro a hf;refine rG 60 hf I ?_;clear hf a;intro a hf;refine rV hf I (jJ hf I (by kernel_rfl) hB1 I) ?_;clear hf a;intro a hf;refine rV hf I (uc hf underlying22 I) ?_;clear hf a;intro a hf;refine rG 60 hf I ?_;clear hf a;intro a hf;refine rL (λm a w'=>m=0∧w'=w4∧Fr a 36 (fm [(2,.pointer<|some ⟨b2,0,none⟩),(3,.pointer<|some ⟨b3,0,none⟩),(22,.int .i64 ((0:Nat):Int)),(23,.int .i64 0)])) 0 ⟨I,I,hf.pick ⟨I,I,I,I,trivial⟩⟩ ?_;clear hf a;rintro _ a _ ⟨rfl,rfl,hf⟩;refine rG 60 hf I ?_;clear hf a;intro a hf;refine rV hf rfl (yi (c:=false) hf rfl rfl<|by simp) ?_;clear hf a;intro a hf;refine rG 60 hf I ?_;clear hf a;intro a hf;refine rO ?_;refine rG 60 hf I ?_;clear hf a;intro a hf;refine rV hf I (rg (m:=4) hf I (by kernel_rfl) hB3 I) ?_;clear hf a;intro a hf;obtain⟨w9,he,hB2',hx9⟩:=eN (.tmp 2) (.tmp 35) hf rfl rfl rfl rfl hB2 rfl 0;refine rS hf I he ?_;clear he hf a;intro a hf;refine rG 60 hf I ?_;clear hf a;intro a hf;exact rT (rs:=[.cell 2 TT]) hf rfl ⟨_,_,_,_,_,rfl,rfl,by kernel_rfl,hB2',rfl,rfl⟩ ⟨_,rfl,hC.n1 hx9 (by omega),hfin none 0 0 [] w9 (hC.n1 hx9<|by omega) (aaf _) (aao _) (λh=>absurd rfl h)<|by simp only[NestK]⟩
  have hpos:0<ks.length:=List.length_pos_iff.2 hk0;obtain⟨kb,ko,rfl,hkS,hkb,hcell⟩:=hKR.2 hpos;refine rV hf rfl (FU (c:=true) hf rfl rfl (by simp;omega)) ?_;clear hf a;intro a hf;refine rG 60 hf I ?_;clear hf a;intro a hf;refine rV hf I (jJ hf I (by kernel_rfl) hB1 I) ?_;clear hf a;intro a hf;refine rV hf I (uc hf underlying22 I) ?_;clear hf a;intro a hf;obtain⟨C,hCd⟩:∃C,C=(madeCells (Value.agg zT.toArray).cells<|ks.length*4).toList:=⟨_,rfl⟩;have hCl:C.length=ks.length*4:=by rw[hCd,Array.length_toList,size_madeCells]
  obtain⟨w5,g,he,hG,hx5,eg,lg⟩:=IX (P:=prog) (x:=.tmp 17) (y:=.tmp 17) (t:=22) (e:=TT) (m:=ks.length) (z:=.agg zT.toArray) (sz:=4) (by_:=72) (cs:=C) hf rfl rfl underlying22 (by kernel_rfl) (Nat.ble_eq_true_of_le<|by omega) (Nat.ble_eq_true_of_le<|by omega) (by rw[hCd]) w4 0;refine rV hf I he ?_;clear he hf a;intro a hf;replace hB1:=hB1.c0 hx5;replace hB2:=hB2.c0 hx5;replace hB3:=hB3.c0 hx5;refine rG 60 hf I ?_;clear hf a;intro a hf;obtain⟨w6,he,hB3',hx6⟩:=eS 22 (.tmp 19) (.tmp 18) hf rfl rfl (by kernel_rfl) rfl hB3 rfl 0;refine rS hf I he ?_;clear he hf a;intro a hf;clear hB3;have hB3:=hB3';clear hB3';have s5:=hx5.size;have s6:=hx6.size;replace hB1:=hB1.chg hx6 (by simp;omega);replace hB2:=hB2.chg hx6 (by simp;omega);replace hG:=hG.chg hx6 (by simp;omega);replace hC:Chg [] w w6:=(hC.t0 hx5).n1 hx6 (by omega);clear hx5 hx6;refine rG 60 hf I ?_;clear hf a;intro a hf;refine rV hf I (jJ hf I (by kernel_rfl) hB1 I) ?_;clear hf a;intro a hf;refine rV hf I (uc hf underlying22 I) ?_;clear hf a;intro a hf;refine rG 60 hf I ?_;clear hf a;intro a hf;have hg0:w.heap.size<=g:=by omega
  have hgb:g≠b2∧g≠b3∧b2≠b3:=by omega
  have hl2:w.heap.size<=b2:=by omega
  have hl3:w.heap.size<=b3:=by omega
  have hlg:g+1<=w6.heap.size:=hG.lt;refine rL (λm a w'=>∃(i:Nat) (done rest:List Value) (mi:Nat),m=ks.length-i∧i<=ks.length∧Fr a 36 (fm [(2,.pointer (some ⟨b2,0,none⟩)),(3,.pointer (some ⟨b3,0,none⟩)),(21,.slice (some ⟨kb,ko,none⟩) ks.length n'),(22,.int .i64 (ks.length:Nat)),(23,.int .i64 (i:Nat))])∧
      Chg [] w w'∧Blk w' b2 TT zT∧Blk w' b3 TT [.int .i64 k,gr s,.slice none 0 0,.slice (some ⟨g,0,none⟩) ks.length ks.length]∧Blk w' g TT (done++rest)∧done.length=i*4∧rest.length=(ks.length-i)*4∧g+1<=mi∧mi<=w'.heap.size∧NestK w' (g+1) mi (ks.take i) done) ks.length
    ⟨0,[],C,g+1,by omega,aao _,hf.pick ⟨rfl,rfl,rfl,rfl,rfl,trivial⟩,hC,hB2,hB3,hG,rfl,by omega,aaf _,hlg,by simp only[List.take_zero,NestK]⟩ ?_
  clear hf a hC hB1 hB2 hB3 hG hlg;rintro _ a w7 ⟨i,done,rest,mi,rfl,hi,hf,hC,hB2,hB3,hG,hdl,hrl,hgm,hmw,hNK⟩;by_cases hlt:i<ks.length
  · skip
    obtain⟨d0,d1,d2,d3,hT,hK⟩:=Ms hKT hlt;have on_T:=hT.one;replace hT:=hT.keepB (S':=λx=>x<w7.heap.size) (w':=w7) (λx _ hx=>aaz hx hC.size) λx _ hx=>hC.block x hx nm0;have hK7:∀j,j<4->w7.cell? ⟨kb,ko+i*4+j,none⟩=([d0,d1,d2,d3]:List Value)[j]?:=λj hj=>by
      rw[hC.cell hkb nm0,aat,hcell _<|by omega];exact hK j hj
    have htb:=Hb hlt
    match rest,hrl,hG with
    |[],hrl,hG=>simp only[aae]at hrl;omega
    |[_],hrl,hG=>simp only[aac,aae]at hrl;omega
    |[_,_],hrl,hG=>simp only[aac,aae]at hrl;omega
    |[_,_,_],hrl,hG=>simp only[aac,aae]at hrl;omega
    | r0::r1::r2::r3::rest,hrl,hG=>
      replace hG:Blk w7 g TT (done++[r0,r1,r2,r3]++rest):=by simpa using hG
      refine rG 60 hf I ?_;clear hf a;intro a hf;refine rV hf rfl (yi (c:=true) hf rfl rfl (by simp;omega)) ?_;clear hf a;intro a hf;refine rG 60 hf I ?_;clear hf a;intro a hf;refine rV hf I (ta (sz:=4) (k:=i) hf underlying22 (by kernel_rfl) I I I hlt I) ?_;clear hf a;intro a hf;refine rV hf I (ex_loadN (cs:=[d0,d1,d2,d3]) (m:=4) hf I (by kernel_rfl) I hK7) ?_;clear hf a;intro a hf;obtain⟨w8,b5,he,hB5,hx8,e5,l5⟩:=eT a w7 0;refine rV hf I he ?_;clear he hf a;intro a hf;replace hB2:=hB2.c0 hx8;replace hB3:=hB3.c0 hx8;replace hG:=hG.c0 hx8;replace hC:=hC.t0 hx8;have s8:=hx8.size;replace hT:=hT.keepB (S':=λx=>x<w7.heap.size) (w':=w8) (λx hx _=>hx) λx _ hx=>hx8.block x hx nm0;replace hNK:=hNK.keep (w':=w8) (λx _ hx=>hx8.block x (by omega) nm0);refine rG 60 hf I ?_;clear hf a;intro a hf;obtain⟨w9,he,hB5',hx9⟩:=eN (.tmp 5) (.tmp 27) hf rfl rfl rfl on_T hB5 rfl 0;refine rS hf I he ?_;clear he hf a;intro a hf;clear hB5;have hB5:=hB5';clear hB5';have s9:=hx9.size;have n5:b2≠b5∧b3≠b5∧g≠b5:=⟨by omega,by omega,by omega⟩;replace hB2:=hB2.chg hx9 (by simp;omega);replace hB3:=hB3.chg hx9 (by simp;omega);replace hG:=hG.chg hx9 (by simp;omega);replace hC:=hC.n1 hx9 (by omega);replace hT:=hT.keepB (S':=λx=>x<w7.heap.size) (w':=w9) (λx hx _=>hx) (λx hx1 hx=>hx9.block x hx (by simp;omega));replace hNK:=hNK.keep (w':=w9) (λx _ hx=>hx9.block x (by omega) (by simp;omega));refine rG 60 hf I ?_;clear hf a;intro a hf;refine rD (λx=>Blk x b3 TT [.int .i64 k,gr s,.slice none 0 0,.slice (some ⟨g,0,none⟩) ks.length ks.length]∧Blk x b5 TT [d0,d1,d2,d3]) 6 7 I (by kernel_rfl) (by kernel_rfl) ?_;intro w10 hx10 hsel;replace hB2:=hB2.c0 hx10;replace hB3:=hB3.c0 hx10;replace hB5:=hB5.c0 hx10;replace hG:=hG.c0 hx10;replace hC:=hC.t0 hx10;have s10:=hx10.size;replace hT:=hT.keepB (S':=λx=>x<w7.heap.size) (w':=w10) (λx hx _=>hx) λx hx1 hx=>hx10.block x hx nm0;replace hNK:=hNK.keep (w':=w10) (λx _ hx=>hx10.block x (by omega) nm0);refine dG [0] hsel (by kernel_rfl) hf I I (.inl ⟨hB3,hB5⟩) ?_;clear hf a;intro a hf;refine dL 1 I I hsel (by kernel_rfl) hf I ⟨hB3,hB5⟩ (λx hS=>jJ hf I (by kernel_rfl) hS.1 I) ?_;clear hf a;intro a hf;refine dG [2] hsel (by kernel_rfl) hf I I (.inl ⟨hB3,hB5⟩) ?_;clear hf a;intro a hf;refine dL 3 I I hsel (by kernel_rfl) hf I ⟨hB3,hB5⟩ (λx hS=>rg (m:=4) hf I (by kernel_rfl) hS.2 I) ?_;clear hf a;intro a hf;refine RM 4 (by kernel_rfl) I hf I I I (by kernel_rfl) (ih i ks[i] (List.getElem?_eq_getElem hlt) w10 _ _ (by omega) hT) ?_;rintro _ w11 ⟨c,rfl,hx11,hN⟩;refine⟨_,I,?_⟩;clear hf a;intro a hf;replace hB2:=hB2.c0 hx11;replace hB3:=hB3.c0 hx11;replace hB5:=hB5.c0 hx11;replace hG:=hG.c0 hx11;replace hC:=hC.t0 hx11;have s11:=hx11.size;replace hNK:=hNK.keep (w':=w11) (λx _ hx=>hx11.block x (by omega) nm0);refine⟨.inl ⟨hB3,hB5⟩,?_⟩;refine dV 5 I I hsel (by kernel_rfl) hf I (.inl ⟨hB3,hB5⟩) (λx=>ta (sz:=4) (k:=i) (r:=i*4) hf underlying22 (by kernel_rfl) I I I hlt<|Nat.zero_add _) ?_;clear hf a;intro a hf;obtain⟨w12,he,hG',hx12⟩:=LI (P:=prog) (t:=TT) (x:=(.tmp 33)) (y:=(.tmp 32)) (m:=4) hf rfl rfl (by kernel_rfl) hN.four hN.one hG hdl rfl 0;refine Ux 6 (by kernel_rfl) I hf I I he ?_;clear he hf a;intro a hf;refine⟨.inr (by rfl),?_⟩;refine rN (by kernel_rfl) ?_;clear hG;have hG:=hG';clear hG';have s12:=hx12.size;have hGl:=hG.lt;replace hB2:=hB2.chg hx12 (by simp;omega);replace hB3:=hB3.chg hx12 (by simp;omega);replace hC:=hC.n1 hx12 (by omega);replace hNK:=hNK.keep (w':=w12) (λx h1 h2=>hx12.block x (by omega) (by simp;omega));replace hN:=hN.keep (w':=w12) (λx h1 h2=>hx12.block x h2 (by simp;omega));have hN4:=hN.four;refine rG 60 hf I ?_;clear hf a;intro a hf;refine rV hf rfl (IJ (r:=((i+1:Nat):Int)) hf rfl rfl (by simp)<|by omega) ?_;clear hf a;intro a hf;refine rG 60 hf I ?_;clear hf a;intro a hf;refine rX ?_;refine⟨ks.length-(i+1),by omega,i+1,done++c,rest,w11.heap.size,rfl,hlt,hf.pick ⟨rfl,rfl,rfl,rfl,rfl,trivial⟩,hC,hB2,hB3,hG,by rw[aab,hN4];omega,by simp only[aac]at hrl;omega,by omega,by omega,?_⟩;rw[List.take_succ_eq_append_getElem hlt];exact NestK.snoc hNK (hN.lo_<|by omega) hgm (by omega)
  have hi':i=ks.length:=by omega
  subst hi';have hr0:rest=[]:=List.eq_nil_of_length_eq_zero (by omega);subst hr0;rw[aar]at hG;rw[List.take_length]at hNK;refine rG 60 hf I ?_;clear hf a;intro a hf;refine rV hf rfl (yi (c:=false) hf rfl rfl<|by simp) ?_;clear hf a;intro a hf;refine rG 60 hf I ?_;clear hf a;intro a hf;refine rO ?_;refine rG 60 hf I ?_;clear hf a;intro a hf;refine rV hf I (rg (m:=4) hf I (by kernel_rfl) hB3 I) ?_;clear hf a;intro a hf;obtain⟨w9,he,hB2',hx9⟩:=eN (.tmp 2) (.tmp 35) hf rfl rfl rfl rfl hB2 rfl 0;refine rS hf I he ?_;clear he hf a;intro a hf;refine rG 60 hf I ?_;clear hf a;intro a hf;have s9:=hx9.size;have hGl:=hG.lt;refine rT (rs:=[.cell 2 TT]) hf rfl ⟨_,_,_,_,_,rfl,rfl,by kernel_rfl,hB2',rfl,rfl⟩ ⟨_,rfl,hC.n1 hx9 (by omega),hfin (some ⟨g,0,none⟩) ks.length g done w9 (hC.n1 hx9<|by omega) (aaf _) (by simp only[maxLen];omega) (λ_=>⟨rfl,hg0,by omega,hG.chg hx9 (by simp;omega)⟩) ?_⟩;exact NestK.hi_ (hNK.keep (w':=w9) λx h1 h2=>hx9.block x (by omega) (by simp;omega)) (by omega)
theorem NZ:∀t,Fg t:=dp Nh
def Ah(md:Region.Mode)(ops:Array Oper):Nat->YN->Nat->Bool
 |m,[],i=>nW md ops m i
 |m,q::r,i=>nW md ops m q&&Ah md ops q r i
theorem Gy{md:Region.Mode}{ops:Array Oper}{listed:Array Bool}{i:Nat}(h:nW md ops m i=true)(hi:listed.getD i true=false):m∉Region.ready md ops listed:=λhr=>by
 obtain⟨_,o,J,G⟩:=mem_ready.1 hr;unfold nW at h;rw[J]at h;obtain⟨e,O,hb⟩:=Array.any_eq_true'.1 h;simp only[aaa,aaq]at hb;have h1:=G e O hb.1;rw[hb.2]at h1;rcases Nat.lt_or_ge i listed.size with h'|h'
 ·simp[h']at hi h1;rw[hi]at h1;cases h1
 ·simp[Array.getElem?_eq_none h']at h1
theorem Ez{md:Region.Mode}{ops:Array Oper}{listed:Array Bool}{i:Nat}(hi:listed.getD i true=false):∀(qs:YN) (m:Nat),Ah md ops m qs i=true->(∀q∈qs,listed.getD q true=false)->∀x∈m::qs,x∉Region.ready md ops listed
 |[],m,h,_,x,hx=>by simp only[List.mem_singleton]at hx;subst hx;exact Gy h hi
 |q::r,m,h,G,x,hx=>by
  simp only[Ah,aaa]at h;rcases List.mem_cons.1 hx with rfl|hx
  ·exact Gy h.1 (G q<|by simp)
  ·exact Ez hi r q h.2 (λp J=>G p<|by simp[J]) x hx
section
variable{P:Program}{ops:Array Oper}{Q:Exit->Act->World->Prop}{md:Region.Mode}{S:World->Prop}
theorem GA {m:Nat} {i:Nat} {qs:List Nat} {oi:Oper} {v:Value} (him:i≠m) (hch:Ah md ops m qs i=true) (hi:ops[i]?=some oi) (hsel:∀(j:Nat) (o:Oper) cs b,ops[j]?=some o->o.op≠.select cs b)
    (hQ:∀c a w,Q (.panic c) (a.put oi.dst v) w->Q (.panic c) a w):
    ∀ (fuel:Nat) (listed:Array Bool) (a:Act) (w:World),
      (∀j oj,ops[j]?=some oj->j≠i->listed.getD j true=false->(∀e∈oj.after,Region.binds md e=true->e.on≠i)->oi.apart ops oj=true)->(∀q∈qs,listed.getD q true=false)->
      i∈Region.ready md ops listed->YieldsIf P ops S oi v a->S w->listed.getD m false=false->
      wpAnyL P md ops Q S m fuel (listed.setIfInBounds i true) (a.put oi.dst v) w->wpAnyL P md ops Q S m (fuel+1) listed a w:=by
  intro fuel
  induction fuel with
  | zero=>
    intro listed a w _ _ hr hy hS _ H;refine⟨λh=>(by rw[h]at hr;cases hr),λj hj=>?_⟩;by_cases hji:j=i
    ·subst hji;exact hy.wpOp hi hS ⟨.inl hS,H⟩
    · have :=ready_mono hj hji;rw[H.1]at this;cases this
  | succ fuel ih=>
    intro listed a w hfree hqs hr hy hS hlm H;refine⟨λh=>(by rw[h]at hr;cases hr),λj hj=>?_⟩;by_cases hji:j=i
    ·subst hji;exact hy.wpOp hi hS ⟨.inl hS,H⟩
    · have h1:=H.2 j (ready_mono hj hji);obtain⟨hjun,oj,hoj,hall⟩:=mem_ready.1 hj;have hnot:=tS (j:=j) hr hall;have hcn:=Ez (mem_ready.1 hr).1 qs m hch hqs;have hjm:j≠m:=λe=>hcn m (by simp)<|e▸hj;have hjq:∀q∈qs,j≠q:=λq hq e=>hcn q (by simp[hq])<|e▸hj;have h2:=wpOp_putIf hoj (hfree j oj hoj hji hjun hnot) (λcs b=>hsel i oi cs b hi) (λcs b=>hsel j oj cs b hoj) hQ hy h1;have hfree':∀k ok,ops[k]?=some ok->k≠i->(listed.setIfInBounds j true).getD k true=false->
          (∀e∈ok.after,Region.binds md e=true->e.on≠i)->oi.apart ops ok=true:=λk ok hk hki hun hno=>by
        refine hfree k ok hk hki ?_ hno;by_cases hjk:j=k
        ·subst hjk;exact hjun
        ·rw[getD_set_ne true hjk]at hun;exact hun
      refine wpOp_mono (λa' w' h3=>?_) h2;have hlm':(listed.setIfInBounds j true).getD m false=false:=by rw[getD_set_ne false hjm];exact hlm
      have hqs':∀q∈qs,(listed.setIfInBounds j true).getD q true=false:=λq hq=>by rw[getD_set_ne true<|hjq q hq];exact hqs q hq
      have hS':S w':=by
        rcases h3.2.1 with h|h
        ·exact h
        · rw[Array.setIfInBounds_comm _ _ λe=>hji e.symm,getD_set_ne false him,hlm']at h;cases h
      refine⟨.inl hS',ih (listed.setIfInBounds j true) a' w' hfree' hqs' (ready_mono hr<|Ne.symm hji) h3.1 hS' hlm' ?_⟩;rw[Array.setIfInBounds_comm _ _ hji];exact h3.2.2
theorem dLc{a:Act}{w:World}{n:Nat}{f:Nat->Option Value}{d:Option Tmp}{op:Op}{ty:TypeId}{ps:String}{af:Array Edge}{g:Option<|Nat×Bool}{v:Value}{fuel:Nat}{listed:Array Bool}(i:Nat)(qs:YN)(G:Nat.beq i m=false)(hi:ops[i]?=some ⟨d,op,ty,ps,af,g⟩)(hs:Region.noSelect ops=true)(hf:(Ah .any ops m qs i&&qs.all (λq=>!listed.getD q true)&&!listed.getD m false&&Region.free .any ops listed i&&(Region.ready .any ops listed).contains i)=true)
  (h:Fr a n f) (J:(hI f ops g&&gy d n)=true) (O:S w) (U:∀w',S w'->Runs P a ty op w' (.value v) w')
  (k:∀a',Fr a' n (upo f d v)->wpAnyL P .any ops (NoPanic Q) S m fuel (listed.setIfInBounds i true) a' w):wpAnyL P .any ops (NoPanic Q) S m (fuel+1) listed a w:=by
 simp only[aaa,Bool.not_eq_true']at hf;obtain⟨⟨⟨⟨h1,h2⟩,Z⟩,h4⟩,h5⟩:=hf;exact GA (Nat.ne_of_beq_eq_false G) h1 hi (Region.noSelect_spec hs) (λ_ _ _ h=>h.elim) fuel listed a w (Region.free_spec hi h4) (λq hq=>by simpa using List.all_eq_true.1 h2 q hq) (by simpa using h5)
  (.inl ⟨lY h (Bool.and_eq_true_iff.1 J).1,λw' hS'=>U w' hS' _ _ _ _⟩) O Z (k _<|h.puto (Bool.and_eq_true_iff.1 J).2 v)
end
theorem KidsAre.mono{S S':Nat->Prop}{w:World}{ts:YT}{cs:List Value}(h:KidsAre S w ts cs)(G:∀b,S b->S' b):KidsAre S' w ts cs:=h.keep G λ_ _ _=>rfl
theorem MC(t:Tree)(ih:∀(i:Nat) (u:Tree),t.kids[i]?=some u->Gj u):Gj t:=by
  obtain⟨k,s,ls,ks⟩:=t;intro w b pre c post ct lo hi Sf hbk hB hN hbo hhi hT hSf;simp only[NestC]at hN;obtain⟨B,n,g,cs,rfl,hn1,hn2,hlh,hg,hK⟩:=hN;simp only[TreeIs]at hT;obtain⟨A,m,B',n',rfl,hm1,hm2,hm3,hm4,hA,kcs,hKT,hKR⟩:=hT;simp only[Tree.kids]at ih;simp only[tbulk]at hbk;have hkl:=fe ks;have hll:=zl ls;have hbl:=hB.lt;refine rE 32 func90 I I I ?_;intro a hf;refine rG 60 hf I ?_;clear hf a;intro a hf;obtain⟨w1,bb,he,hbb,hx1,eb,lb⟩:=Dn (P:=prog) (t:=TT) (x:=(.tmp 1)) hf rfl rfl w 0;refine rV hf I he ?_;clear he hf a;intro a hf;replace hB:=hB.c0 hx1;have hA1:=hA.keepB (w':=w1) (S':=Sf) (λ_ h _=>h) λx _ hx=>hx1.block x hx nm0;refine rG 60 hf I ?_;clear hf a;intro a hf;refine rV hf I (jJ hf I (by kernel_rfl) hbb I) ?_;clear hf a;intro a hf;obtain⟨A',m',w2,he,ha1,ha2,ha3,hx2⟩:=Qa (P:=prog) (x:=.const<|.slice none 0 0) (y:=.tmp 7) (t:=27) (e:=9) (z:=.string ⟨#[]⟩) (by_:=16) hf rfl rfl hA1 (by omega) underlying27 (by kernel_rfl) rfl rfl 0;refine rV hf I he ?_;clear he hf a;intro a hf;replace hB:=hB.c0 hx2;replace hbb:=hbb.c0 hx2;refine rG 60 hf I ?_;clear hf a;intro a hf;obtain⟨w3,he,hB3,hx3⟩:=FV (P:=prog) (t:=27) (x:=.tmp 10) (y:=.tmp 8) hf rfl rfl (by kernel_rfl) rfl hB (by simp) 0;refine rS hf I he ?_;clear he hf a;intro a hf;rw[OJ]at hB3;have s1:=hx1.size;have s2:=hx2.size;have s3:=hx3.size;have hbb3:=hbb.chg hx3 (by simp;omega);have hA3:=ha3.keepB (w':=w3) (S':=λx=>w.heap.size<=x) (λx hx _=>by omega) (λx hx hlt=>hx3.block x hlt (by simp;omega));have hC:ChgP (λx=>x=b∨(lo<=x∧x<hi)) w w3:=((ChgP.of0 hx1 (X:=λx=>x=b∨(lo<=x∧x<hi))).trans (ChgP.of0 hx2 (X:=λ_=>False)) λ_ h=>h.elim).trans (ChgP.of hx3) (λx hx=>by simp at hx;exact .inl<|.inl hx);have hin:∀x,lo<=x->x<hi->w3.heap[x]?=w.heap[x]?:=λx h1 h2=>by rw[hx3.block x (by omega) (by simp;omega),hx2.block x (by omega) nm0,hx1.block x (by omega) nm0]
  have hK3:NestK w3 (g+1) hi ks cs:=by
    by_cases hk0:ks=[]
    ·subst hk0;simpa only[NestK]using hK
    · obtain⟨_,h1,h2,_⟩:=hg hk0;exact hK.keep λx g1 g2=>hin x (by omega) g2
  have hG3:ks≠[]->Blk w3 g TT ([]++cs)∧g+1<=g+1∧g+1<=hi:=λh=>by obtain⟨_,h1,h2,h3⟩:=hg h;exact⟨vX (hin g h1 h2) h3,aaf _,h2⟩
  have hbw:w.heap.size<=bb:=by omega
  clear hx1 hx2 hx3 hB hbb hA1 hA hK ha3 hin;refine rG 60 hf I ?_;clear hf a;intro a hf;refine rV hf I (jJ hf I (by kernel_rfl) hB3 (Ho _ _ _ _ _ _)) ?_;clear hf a;intro a hf;refine rV hf I (uc hf underlying22 I) ?_;clear hf a;intro a hf;refine rG 60 hf I ?_;clear hf a;intro a hf;refine rL (λmm a w'=>∃(i:Nat) (done rest:List Value) (mi:Nat),mm=ks.length-i∧i<=ks.length∧Fr a 32 (fm [(0,.pointer (some ⟨b,pre.length,none⟩)),(3,.pointer (some ⟨bb,0,none⟩)),(15,.int .i64 (ks.length:Nat)),(16,.int .i64 (i:Nat))])∧
      ChgP (λx=>x=b∨(lo<=x∧x<hi)) w w'∧Blk w' b TT (pre++[.int .i64 k,gr s,.slice A' ls.length m',.slice B ks.length n]++post)∧Blk w' bb TT [.int .i64 k,gr s,.slice A ls.length m,.slice B' ks.length n']∧
      RowIn (λx=>w.heap.size<=x) w' 1 A' ls.length (ls.map gr)∧(ks≠[]->Blk w' g TT (done++rest)∧g+1<=mi∧mi<=hi)∧KidsAre (λx=>(g+1<=x∧x<mi)∨w.heap.size<=x) w' (ks.take i) done∧NestK w' mi hi (ks.drop i) rest) ks.length
    ⟨0,[],cs,g+1,rfl,aao _,hf.pick ⟨rfl,rfl,rfl,rfl,trivial⟩,hC,hB3,hbb3,hA3,hG3,by simp[KidsAre],by simpa using hK3⟩ ?_
  clear hf a hC hB3 hbb3 hA3 hG3 hK3 s1 s2 s3;rintro _ a w4 ⟨i,done,rest,mi,rfl,hi1,hf,hC,hB,hbb,hA,hG,hKA,hNK⟩;by_cases hlt:i<ks.length
  · skip
    have hne:ks≠[]:=λh=>by subst h;simp at hlt
    obtain⟨rfl,hg1,hg2,_⟩:=hg hne;obtain⟨hG,hgm,hmh⟩:=hG hne;obtain⟨kb,ko,rfl,hkS,hkb,hcell⟩:=hKR.2 (by omega);obtain⟨d0,d1,d2,d3,hT,hK⟩:=Ms hKT hlt;have hdl:=hKA.length;rw[aau,Nat.min_eq_left hi1]at hdl;rw[aan hlt]at hNK;simp only[NestK]at hNK;obtain⟨c,d,mid,rfl,hm5,hm6,hNc,hNk⟩:=hNK;rw[<-aaj]at hG;have htb:=Hb hlt;have sC:=hC.size;have out:∀x,Sf x->x<w.heap.size->w4.heap[x]?=w.heap[x]?:=λx h1 h2=>hC.block x h2 (λh=>by have :=hSf x h1;omega);replace hT:=hT.keepB (S':=λx=>Sf x∧x<w.heap.size) (w':=w4) (λx h1 h2=>⟨h1,h2⟩) out;have hK4:∀j,j<4->w4.cell? ⟨kb,ko+i*4+j,none⟩=([d0,d1,d2,d3]:List Value)[j]?:=λj hj=>by
      rw[World.cell?_of_block (a:=⟨kb,ko+i*4+j,none⟩)<|out kb hkS hkb,aat,hcell _<|by omega];exact hK j hj
    refine rG 60 hf I ?_;clear hf a;intro a hf;refine rV hf rfl (yi (c:=true) hf rfl rfl (by simp;omega)) ?_;clear hf a;intro a hf;refine rG 60 hf I ?_;clear hf a;intro a hf;refine rD (λx=>Blk x b TT (pre++[.int .i64 k,gr s,.slice A' ls.length m',.slice (some ⟨g,0,none⟩) ks.length n]++post)∧Blk x bb TT [.int .i64 k,gr s,.slice A ls.length m,.slice (some ⟨kb,ko,none⟩) ks.length n']∧∀j,j<4->x.cell? ⟨kb,ko+i*4+j,none⟩=([d0,d1,d2,d3]:List Value)[j]?) 11 12 I (by kernel_rfl) (by kernel_rfl) ?_;intro w5 hx5 hsel;have e5:∀x,x<w4.heap.size->w5.heap[x]?=w4.heap[x]?:=λx hx=>hx5.block x hx nm0;have s5:=hx5.size;have hlb:=hB.lt;have hlbb:=hbb.lt;have hlg:=hG.lt;replace hB:=hB.c0 hx5;replace hbb:=hbb.c0 hx5;replace hG:=hG.c0 hx5;replace hT:=hT.keepB (S':=λx=>Sf x∧x<w.heap.size) (w':=w5) (λx h1 h2=>h1) λx _ hx=>e5 x hx;replace hNc:=hNc.keep (w':=w5) (λx _ hx=>e5 x<|by omega);replace hNk:=hNk.keep (w':=w5) (λx _ hx=>e5 x<|by omega);replace hA:=hA.keepB (w':=w5) (S':=λx=>w.heap.size<=x) (λx h1 h2=>h1) λx _ hx=>e5 x hx;replace hKA:=hKA.keepB (w':=w5) (S':=λx=>(g+1<=x∧x<mi)∨w.heap.size<=x) (λx h1 h2=>h1) λx _ hx=>e5 x hx;replace hK4:∀j,j<4->w5.cell? ⟨kb,ko+i*4+j,none⟩=([d0,d1,d2,d3]:List Value)[j]?:=λj hj=>by
      rw[World.cell?_of_block (a:=⟨kb,ko+i*4+j,none⟩)<|e5 kb (by show kb<w4.heap.size;omega)];exact hK4 j hj
    have hS:=And.intro hB<|And.intro hbb hK4;replace hC:ChgP (λx=>x=b∨(lo<=x∧x<hi)) w w5:=hC.trans (ChgP.of0 hx5 (X:=λ_=>False)) λ_ h=>h.elim;clear e5 hx5;refine dG [0,1,2] hsel (by kernel_rfl) hf I I (.inl hS) ?_;clear hf a;intro a hf;refine dLc 3 [5] I I hsel (by kernel_rfl) hf I hS (λx hS=>jJ hf I (by kernel_rfl) hS.1 (Ho _ _ _ _ _ _)) ?_;clear hf a;intro a hf;refine dG [4] hsel (by kernel_rfl) hf I I (.inl hS) ?_;clear hf a;intro a hf;refine dV 5 I I hsel (by kernel_rfl) hf I (.inl hS) (λx=>ta (sz:=4) (k:=i) (r:=done.length) hf underlying22 (by kernel_rfl) I I I hlt<|by omega) ?_;clear hf a;intro a hf;refine dG [6] hsel (by kernel_rfl) hf I I (.inl hS) ?_;clear hf a;intro a hf;refine dLc 7 [10,9] I I hsel (by kernel_rfl) hf I hS (λx hS=>jJ hf I (by kernel_rfl) hS.2.1 I) ?_;clear hf a;intro a hf;refine dG [8] hsel (by kernel_rfl) hf I I (.inl hS) ?_;clear hf a;intro a hf;refine dV 9 I I hsel (by kernel_rfl) hf I (.inl hS) (λx=>ta (sz:=4) (k:=i) (r:=ko+i*4) hf underlying22 (by kernel_rfl) I I I hlt I) ?_;clear hf a;intro a hf;refine dLc 10 [] I I hsel (by kernel_rfl) hf I hS (λx hS=>ex_loadN (cs:=[d0,d1,d2,d3]) (m:=4) hf I (by kernel_rfl) I hS.2.2) ?_;clear hf a;intro a hf;refine RM 11 (by kernel_rfl) I hf I I I (by kernel_rfl) (ih i ks[i] (List.getElem?_eq_getElem hlt) w5 g done c d [d0,d1,d2,d3] mi mid (λx=>Sf x∧x<w.heap.size) (by omega) hG hNc (by omega) (by omega) hT (λx h=>by have :=hSf x h.1;omega)) ?_;rintro _ w6 ⟨rfl,c',hG',hx6,hT'⟩;refine⟨_,I,?_⟩;clear hf a;intro a hf;refine⟨.inr (by rfl),?_⟩;refine rN (by kernel_rfl) ?_;have e6:∀x,x<w5.heap.size->x≠g->¬(mi<=x∧x<mid)->w6.heap[x]?=w5.heap[x]?:=λx hx h1 h2=>hx6.block x hx (by omega);have s6:=hx6.size;replace hC:ChgP (λx=>x=b∨(lo<=x∧x<hi)) w w6:=hC.trans hx6 (λx h=>by left;right;omega);replace hB:=vX (e6 b (by omega) (by omega)<|by omega) hB;replace hbb:=vX (e6 bb (by omega) (by omega)<|by omega) hbb;replace hA:=hA.keepB (w':=w6) (S':=λx=>w.heap.size<=x) (λx h1 h2=>h1) (λx h1 hx=>e6 x hx (by omega)<|by omega);replace hKA:=hKA.keepB (w':=w6) (S':=λx=>(g+1<=x∧x<mid)∨w.heap.size<=x) (λx h1 h2=>by omega) (λx h1 hx=>e6 x hx (by omega)<|by omega);replace hNk:=hNk.keep (w':=w6) (λx h1 h2=>e6 x (by omega) (by omega)<|by omega);replace hT':=hT'.keep (S':=λx=>(g+1<=x∧x<mid)∨w.heap.size<=x) (w':=w6) (λx h=>by omega) λ_ _ _=>rfl;refine rG 60 hf I ?_;clear hf a;intro a hf;refine rV hf rfl (IJ (r:=((i+1:Nat):Int)) hf rfl rfl (by simp)<|by omega) ?_;clear hf a;intro a hf;refine rG 60 hf I ?_;clear hf a;intro a hf;refine rX ?_;refine⟨ks.length-(i+1),by omega,i+1,done++c',d,mid,I,hlt,hf.pick ⟨I,I,I,I,trivial⟩,hC,hB,hbb,hA,λ_=>⟨hG',by omega,by omega⟩,?_,hNk⟩;rw[List.take_succ_eq_append_getElem hlt];exact hKA.snoc hT'
  have hi':i=ks.length:=by omega
  subst hi';rw[List.take_length]at hKA;rw[List.drop_length]at hNK;simp only[NestK]at hNK;subst hNK;refine rG 60 hf I ?_;clear hf a;intro a hf;refine rV hf rfl (yi (c:=false) hf rfl rfl<|by simp) ?_;clear hf a;intro a hf;refine rG 60 hf I ?_;clear hf a;intro a hf;refine rO ?_;refine rG 60 hf I ?_;clear hf a;intro a hf;refine rF (rs:=[]) (vs:=[]) hf I I ⟨I,_,hB,hC,?_⟩;have hdl:=hKA.length;by_cases hk0:ks=[]
  · subst hk0;simp only[KidsAre]at hKA;subst hKA;exact Dq (cs:=[]) ha1 ha2 hn1 hn2 (hA.keep (λx h=>.inr h) λ_ _ _=>rfl) (by simp only[KidsAre]) ⟨by simp,λh=>by simp at h⟩
  · obtain⟨rfl,hg1,hg2,_⟩:=hg hk0;obtain⟨hG,hgm,hmh⟩:=hG hk0;refine Dq ha1 ha2 hn1 hn2 (hA.keep (λx h=>.inr h) λ_ _ _=>I) (hKA.mono λx h=>by omega) ⟨hdl,λ_=>⟨g,0,I,.inl ⟨hg1,hg2⟩,hG.lt,λj hj=>?_⟩⟩;rw[hG.cell,Nat.zero_add,aar]
theorem NE:∀t,Gj t:=dp MC
theorem In(t:Tree)(w:World)(S:Nat->Prop)(ct:List Value)(hbk:tbulk t<=1000000000)(O:TreeIs S w t ct):
    Calls prog 51 #[.agg ct.toArray] w λe w'=>∃c,e=.returned (.agg c.toArray)∧Chg [] w w'∧TreeIs (λx=>w.heap.size<=x) w' t c:=by
  have h4:=O.four
  match ct,h4,O with
  |[c0,c1,c2,c3],_,O=>
  have on_T:=O.one;replace O:=O.keepB (S':=λx=>x<w.heap.size) (w':=w) (λx _ hx=>hx) λ_ _ _=>rfl;refine rE 9 func51 I I I ?_;intro a hf;refine rG 60 hf I λa hf=>?_;obtain⟨w1,b1,he,G,hx1,e1,l1⟩:=Dn (P:=prog) (t:=TT) (x:=(.tmp 0)) hf rfl rfl w 0;refine rV hf I he λa hf=>?_;replace O:=O.keepB (S':=λx=>x<w.heap.size) (w':=w1) (λx hx _=>hx) λx _ hx=>hx1.block x hx nm0;obtain⟨w2,b2,he,J,hx2,e2,l2⟩:=eT a w1 0;refine rV hf I he λa hf=>?_;replace G:=G.c0 hx2;replace O:=O.keepB (S':=λx=>x<w.heap.size) (w':=w2) (λx hx _=>hx) λx _ hx=>hx2.block x hx nm0;refine rG 60 hf I λa hf=>rV hf I (rg (m:=4) hf I (by kernel_rfl) G I) λa hf=>rC hf I I (by kernel_rfl) (NZ t w2 _ _ hbk O) ?_;rintro _ w3 ⟨c,rfl,hx3,hN⟩;refine⟨_,I,λa hf=>?_⟩;replace G:=G.c0 hx3;replace J:=J.c0 hx3;replace O:=O.keepB (S':=λx=>x<w.heap.size) (w':=w3) (λx hx _=>hx) λx _ hx=>hx3.block x hx nm0;obtain⟨w4,b4,he,hB4,U,e4,l4⟩:=eT a w3 0;refine rV hf I he λa hf=>?_;replace G:=G.c0 U;replace J:=J.c0 U;replace O:=O.keepB (S':=λx=>x<w.heap.size) (w':=w4) (λx hx _=>hx) λx _ hx=>U.block x hx nm0;replace hN:=hN.keep (w':=w4) λx _ hx=>U.block x hx nm0;obtain⟨w5,he,hB5,Z⟩:=eN (.tmp 3) (.tmp 5) hf rfl rfl hN.four hN.one hB4 rfl 0;refine rS hf I he λa hf=>?_;have s1:=hx1.size;have s2:=hx2.size;have s3:=hx3.size;have s4:=U.size;have s5:=Z.size;replace G:=G.chg Z (by simp;omega);replace J:=J.chg Z (by simp;omega);replace O:=O.keepB (S':=λx=>x<w.heap.size) (w':=w5) (λx hx _=>hx) (λx h1 hx=>Z.block x hx (by simp;omega));replace hN:=hN.keep (w':=w5) (λx _ hx=>Z.block x (by omega) (by simp;omega));have hC:Chg [] w w5:=(((hx1.t0 hx2).t0 hx3).t0 U).n1 Z (by omega);clear hx1 hx2 hx3 U Z hB4;refine rG 60 hf I λa hf=>rV hf I (rg (m:=4) hf I (by kernel_rfl) G I) λa hf=>rC hf I I (by kernel_rfl) (NE t w5 b4 [] c [] [c0,c1,c2,c3] w2.heap.size w3.heap.size (λx=>x<w.heap.size) hbk (by simpa using hB5) hN (by omega) (by omega) O λx hx=>by omega) ?_;rintro _ w6 ⟨rfl,c',hB6,hx6,hT'⟩;refine⟨_,I,λa hf=>?_⟩;have s6:=hx6.size;replace J:=vX (hx6.block b2 (by omega)<|by omega) J;have hC6:Chg [] w w6:=⟨hx6.os.trans hC.os,hx6.tape.trans hC.tape,hx6.output.trans hC.output,nlt hC.size s6,λx hx h0=>by rw[hx6.block x (by omega) (by omega),hC.block x hx h0]⟩;rw[aam,aar]at hB6;have h4':=hT'.four;have on':=hT'.one;refine rG 60 hf I λa hf=>rV hf I (rg (m:=4) hf I (by kernel_rfl) hB6 h4') λa hf=>?_;obtain⟨w7,he,hB7,hx7⟩:=eN (.tmp 2) (.tmp 8) hf rfl rfl h4' on' J rfl 0;refine rS hf I he λa hf=>rG 60 hf I λa hf=>?_;exact rT (rs:=[.cell 2 TT]) hf rfl ⟨_,_,_,_,_,rfl,rfl,by kernel_rfl,hB7,h4',rfl⟩ ⟨_,rfl,hC6.n1 hx7 (by omega),hT'.keepB (λx h _=>by omega) λx h hx=>hx7.block x hx (by simp;omega)⟩
section
variable{S:Nat->Prop}{w:World}
theorem EB{ρ:Nat->Option Value}:∀{ls:List YB} {xs:List Value},CRel S w ρ 1 (ls.map .str) xs->xs=ls.map gr
 |[],xs,h=>by simpa[CRel]using h
 |s::r,xs,h=>by simp only[aal,CRel,VRel]at h;obtain⟨x,ys,rfl,_,rfl,h2⟩:=h;rw[EB h2];simp[Value.cells,gr]
mutual
theorem LRel.tree:∀{ρ:Nat->Option Value} {t:Tree} {c:List Value},LRel S w ρ (ak t) c->TreeIs S w t c
 |ρ,.node k s ls ks,c,h=>by simp only[ak,Tree.kind,Tree.text,Tree.leads,Tree.kids,LRel,VRel]at h;obtain⟨_,_,rfl,rfl,_,_,rfl,rfl,_,_,rfl,⟨A,m,xs,rfl,h1,h2,h3,h4⟩,_,_,rfl,⟨B,n,cs,rfl,h5,h6,h7,h8⟩,rfl⟩:=h;have e:=EB h3;subst e;simp only[TreeIs];exact⟨A,m,B,n,by simp[mA],by simpa using h1,h2,by simpa[mA]using h5,h6,by simpa using h4,cs,CRel.kids h7,by simpa[mA]using h8⟩
theorem CRel.kids:∀{ρ:Nat->Option Value} {ts:YT} {cs:List Value},CRel S w ρ 4 (kidsV ts) cs->KidsAre S w ts cs
 |ρ,[],cs,h=>by simpa only[kidsV,CRel,KidsAre]using h
 |ρ,t::r,cs,h=>by simp only[kidsV,CRel,nc,VRel]at h;obtain⟨x,ys,rfl,⟨g1,g2⟩,⟨xs,rfl,h2⟩,h3⟩:=h;simp only[KidsAre];exact⟨xs,ys,by simp[Value.cells],LRel.tree h2,CRel.kids h3⟩
end
end
theorem MP(t:Tree)(ht:tbulk t<=1000000000):ym t t:=by
 refine⟨I,I,λS w ρ xs hr hx=>?_⟩;simp only[LRel]at hx;obtain⟨x,ys,rfl,hx,rfl⟩:=hx;simp only[VRel]at hx;obtain⟨ct,rfl,hx⟩:=hx;refine(In t w S ct ht<|LRel.tree hx).mono ?_;rintro e w' ⟨c,rfl,G,J⟩;have g:=hr.chg0 G;refine⟨_,λb=>S b∨(w.heap.size<=b∧b<w'.heap.size),ρ,_,⟨0,[]⟩,I,I,⟨λi=>?_,λi b hb=>?_,λi j b hb _=>?_,g.slt.up (ρ:=ρ0) (ρ':=ρ0) ⟨λ_ h=>.inl h,λ_ _ _=>I,λ_ _ h=>h⟩ (λb hb=>hb.elim (g.slt b) (·.2))⟩,⟨ChgP.of0 G,λ_ h=>.inl h,λb hb=>hb.elim .inl λh=>.inr<|.inr h.1,λid b hb=>by rw[qL]at hb;exact hb.elim,λid x h=>?_⟩,?_⟩
 ·have :=g.ob i;rw[qL]at this⊢;exact this
 ·rw[qL]at hb;exact hb.elim
 ·rw[qL]at hb;exact hb.elim
 ·simp only[xt]at h;split at h
  ·exact h
  ·cases h
 ·simp only[VRel];exact⟨c,I,(J.keepB (S':=λb=>S b∨(w.heap.size<=b∧b<w'.heap.size)) (λb h1 h2=>.inr ⟨h1,h2⟩) λ_ _ _=>I).vrel⟩
theorem QC(t:Tree)(q:YI)(hq:q.length<=1000000000):xz t q ((atK t q).getD<|.node 0 [] [] []) (atK t q).isSome:=by
 have loop:∀m i (u:Tree),q.length-i<=m->sk (m+1) q u i ((atK u<|q.drop i).getD<|.node 0 [] [] []) (atK u<|q.drop i).isSome:=λm=>by
  induction m with
  |zero=>
   intro i u hi;refine zC 0 _ _ _ _ _ ⟨λh=>by omega,λh=>?_⟩;rw[List.drop_of_length_le<|by omega];exact⟨rfl,rfl⟩
  | succ m ihm=>
   intro i u hi;refine zC (m+1) _ _ _ _ _ ⟨λh=>?_,λh=>?_⟩
   ·obtain⟨x,hx,_⟩|h':=bd q i
    ·rw[aK hx,atK];refine⟨x,hx,λh1=>by simp[h1],λh1=>⟨λh2=>?_,λh2=>?_⟩⟩
     ·have :u.kids[x.toNat]?=none:=List.getElem?_eq_none (by omega);simp[h1,this]
     ·obtain⟨y,hy,_⟩|h3:=bd u.kids x.toNat
      ·refine⟨x.toNat,by omega,y,hy,by omega,?_⟩;simp only[if_neg h1,hy];exact ihm (i+1) y (by omega)
      ·omega
    ·exact absurd h h'
   ·rw[List.drop_of_length_le<|by omega];exact⟨rfl,rfl⟩
 have :=loop q.length 0 t (by omega);exact FH _ _ _ _ _ (by simpa using this)
theorem Iz:∀(q:YI) (t u:Tree),atK t q=some u->tbulk u<=tbulk t
 |[],t,u,h=>by simp only[atK,aad]at h;subst h;exact aaf _
 | x::q,t,u,h=>by
  simp only[atK]at h;split at h
  ·cases h
  ·split at h
   ·cases h
   ·rename_i y hy;have :=Iz q y u h;have :=aE hy;omega
theorem Pm(t:Tree)(q:YI)(ht:tbulk t<=1000000000)(J:q.length<=1000000000):oD t q ((atK t q).getD<|.node 0 [] [] []) (atK t q).isSome:=by
 refine KR 0 _ _ _ _ ⟨_,_,QC t q J,λh=>?_,λh=>?_⟩
 ·cases G:atK t q with
  |none=>exact⟨rfl,rfl⟩
  |some u=>rw[G]at h;cases h
 ·cases G:atK t q with
  |none=>rw[G]at h;cases h
  |some u=>exact⟨u,MP u<|aaw (Iz q t u G) ht,rfl,rfl⟩
theorem AE(x:Cx):∀(a b:YT) (d:Nat) (s:Sv),gp x (a++b) d s=gp x b (d+a.length) (gp x a d s)
 |[],b,d,s=>rfl
 |f::r,b,d,s=>by
  simp only[aav,gp,aac];rw[AE x r b<|d+1,show d+1+r.length=d+(r.length+1) by omega]
theorem Ao(x:Cx):∀(a b:YT) (m:Nat) (s:Sv),gc x (a++b) m s=gc x b (m+a.length) (gc x a m s)
 |[],b,m,s=>rfl
 |t::r,b,m,s=>by
  simp only[aav,gc,aac];rw[Ao x r b<|m+1,show m+1+r.length=m+(r.length+1) by omega]
theorem yS{B:Int×Int}(x:Cx):∀(l:YT) (d:Nat) (s:Sv),(∀i,i<l.length->Off (x.go ((d+i:Nat):Int)))->FoB B s->FoB B (gp x l d s)
 |[],d,s,_,hs=>hs
 |f::r,d,s,G,hs=>yS x r (d+1) _ (λi hi=>by have :=G (i+1) (by simp;omega);rw[show d+1+i=d+(i+1) by omega];exact this) (Qj x d f s hs (by simpa using G 0 (by simp)))
theorem Bz{B:Int×Int}(x:Cx):∀(l:YT) (m:Nat) (s:Sv),(∀i,i<l.length->((m+i:Nat):Int)≠x.wm)->FoB B s->FoB B (gc x l m s)
 |[],m,s,_,hs=>hs
 |t::r,m,s,G,hs=>Bz x r (m+1) _ (λi hi=>by
  have :=G (i+1) (by simp;omega);rw[show m+1+i=m+(i+1) by omega];exact this) (yS (x.md (m:Int)) t.kids 0 s (λi hi b hb h=>by
  have :=G 0 (by simp);exact this h.1) hs)
def c00(p:YT)(m:Int):CHr:=⟨p,m,[],[],false,0,[],[],[]⟩
theorem TJ{x:Cx}{root:Tree}(G:x.mo=(m:Int))(O:x.p[m]?=some root)(U:bk x.p=true)(hb:kbulk x.p<=10000000)(J:x.sg=sgM x.p x.p 0 []){w:YI}:RX x {c00 x.p m with Want:=w}:=
 ⟨rfl,G.symm,U,hb,by omega,by have :=(List.getElem?_eq_some_iff.1 O).1;omega,J⟩
theorem TR{root:Tree}(k1:root.kind=1):∀q u,(q,u)∈nodK root []->u.kind=17->q≠([]:YI):=λq u O J e=>by
 have G:=nodK_at root root [] rfl (q,u) O;simp only at G;rw[e]at G;have :root=u:=by simpa[atK]using G
 rw[<-this,k1]at J;cases J
theorem OD{x:Cx}{d:Nat}{root f:Tree}{s:Sv}{rest:List ay}(G:x.mo=(m:Int))(U:x.pa=[])(O:x.p[m]?=some root)(hf:root.kids[d]?=some f)(hp:bk x.p=true)(hb:kbulk x.p<=10000000)(J:x.sg=sgM x.p x.p 0 [])
  (hq:s.tg=aY x.p x.mo (nodK f [(d:Int)])++rest) (Z:s.fa.length+5*tbulk f+1<=800000000):(lf x d f s).tg=rest∧(lf x d f s).fa.length<=s.fa.length+5*tbulk f:=by
 obtain⟨hok,h23⟩:=IB hp m root d f O hf;have hX:=TJ (w:=[]) G O hp hb J;by_cases h2:f.kind=2
 ·have hg:=yn (P:=x.p) (key:=((m:Int),(d:Int))) x.p 0 m d [] root f O hf h2 (by simp);rw[Nat.zero_add]at hg;have e:lf x d f s=funS (x.go (d:Int)) f (dZ x.p x.mo f) s:=by
   unfold lf;rw[if_pos h2,G,J,hg];rfl
  rw[e];obtain⟨n,rt,c1,y,c2,dd,hn,hrt,g1,g2,g3,g4,g5,g6,g7,g8⟩:=Ql hX G U O hf h2 hok.s hq (TR (eK hp O).1) (by simp[c00]) Z (by rw[J];exact Pd hb);exact⟨g6,g7⟩
 ·obtain⟨b,hkb,hb'⟩:=hok.a h2;have e:lf x d f s=yW (x.go (d:Int)) d f s:=by unfold lf;rw[if_neg h2]
  rw[e];obtain⟨c1,g1,g2,g3,g4,g5⟩:=Qi hX G U O hf (by omega) hkb hb' hq (by simp[c00]) Z;exact⟨g3,g4⟩
theorem Cc{x:Cx}{m:Nat}{root:Tree}{s:Sv}{rest:List ay}(hmo:x.mo=(m:Int))(hpa:x.pa=[])(hm:x.p[m]?=some root)(hp:bk x.p=true)(hb:kbulk x.p<=10000000)(hsg:x.sg=sgM x.p x.p 0 [])(hq:s.tg=aY x.p x.mo (nodKs root.kids [] 0)++rest)(hfa:s.fa.length+5*kbulk root.kids+1<=800000000):∀d,d<=root.kids.length->
  (gp x (root.kids.take d) 0 s).tg=aY x.p x.mo (nodKs (root.kids.drop d) [] d)++rest∧(gp x (root.kids.take d) 0 s).fa.length+5*kbulk (root.kids.drop d)<=s.fa.length+5*kbulk root.kids
 |0,_=>⟨by simpa[gp]using hq,by simp[gp]⟩
 | d+1,h=>by
  obtain⟨i1,i2⟩:=Cc hmo hpa hm hp hb hsg hq hfa d (by omega);obtain⟨f,hf⟩:∃f,root.kids[d]?=some f:=⟨_,fV<|by omega⟩;rw[aK hf]at i1 i2;simp only[kbulk]at i2;have hq1:(gp x (root.kids.take d) 0 s).tg=aY x.p x.mo (nodK f [(d:Int)])++(aY x.p x.mo (nodKs (root.kids.drop<|d+1) []<|d+1)++rest):=by rw[i1,nodKs,oA,aaj];rfl
  obtain⟨j1,j2⟩:=OD hmo hpa hm hf hp hb hsg hq1 (by omega);have e:root.kids.take (d+1)=root.kids.take d++[f]:=by rw[List.take_add_one,hf];rfl
  rw[e,AE];have hl:0+(root.kids.take d).length=d:=by simp;omega
  rw[hl];exact⟨j1,by show(lf x d f _).fa.length+_<=_;omega⟩
theorem Hn{p:YT}(hp:bk p=true)(hb:kbulk p<=10000000)(nm:List<|(Int×YB)×ac)(wm:Int)(wp:YI):∀m,m<=p.length->
  (gc (cxN p nm wm wp) (p.take m) 0 ⟨bL p,[],0,0⟩).tg=iv p m (p.drop m)∧(gc (cxN p nm wm wp) (p.take m) 0 ⟨bL p,[],0,0⟩).fa.length+5*kbulk (p.drop m)<=5*kbulk p
 |0,_=>⟨by simp[gc,bL,hp],by simp[gc]⟩
 | m+1,h=>by
  obtain⟨i1,i2⟩:=Hn hp hb nm wm wp m (by omega);obtain⟨t,ht⟩:∃t,p[m]?=some t:=⟨_,List.getElem?_eq_getElem<|by omega⟩;obtain⟨k1,k2⟩:=eK hp ht;have htb:=aQ t;rw[aK ht]at i1 i2;simp only[kbulk]at i2;have hq1:(gc (cxN p nm wm wp) (p.take m) 0 ⟨bL p,[],0,0⟩).tg=aY p (m:Int) (nodKs t.kids [] 0)++iv p (m+1) (p.drop<|m+1):=by rw[i1,iv,dH,aY,show dt t=false by simp[dt,k1]];rfl
  obtain⟨j1,j2⟩:=Cc (x:=(cxN p nm wm wp).md (m:Int)) (m:=m) rfl rfl ht hp hb rfl hq1 (by omega) t.kids.length<|aaf _;rw[List.take_length,List.drop_length]at j1 j2;have e:p.take (m+1)=p.take m++[t]:=by rw[List.take_add_one,ht];rfl
  rw[e,Ao];have hl:0+(p.take m).length=m:=by simp;omega
  rw[hl];exact⟨j1,by simp only[gc];simp[kbulk]at j2;omega⟩
theorem ES:∀(r:YI) (b u:Tree),tyK b->atK b r=some u->tyK u
 |[],b,u,hb,h=>by
  have :b=u:=by simpa[atK]using h
  rw[<-this];exact hb
 | i ::r,b,u,hb,h=>by
  unfold atK at h;split at h
  ·cases h
  ·split at h
   ·cases h
   ·rename_i v hv;rcases nA hb with⟨_,_,w,hw,hwt⟩|⟨_,hk,_⟩
    ·have :v=w:=by
      rw[hw]at hv;rcases hi:i.toNat with _|j
      ·rw[hi]at hv;simpa using hv.symm
      ·rw[hi]at hv;simp at hv
     rw[this]at h;exact ES r w u hwt h
    ·rw[hk]at hv;simp at hv
theorem KQ {t u:Tree} {q:List Int} (k1:t.kind=1) (hs:shapeK t=true) (hat:atK t q=some u) (hu:dT u.kind=true):∃(d n:Nat) (f b:Tree) (r:List Int),q=(d:Int)::((n+1:Nat):Int)::r∧t.kids[d]?=some f∧f.kind=2∧shapeK f=true∧n+2=f.kids.length∧f.kids[n+1]?=some b:=by
 have hk:10<=u.kind∧u.kind<=22∧u.kind≠17:=by simpa[dT]using hu
 have one:∀{a b:Tree} {i:Int} {r:YI},atK a (i::r)=some b->∃(d:Nat) (v:Tree),i=(d:Int)∧a.kids[d]?=some v∧atK v r=some b:=λ{a b i r} h=>by
  unfold atK at h;split at h
  ·cases h
  ·rename_i hi;split at h
   ·cases h
   ·rename_i v hv;exact⟨i.toNat,v,by omega,hv,h⟩
 match q,hat with
 |[],hat=>
  have :t=u:=by simpa[atK]using hat
  rw[<-this]at hk;omega
 | i :: r,hat=>
  obtain⟨d,f,rfl,hf,hat1⟩:=one hat;have hsf:shapeK f=true:=by rw[cc]at hs;simp only[aaa]at hs;exact(dP hs.2 hf).2
  rcases qV k1 hs hf with⟨h2,_⟩|⟨h3,_⟩
  ·obtain⟨s1,s2,s3,s4⟩:=oE hsf h2
   match r,hat1 with
   |[],hat1=>
    have :f=u:=by simpa[atK]using hat1
    rw[<-this]at hk;omega
   | j ::r,hat1=>
    obtain⟨e,v,rfl,hv,hat2⟩:=one hat1;have hlt:=(List.getElem?_eq_some_iff.1 hv).1;by_cases he:e+1=f.kids.length
    ·exact⟨d,e-1,f,v,r,by rw[show((e-1+1:Nat):Int)=(e:Int) by omega],hf,h2,hsf,by omega,by rw[show e-1+1=e by omega];exact hv⟩
    ·exfalso;by_cases he2:e+2=f.kids.length
     ·have :=ES r v u (s3 v (by rw[show f.kids.length-2=e by omega];exact hv)) hat2;have :=this.2;simp[gU]at this;omega
     ·obtain⟨w,w1,w2,w3⟩:=s2 e v hv (by omega)
      match r,hat2 with
      |[],hat2=>
       have :v=u:=by simpa[atK]using hat2
       rw[<-this]at hk;omega
      | j2::r,hat2=>
       obtain⟨e3,z,rfl,hz,hat3⟩:=one hat2;have :z=w:=by
        rw[w2]at hz;rcases e3 with _|e3
        ·simpa using hz.symm
        ·simp at hz
       rw[this]at hat3;have :=(ES r w u w3 hat3).2;simp[gU]at this;omega
  ·exfalso;obtain⟨b,hkb,hb⟩:∃b,f.kids=[b]∧tyK b:=by
    have hp:bk [t]=true:=by simp[bk,k1,hs]
    exact vb (p:=[t]) (i:=0) hp I hf h3
   match r,hat1 with
   |[],hat1=>
    have :f=u:=by simpa[atK]using hat1
    rw[<-this]at hk;omega
   | j::r,hat1=>
    obtain⟨e,v,rfl,hv,hat2⟩:=one hat1;have :v=b:=by
     rw[hkb]at hv;rcases e with _|e
     ·simpa using hv.symm
     ·simp at hv
    rw[this]at hat2;have :=(ES r b u hb hat2).2;simp[gU]at this;omega
theorem MG {x:Cx} {s:Sv} {m d:Nat} {root f:Tree} {rest:List ay} (hmo:x.mo=(m:Int)) (hpa:x.pa=[]) (hm:x.p[m]?=some root) (hd:root.kids[d]?=some f) (hk:f.kind=2) (hs:shapeK f=true) (hKb:kbulk x.p<=10000000) (hsg:∀k g,aI k x.sg=some g->KOk 100000000 g.result)
    (hq:s.tg=aY x.p x.mo (nodK f [(d:Int)])++rest) (hfa:s.fa.length+5*tbulk f+1<=800000000) {n:Nat} (hn:n+2=f.kids.length) {b:Tree} (hb:f.kids[n+1]?=some b):
    ∃ (X:List FE) (rt:Tree),exT b∧(∀k∈f.kids.take n,Cq k)∧X.length<=tbulk f∧Hyp (x.go (d:Int)) (du (f.kids.take n)<|(f.kids.take n).map λk=>tyN x.p x.mo<|cC k 0) {s with tg:=aY x.p x.mo (nodK b [(d:Int),((n+1:Nat):Int)])++rest,fa:=s.fa++X} 100000000 (tbulk b+1) (uN b)∧
      funS (x.go (d:Int)) f (dZ x.p x.mo f) s=funQ (x.go (d:Int)) (n+1) (tyN x.p x.mo rt) (aR (dE<|tbulk f) (x.go (d:Int)) f (n+1) (du (f.kids.take n)<|(f.kids.take n).map λk=>tyN x.p x.mo<|cC k 0) {s with tg:=aY x.p x.mo (nodK b [(d:Int),((n+1:Nat):Int)])++rest,fa:=s.fa++X}):=by
  obtain⟨s1,s2,s3,s4⟩:=oE hs hk;have hkl:=bt f;have hB:=aQ f;obtain⟨r,hr⟩:∃r,f.kids[n]?=some r:=⟨_,List.getElem?_eq_getElem<|by omega⟩;have hrt:=s3 r (by rw[show f.kids.length-2=n by omega];exact hr);have hbx:=s4 b (by rw[show f.kids.length-1=n+1 by omega];exact hb);have hsplit:f.kids=f.kids.take n++[r,b]:=by
    have e1:f.kids.drop n=[r,b]:=by
      rw[aK hr,aK hb,List.drop_of_length_le<|by omega]
    rw[<-e1,aap]
  have hrb:=aE hr;have hbb:=aE hb;have hfb:tbulk f<=10000000:=by have :=bn hm;have :=aE hd;omega
  have hp:∀k∈f.kids.take n,Cq k:=λk hk=>by
    obtain⟨i,hi⟩:=List.mem_iff_getElem?.1 hk;rw[List.getElem?_take]at hi;split at hi
    · obtain⟨v,h1,h2,h3⟩:=s2 i k hi (by omega);exact⟨v,h1,h2,h3⟩
    ·cases hi
  have hxd:(x.go (d:Int)).pa=[(d:Int)]:=by simp[Cx.go,hpa]
  have hnod:nodK f [(d:Int)]=([(d:Int)],f)::(nodKs (f.kids.take n) [(d:Int)] 0++(nodK r [(d:Int),(n:Int)]++nodK b [(d:Int),((n+1:Nat):Int)])):=by
    rw[dH]
    conv=>lhs;rw[hsplit]
    rw[Ap];have :(f.kids.take n).length=n:=by simp;omega
    rw[this,Nat.zero_add];simp[nodKs]
  have hq':s.tg=aY x.p x.mo (nodKs (f.kids.take n) [(d:Int)] 0)++(aY x.p x.mo (nodK r [(d:Int),(n:Int)])++(aY x.p x.mo (nodK b [(d:Int),((n+1:Nat):Int)])++rest)):=by rw[hq,hnod,aY,show dt f=false by simp[dt,hk]];simp[oA]
  obtain⟨X,hXX⟩:∃X,X=bR x.p x.mo (nodKs (f.kids.take n) [(d:Int)] 0):=⟨_,rfl⟩;obtain⟨Y,hYY⟩:∃Y,Y=bR x.p x.mo (nodK r [(d:Int),(n:Int)]):=⟨_,rfl⟩;have hpar:=BT (x.go (d:Int)) (f.kids.take n) 0 s _ hp (by rw[hxd];exact hq');rw[hxd]at hpar;have htyp:=vv (tbulk f) r ((x.go (d:Int)).go (n:Int)) {s with tg:=aY x.p x.mo (nodK r [(d:Int),(n:Int)])++(aY x.p x.mo (nodK b [(d:Int),((n+1:Nat):Int)])++rest),fa:=s.fa++X} (aY x.p x.mo (nodK b [(d:Int),((n+1:Nat):Int)])++rest) (by omega) hrt (by simp[Cx.go,hpa]);have hpr:((x.go (d:Int)).go (n:Int)).pa=[(d:Int),(n:Int)]:=by simp[Cx.go,hpa]
  rw[hpr]at htyp;obtain⟨sB,hsB⟩:∃sB:Sv,sB={s with tg:=aY x.p x.mo (nodK b [(d:Int),((n+1:Nat):Int)])++rest,fa:=s.fa++(X++Y)}:=⟨_,rfl⟩;have hB2:gk (tbulk f) ((x.go (d:Int)).go (n:Int)) r (nG (x.go (d:Int)) (f.kids.take n) 0 s)=sB:=by
    rw[hpar,hsB];refine Eq.trans ?_<|htyp.trans ?_
    ·rw[hXX];rfl
    · rw[hYY];simp[Cx.go]
  have hfree:bR x.p x.mo (nodK f [(d:Int)])=X++Y:=by rw[hnod,Cl (by simp only;omega),kG,kG,wB (tbulk b) b _ (aaf _) hbx,aar,<-hXX,<-hYY]
  have hXY:(X++Y).length<=tbulk f:=by
    rw[<-hfree];exact aaw (ub _ _ _)<|nodK_len f _
  have hU:uN b=(aY x.p x.mo<|nodK b [(d:Int),((n+1:Nat):Int)]).length:=(tgs_uN x.p x.mo b _).symm;have hgs:dZ x.p x.mo f=⟨(f.kids.take n).map λk=>tyN x.p x.mo<|cC k 0,tyN x.p x.mo r⟩:=by unfold dZ;rw[show f.kids.length-2=n by omega,dF hr]
  have hgp:=(Am (p:=x.p) (m:=x.mo) (f:=f) (B:=tbulk f)<|aaf _).2;rw[hgs]at hgp;refine⟨X++Y,r,hbx,hp,hXY,?_,?_⟩
  · exact ⟨by rw[hxd];simp;omega,by simp only[List.length_append]at hXY⊢;omega,by rw[hU];simp,by omega,λc hc=>by
      have :∀(ks:YT) (ps:List Kn),(∀q∈ps,KOk (2*tbulk f+kbulk x.p+2) q)->∀c∈du ks ps,KOk (2*tbulk f+kbulk x.p+2) c.typ:=λks=>by
        induction ks with
        |nil=>intro ps _ c hc;simp[du]at hc
        | cons k r ih=>
          intro ps hps c hc;cases ps with
          |nil=>simp[du]at hc
          | cons q l=>
            simp only[du,aah]at hc;rcases hc with rfl|hc
            ·exact hps q List.mem_cons_self
            ·exact ih l (λq hq=>hps q<|List.mem_cons_of_mem _ hq) c hc
      exact(this _ _ hgp c hc).mono (by omega),hsg⟩
  · unfold funS;rw[hgs,show f.kids.length-1=n+1 by omega,show f.kids.length-2=n by omega,dF hr,hB2,hsB]
theorem RS{p:YT}(hp:bk p=true)(hb:kbulk p<=10000000)(nm:List<|(Int×YB)×ac){u:Tree}{q:YI}(G:p[m]?=some t)(hat:atK t q=some u)(hu:dT u.kind=true):
  ∃(d:Nat) (f:Tree) (r:YI) (y:Ty) (c':CHr),q=(d:Int)::r∧2<=q.length∧t.kids[d]?=some f∧f.kind=2∧eJ ⟨p,(m:Int),[],q,false,0,[],[],[]⟩ (d:Int) y c'∧TyR ⟨(gm p nm (m:Int) q).rs,(gm p nm (m:Int) q).rl⟩ (goT c')∧(gm p nm (m:Int) q).rl<=1000000000:=by
 obtain⟨k1,k2⟩:=eK hp G;obtain⟨d,n,f,b,r,J,hf,O,hsf,hn,hbk⟩:=KQ k1 k2 hat hu;have hmlt:=(List.getElem?_eq_some_iff.1 G).1;have hdlt:=(List.getElem?_eq_some_iff.1 hf).1;have htb:=aQ t;have htk:=bn G;have hfk:=aE hf;obtain⟨a1,a2⟩:=Hn hp hb nm (m:Int) q m (by omega);rw[aK G]at a1 a2;simp only[kbulk]at a2;obtain⟨S0,hS0⟩:∃S0,S0=gc (cxN p nm (m:Int) q) (p.take m) 0 ⟨bL p,[],0,0⟩:=⟨_,rfl⟩;have o0:FoB (0,0) S0:=by
  rw[hS0];exact Bz _ _ 0 _ (λi hi=>by
   have :i<m:=by simp at hi;omega
   show((0+i:Nat):Int)≠(m:Int);omega) ⟨rfl,rfl⟩
 rw[<-hS0]at a1 a2;have a1':S0.tg=aY p (m:Int) (nodKs t.kids [] 0)++iv p (m+1) (p.drop<|m+1):=by rw[a1,iv,dH,aY,show dt t=false by simp[dt,k1]];rfl
 obtain⟨x,hx⟩:∃x,x=(cxN p nm (m:Int) q).md (m:Int):=⟨_,rfl⟩;have xp:x.p=p:=by rw[hx];rfl
 have xm:x.mo=(m:Int):=by rw[hx];rfl
 have xa:x.pa=[]:=by rw[hx];rfl
 have xs:x.sg=sgM x.p x.p 0 []:=by rw[hx];rfl
 have xw:x.wm=(m:Int):=by rw[hx];rfl
 have xq:x.wp=q:=by rw[hx];rfl
 have U:∀e:Nat,e≠d->Off (x.go (e:Int)):=λe he b hb2 h=>by
  have h2:=h.2;rw[show(x.go (e:Int)).wp=x.wp from rfl,xq,J]at h2;have :(x.go (e:Int)).pa=[(e:Int)]:=by simp[Cx.go,xa]
  rw[this]at h2;simp only[aav,aam,List.cons.injEq]at h2;have :=h2.1;omega
 obtain⟨b1,b2⟩:=Cc (x:=x) (s:=S0) (root:=t) (rest:=iv p (m+1)<|p.drop<|m+1) xm xa (by rw[xp];exact G) (by rw[xp];exact hp) (by rw[xp];exact hb) xs (by rw[xp,xm];exact a1') (by omega) d (by omega);obtain⟨Sd,hSd⟩:∃Sd,Sd=gp x (t.kids.take d) 0 S0:=⟨_,rfl⟩;have o1:FoB (0,0) Sd:=by
  rw[hSd];exact yS _ _ 0 _ (λi hi=>by
   have :i<d:=by simp at hi;omega
   rw[Nat.zero_add];exact U i (by omega)) o0
 rw[<-hSd]at b1 b2;rw[aK hf]at b1 b2;simp only[kbulk]at b2;have b1':Sd.tg=aY x.p x.mo (nodK f [(d:Int)])++(aY x.p x.mo (nodKs (t.kids.drop<|d+1) []<|d+1)++iv p (m+1) (p.drop<|m+1)):=by rw[b1,nodKs,oA,aaj];rfl
 obtain⟨X,rt,hbx,hpar,hXl,HY,Z⟩:=MG (x:=x) (s:=Sd) xm xa (by rw[xp];exact G) hf O hsf (by rw[xp];exact hb) (by rw[xs];exact Pd (by rw[xp];exact hb)) b1' (by omega) hn hbk;obtain⟨sB,hsB⟩:∃sB:Sv,sB={Sd with tg:=aY x.p x.mo (nodK b [(d:Int),((n+1:Nat):Int)])++(aY x.p x.mo (nodKs (t.kids.drop<|d+1) []<|d+1)++iv p (m+1) (p.drop<|m+1)),fa:=Sd.fa++X}:=⟨_,rfl⟩;rw[<-hsB]at HY Z;have oB:sB.rs=0∧sB.rl=0:=by rw[hsB];exact o1
 have hRX:RX x ⟨p,(m:Int),[],q,false,0,[],[],[]⟩:=⟨xp.symm,xm.symm,by rw[xp];exact hp,by rw[xp];exact hb,by rw[xm];omega,by rw[xm,xp];omega,xs⟩;have hatb:atK t [(d:Int),((n+1:Nat):Int)]=some b:=by have :=AN t [(d:Int)] [((n+1:Nat):Int)];rw[vl hf]at this;simp only[aav,aam,Option.bind_some]at this;rw[this];exact vl hbk
 obtain⟨y,c',g1,g2,g3⟩:=Gz hRX xm xa (by rw[xp];exact G) hf hn hbk hbx hpar HY ⟨_,by rw[hsB]⟩ (λq' u' h1 h17 e=>by
  have h2:=nodK_at t b _ hatb (q',u') h1;simp only at h2 e;rw[e,hat]at h2;injection h2 with h2
  rw[<-h2]at h17;rw[h17]at hu;exact absurd hu (by decide)) (by simp)
 have hG0:GR x sB ⟨p,(m:Int),[],q,false,0,[],[],[]⟩:=.inr ⟨xq.symm,xm.trans xw.symm,.inl ⟨oB.1,rfl⟩,by rw[oB.2];decide⟩;have hW:c'.Want=q:=g3.W;have hT:TyR ⟨(aR (dE<|tbulk f) (x.go (d:Int)) f (n+1) (du (f.kids.take n)<|(f.kids.take n).map λk=>tyN x.p x.mo<|cC k 0) sB).2.rs,(aR (dE<|tbulk f) (x.go (d:Int)) f (n+1) (du (f.kids.take n)<|(f.kids.take n).map λk=>tyN x.p x.mo<|cC k 0) sB).2.rl⟩ (goT c')∧(aR (dE<|tbulk f) (x.go (d:Int)) f (n+1) (du (f.kids.take n)<|(f.kids.take n).map λk=>tyN x.p x.mo<|cC k 0) sB).2.rl<=1000000000:=by
  rcases g3.g hG0 with h|⟨_,_,h⟩
  ·rw[hW,J]at h;cases h
  ·exact h
 refine⟨d,f,_,y,c',J,by rw[J];simp,hf,O,g1,?_⟩;have hrun:gm p nm (m:Int) q=gc (cxN p nm (m:Int) q) (p.drop<|m+1) (m+1) (gp x (t.kids.drop<|d+1) (d+1)<|lf x d f Sd):=by
  have e1:p=p.take m++t::p.drop (m+1):=by rw[<-aK G,aap]
  have e2:t.kids=t.kids.take d++f::t.kids.drop (d+1):=by rw[<-aK hf,aap]
  unfold gm
  conv=>lhs;arg 2;rw[e1]
  rw[Ao,<-hS0];have hl:0+(p.take m).length=m:=by simp;omega
  rw[hl,gc,<-hx]
  conv=>lhs;arg 4;arg 2;rw[e2]
  rw[AE,<-hSd];have hl2:0+(t.kids.take d).length=d:=by simp;omega
  rw[hl2,gp]
 have hdef:lf x d f Sd=funS (x.go (d:Int)) f (dZ x.p x.mo f) Sd:=by have hg:=yn (P:=x.p) (key:=((m:Int),(d:Int))) x.p 0 m d [] t f (by rw[xp];exact G) hf O (by simp);rw[Nat.zero_add]at hg;unfold lf;rw[if_pos O,xm,xs,hg];rfl
 rw[hrun,hdef,Z];generalize aR (dE<|tbulk f) (x.go (d:Int)) f (n+1) (du (f.kids.take n)<|(f.kids.take n).map λk=>tyN x.p x.mo<|cC k 0) sB=w at hT⊢;obtain⟨k,sC⟩:=w;have o2:FoB (sC.rs,sC.rl) (funQ (x.go (d:Int)) (n+1) (tyN x.p x.mo rt) (k,sC)):=by
  unfold funQ;simp only[];split
  ·exact⟨I,I⟩
  ·exact⟨I,I⟩
 have o3:=yS x (t.kids.drop (d+1)) (d+1) _ (λi hi=>U (d+1+i) (by omega)) o2;have o4:=Bz (cxN p nm (m:Int) q) (p.drop (m+1)) (m+1) _ (λi hi=>by show((m+1+i:Nat):Int)≠(m:Int);omega) o3
 rw[o4.1,o4.2];exact hT
theorem Tt{p:YT}(J:bk p=true)(hb:kbulk p<=10000000){q:YI}{u:Tree}(O:p[m]?=some t)(G:oD t q u true)(hu:dT u.kind=true):∃nm,(∀n:Nat,(gm p nm (m:Int) q).rl=(n:Int)->n<=1000000000->jy p ⟨(m:Int),q⟩ (ofN<|gm p nm (m:Int) q).1 (ofN<|gm p nm (m:Int) q).2)∧((gm p nm (m:Int) q).rs=0->jy p ⟨(m:Int),q⟩ (.node 0 [] [] []) 20):=by
 obtain⟨nm,h1,h2⟩:=vP J hb;obtain⟨_,z,Z⟩:=JX J hb nm (m:Int) q;have hk:10<=u.kind∧u.kind<=22∧u.kind≠17:=by simpa[dT]using hu
 have hlt:m<p.length:=(List.getElem?_eq_some_iff.1 O).1;refine⟨nm,λn hn U=>?_,λh0=>?_⟩
 ·refine jO (n+2) _ _ _ _ (⟨_,sv p (by omega),λh=>(by rw[J]at h;cases h),λ_=>⟨λh=>absurd h (by simp),λ_=>⟨λh=>absurd h (by simp only;omega),λ_=>⟨m,rfl,t,O,u,true,G,?_⟩⟩⟩⟩);refine qx (n+1) _ _ _ _ _ _ (⟨λh=>(by cases h),λ_=>⟨λh=>absurd h (by omega),λ_=>⟨λh=>absurd h (by omega),λ_=>⟨λh=>absurd h hk.2.2,λ_=>⟨_,h2,_,Z,λh=>?_,λh=>?_⟩⟩⟩⟩⟩)
  ·have h':(gm p nm (m:Int) q).rs=0:=h;unfold ofN;rw[if_pos h'];exact⟨rfl,rfl⟩
  ·have h':¬(gm p nm (m:Int) q).rs=0:=h;unfold ofN;rw[if_neg h',hn];exact Jy hn U n _ [] 0 (by omega)
 ·refine jO 2 _ _ _ _ (⟨_,sv p (by omega),λh=>(by rw[J]at h;cases h),λ_=>⟨λh=>absurd h (by simp),λ_=>⟨λh=>absurd h (by simp only;omega),λ_=>⟨m,rfl,t,O,u,true,G,?_⟩⟩⟩⟩);exact qx 1 _ _ _ _ _ _ (⟨λh=>(by cases h),λ_=>⟨λh=>absurd h (by omega),λ_=>⟨λh=>absurd h (by omega),λ_=>⟨λh=>absurd h hk.2.2,λ_=>⟨_,h2,_,Z,λ_=>⟨rfl,rfl⟩,λh=>absurd h0 h⟩⟩⟩⟩⟩)
theorem yp:dw (.node 0 [] [] []) (.node 0 [] [] []) true:=by have :=CK (k:=0) (k':=0) (by decide) (by decide) 0 0;simpa[lfT,bY]using this
theorem PH{p:YT}(hb:kbulk p<=10000000)(x:cv)(hx:x.Path.length<=1000000):∃(t:Tree) (e:Int) (t':Tree),jy p x t e∧jQ p x t' e∧dw t t' true:=by
 obtain⟨M,q⟩:=x;simp only at hx;have h8:=sv p (by omega);have hR:=Jz p (by omega);cases hp:bk p
 ·rw[hp]at h8 hR;exact⟨_,5,_,jO 0 _ _ _ _ (⟨false,h8,λ_=>⟨rfl,rfl⟩,λh=>(by cases h)⟩),jb 0 _ _ _ _ (⟨false,hR,λ_=>⟨rfl,rfl⟩,λh=>(by cases h)⟩),yp⟩
 rw[hp]at h8 hR;by_cases h0:M<0
 ·exact⟨_,5,_,jO 0 _ _ _ _ (⟨true,h8,λh=>(by cases h),λ_=>⟨λ_=>⟨rfl,rfl⟩,λh=>absurd h0 h⟩⟩),jb 0 _ _ _ _ (⟨true,hR,λh=>(by cases h),λ_=>⟨λ_=>⟨rfl,rfl⟩,λh=>absurd h0 h⟩⟩),yp⟩
 by_cases h1:((p.length:Nat):Int)<=M
 ·exact⟨_,5,_,jO 0 _ _ _ _ (⟨true,h8,λh=>(by cases h),λ_=>⟨λh=>absurd h h0,λ_=>⟨λ_=>⟨rfl,rfl⟩,λh=>absurd h1 h⟩⟩⟩),jb 0 _ _ _ _ (⟨true,hR,λh=>(by cases h),λ_=>⟨λh=>absurd h h0,λ_=>⟨λ_=>⟨rfl,rfl⟩,λh=>absurd h1 h⟩⟩⟩),yp⟩
 obtain⟨m,rfl⟩:∃m:Nat,M=(m:Int):=⟨M.toNat,by omega⟩;obtain⟨t,ht⟩:∃t,p[m]?=some t:=⟨_,List.getElem?_eq_getElem<|by omega⟩;have htb:=bn ht;have A1:=Pm t q (by omega) (by omega);have A2:=SY t q (by omega);have bad:∀(u:Tree) (b:Bool),oD t q u b->jM t q u b->(b=true->dT u.kind=false)->∃(t:Tree) (e:Int) (t':Tree),jy p ⟨(m:Int),q⟩ t e∧jQ p ⟨(m:Int),q⟩ t' e∧dw t t' true:=λu b g1 g2 g3=>by
  refine⟨_,5,_,jO 1 _ _ _ _ (⟨true,h8,λh=>(by cases h),λ_=>⟨λh=>absurd h h0,λ_=>⟨λh=>absurd h h1,λ_=>⟨m,rfl,t,ht,u,b,g1,?_⟩⟩⟩⟩),jb 1 _ _ _ _ (⟨true,hR,λh=>(by cases h),λ_=>⟨λh=>absurd h h0,λ_=>⟨λh=>absurd h h1,λ_=>⟨m,rfl,t,ht,u,b,g2,?_⟩⟩⟩⟩),yp⟩
  ·refine qx 0 _ _ _ _ _ _<|⟨λ_=>⟨I,I⟩,λhb=>⟨λ_=>⟨I,I⟩,λk1=>⟨λ_=>⟨I,I⟩,λk2=>⟨λ_=>⟨I,I⟩,λk3=>?_⟩⟩⟩⟩;exfalso;have :=g3 hb;simp[dT]at this;omega
  ·refine tU 0 _ _ _ _ _ _<|⟨λ_=>⟨I,I⟩,λhb=>⟨_,wP _,λ_=>⟨I,I⟩,λk=>?_⟩⟩;rw[g3 hb]at k;cases k
 cases hat:atK t q with
 |none=>
  rw[hat]at A1 A2;exact bad _ false A1 A2 (λh=>(by cases h))
 | some u=>
  rw[hat]at A1 A2;by_cases hu:dT u.kind=true
  ·obtain⟨nm,n2,n3⟩:=Tt hp hb ht A1 hu;obtain⟨d,f,r,y,c',e1,e2,e3,e4,e5,e6,e7⟩:=RS hp hb nm ht hat hu;have hIs:=wP u.kind;rw[hu]at hIs;have ref:∀(r0:Tree) (r1:Int),(c'.Got_Known=false->(Tree.node 0 [] [] [])=r0∧20=r1)->(c'.Got_Known=true->(Tree.node c'.Got_T_Kind c'.Got_T_Text c'.Got_T_Leads c'.Got_T_Kids)=r0∧0=r1)->jQ p ⟨(m:Int),q⟩ r0 r1:=λr0 r1 z1 z2=>by
    have hq0:q[0]?=some (d:Int):=by rw[e1];rfl
    exact jb 1 _ _ _ _ (⟨true,hR,λh=>(by cases h),λ_=>⟨λh=>absurd h h0,λ_=>⟨λh=>absurd h h1,λ_=>⟨m,rfl,t,ht,u,true,A2,tU 0 _ _ _ _ _ _<|⟨λh=>(by cases h),λ_=>⟨true,hIs,λh=>(by cases h),λ_=>⟨λh=>absurd h (by simp only;omega),λ_=>⟨m,rfl,t,ht,(d:Int),hq0,d,rfl,f,e3,λh=>absurd e4 h,λ_=>⟨(d:Int),hq0,y,c',e5,z1,z2⟩⟩⟩⟩⟩⟩⟩⟩⟩)
   rcases e6 with⟨z1,z2⟩|⟨z1,z2,z3,n,z4,z5⟩
   ·exact⟨_,20,_,n3 z1,ref _ 20 (λ_=>⟨I,I⟩) (λh=>by have h':(goT c').Known=true:=h;rw[z2]at h';cases h'),yp⟩
   ·have hz:¬(gm p nm (m:Int) q).rs=0:=by simp only at z2;omega
    have h3:=n2 n z4 (by simp only at z4;omega);have eo:ofN (gm p nm (m:Int) q)=(lfT (gm p nm (m:Int) q).rs n,0):=by unfold ofN;simp only at z4;rw[if_neg hz,z4,Int.toNat_natCast];rfl
    rw[eo]at h3;have hs:=CK (k:=(gm p nm (m:Int) q).rs) (k':=(gm p nm (m:Int) q).rs) (by simp only at z2 z3;omega) (by simp only at z2 z3;omega) n n;rw[decide_eq_true ⟨rfl,rfl⟩]at hs;exact⟨_,0,_,h3,ref _ 0 (λh=>by have h':(goT c').Known=false:=h;rw[z1]at h';cases h') (λ_=>⟨z5,rfl⟩),hs⟩
  ·exact bad u true A1 A2 (λ_=>by simpa using hu)
structure aa where
 Lead:(List UInt8)
 Text:(List UInt8)
abbrev aa.c(x:aa):List V:=[.str x.Lead,.str x.Text]
abbrev aa.w(x:aa):V:=.agg x.c
abbrev vD(a0:YI)(a1:Int):Ob:=.var 118 [.row 1 (List.map (V.int .i64) a0),.int .i64 a1]
theorem vI(σ:YN)(l):renL σ (List.map aa.w l)=List.map aa.w l:=lQ σ aa.w (λ_=>rfl) l
def nj(G:YB)(p1 J:Bool):Prop:=qS 152 [.str G,.bool p1]<|.bool J
def sU(G p1:YB)(J:Bool):Prop:=qS 114 [.str G,.str p1]<|.bool J
def qZ(G p1 J:Int):Prop:=qS 69 [qi G,qi p1]<|qi J
def uI(G b:YI)(a:Int):Prop:=bv [] prog 41 [.row 1<|List.map (V.int .i64) G] ⟨0,[]⟩<|z8 (.ptr 0 0) ⟨1,[(0,vD b a)]⟩
def oR(G:YI)(J:Bool):Prop:=qS 16 [.row 1<|List.map (V.int .i64) G]<|.bool J
def bI(c:YI)(a:Int)(p1:(List YB))(G:YB)(d:YI)(b:Int):Prop:=bv [] prog 108 [.ptr 0 0,.row 1<|List.map V.str p1] ⟨1,[(0,vD c a)]⟩<|z8 (.str G) ⟨1,[(0,vD d b)]⟩
def dx(c:YI)(a p1:Int)(G:Tree)(d:YI)(b:Int):Prop:=bv [] prog 109 [.ptr 0 0,qi p1] ⟨1,[(0,vD c a)]⟩<|z8 (.agg<|ak G) ⟨2,[(0,vD d b)]⟩
def gK(c:YI)(a p1:Int)(G:Tree)(d:YI)(b:Int):Prop:=bv [] prog 149 [.ptr 0 0,qi p1] ⟨1,[(0,vD c a)]⟩<|z8 (.agg<|ak G) ⟨2,[(0,vD d b)]⟩
def ba(c:YI)(a p1:Int)(G:Tree)(d:YI)(b:Int):Prop:=bv [] prog 110 [.ptr 0 0,qi p1] ⟨1,[(0,vD c a)]⟩<|z8 (.agg<|ak G) ⟨2,[(0,vD d b)]⟩
def rc(c:YI)(a:Int)(G:Tree)(d:YI)(b:Int):Prop:=bv [] prog 70 [.ptr 0 0] ⟨1,[(0,vD c a)]⟩<|z8 (.agg<|ak G) ⟨2,[(0,vD d b)]⟩
def kM(c:YI)(a:Int)(p1 G:Tree)(d:YI)(b:Int):Prop:=bv [] prog 72 [.ptr 0 0,.agg<|ak p1] ⟨1,[(0,vD c a)]⟩<|z8 (.agg<|ak G) ⟨2,[(0,vD d b)]⟩
def nI(c:YI)(a:Int)(p1:YB)(G:Tree)(d:YI)(b:Int):Prop:=bv [] prog 43 [.ptr 0 0,.str p1] ⟨1,[(0,vD c a)]⟩<|z8 (.agg<|ak G) ⟨2,[(0,vD d b)]⟩
def mM(G:YI)(J:YT):Prop:=qS 17 [.row 1<|List.map (V.int .i64) G]<|.row 4<|kidsV J
def aP(c:YI)(a p1 G:Int)(d:YI)(b:Int):Prop:=bv [] prog 42 [.ptr 0 0,qi p1] ⟨1,[(0,vD c a)]⟩<|z8 (qi G) ⟨1,[(0,vD d b)]⟩
def mG(G:Int)(J:(List YB)):Prop:=bv [] prog 150 [qi G] ⟨0,[]⟩<|z8 (.sl 0) ⟨1,[(0,.row 9 1<|List.map V.str J)]⟩
def mW(G:Tree)(p1:Int)(p2 J:YB):Prop:=qS 151 [.agg<|ak G,qi p1,.str p2]<|.str J
def iH(G:Tree)(p1:YB)(J:Tree):Prop:=qS 111 [.agg<|ak G,.str p1]<|.agg<|ak J
def mv(G J:Tree):Prop:=qS 71 [.agg<|ak G]<|.agg<|ak J
def ia(G:Tree)(J:Bool):Prop:=qS 44 [.agg<|ak G]<|.bool J
def hV(G:Tree)(J:Bool):Prop:=qS 73 [.agg<|ak G]<|.bool J
def kp(G:Tree)(J:Bool):Prop:=qS 112 [.agg<|ak G]<|.bool J
def jl(G:Tree)(J:Bool):Prop:=qS 74 [.agg<|ak G]<|.bool J
def kr(G:Tree)(J:Int):Prop:=qS 75 [.agg<|ak G]<|qi J
def nK(G:Tree)(J:YB):Prop:=qS 76 [.agg<|ak G]<|.str J
def rZ(G:Tree)(J:List aa):Prop:=qS 113 [.agg<|ak G]<|.row 2<|List.map aa.w J
def aw(G:List aa)(p1:Tree)(J:List aa):Prop:=bv [] prog 153 [.sl 0,.agg<|ak p1] ⟨1,[(0,.row 164 2<|List.map aa.w G)]⟩<|z8 (.sl 1) ⟨2,[(1,.row 164 2<|List.map aa.w J)]⟩
def gI(G:List aa)(p1:Tree)(p2 p3 J:Int)(O:List aa):Prop:=bv [] prog 176 [.sl 0,.agg<|ak p1,qi p2,qi p3,qi J] ⟨1,[(0,.row 164 2<|List.map aa.w G)]⟩<|z8 (.sl 1) ⟨2,[(1,.row 164 2<|List.map aa.w O)]⟩
def au(G:Tree)(p1:Int)(J:YB):Prop:=qS 175 [.agg<|ak G,qi p1]<|.str J
theorem uL(m:Nat)(G p1 J:Int)(h:p1≠0∧(((Int.tmod G p1)<0)->InI ((Int.tmod G p1)+p1)∧((Int.tmod G p1)+p1)=J)∧((¬(Int.tmod G p1)<0)->(Int.tmod G p1)=J)):qZ G p1 J:=by
 refine⟨I,I,?_⟩;refine qA 14 [] func69 λK O=>?_;refine gR 9 I ?_;obtain⟨hb,h⟩:=h;refine gY (Uj rfl rfl hb) rfl rfl<|gR 10 rfl<|qBd 9 rfl rfl rfl h ?_ ?_<;>intro h;refine gR 4 I ?_;obtain⟨hb,h⟩:=h;refine gR 1 I<|gV 12 (qi<|(Int.tmod G p1)+p1) I (ao hb I) I<|gR 10 I ?_;subst h;exact qN [.tmp 4];refine gR 10 I ?_;subst h;exact qN [.tmp 4]
theorem Ai(m:Nat)(G b:YI)(a:Int)(h:G.length<=1000000000∧G=b∧0=a):uI G b a:=by
 refine qA 8 [] func41 λK J=>?_;refine gR 9 I ?_;obtain⟨hb,h⟩:=h;refine gDo (.repl 0<|.row 3 1<|List.map (V.int .i64) G) (bx ah I I I I I (aam _) (by rw[aB];exact hb)) (okR I) I I I<|gR 6 I<|gFR 1 I (fi _ (λ_=>I) _) I I ?_;obtain⟨rfl,rfl⟩:=h;exact gE J [] [(2,.ptr 0 0)] [2] [.tmp 2]
theorem zP(m:Nat)(G:YI)(J:Bool)(h:decide ((G.length:Int)<=120)=J):oR G J:=by
 refine⟨I,I,?_⟩;refine qA 6 [] func16 λK O=>?_;refine gR 9 I<|gV 4 (qi (G.length:Int)) I (aN<|aB (V.int .i64) _) I<|gLB 3 I (aB (V.int .i64) _) λa=>gR 5 I ?_;subst h;exact qN [.tmp 2]
theorem AD(m:Nat)(k:YI)(c:Int)(p1:(List YB))(G:YB)(l:YI)(d:Int)(h:∃e g i,aP k c (p1.length:Int) e g i∧∃a,e=((a:Nat):Int)∧∃b,p1[a]?=some b∧b=G∧g=l∧i=d):bI k c p1 G l d:=by
 refine qA 12 [0] func108 λK J=>?_;refine gR 11 I<|gV 8 (qi (p1.length:Int)) I (aN<|aB V.str _) I<|gLB 7 I (aB V.str _) λp=>?_;obtain⟨e,g,i,o,h⟩:=h;refine qC o [0] ?_;obtain⟨a,n,h⟩:=h;refine gV 9 (qi ((a:Nat):Int)) I (aT n) I ?_;obtain⟨b,j,h⟩:=h;refine gY (aF (ax (f:=V.str) j) ah I I I I) I I<|gR 5 I ?_;obtain⟨rfl,rfl,rfl⟩:=h;exact gE J [] [(4,.str b)] [0] [.tmp 4]
def jd(m:Nat)(p1 b:Int)(c:YI)(d:Int)(e:Bool)(G:Tree)(f:YI)(a:Int):Prop:=y5 [0] f109 (z8 (.agg<|ak G) ⟨2,[(0,vD f a)]⟩) (cB<|xE<|cB<|aj f109) [.blk 0,.seq<|xA<|aj f109] 32 [(0,.ptr 0 0),(1,qi p1),(4,.ptr 1 0),(6,qi b),(7,.bool e)] ⟨2,[(1,vE 0 []),(0,vD c d)]⟩
theorem lN(m:Nat)(g:YI)(e p1:Int)(J:Tree)(f:YI)(b:Int)(h:∃a c d,aP g e 7 a c d∧q9a a 0 (jd m p1 a c d true J f b) (jd m p1 a c d (a==1) J f b)):dx g e p1 J f b:=by
 refine qA 32 [0] func109 λK G=>?_;refine gR 9 I ?_;obtain⟨a,c,d,i,h⟩:=h;refine qC i [0] ?_;refine gR 10 rfl<|qBeZ 7 8 rfl rfl rfl rfl h ?_ ?_<;>intro h;exact gR 3 I<|qJ G (h K G) [0,1];exact gR 6 I<|qJ G (h K G) [0,1]
theorem bP(m:Nat)(p1 c:Int)(d:YI)(e:Int)(i:Bool)(G:Tree)(f:YI)(a:Int)(h:y8 i ((Tree.node 5 [] [] [])=G∧d=f∧e=a)<|q9a c 2 ((Tree.node 7 [] [] [])=G∧d=f∧e=a)<|q9a c 3 ((Tree.node 6 [] [] [])=G∧d=f∧e=a)<|q9a c 4 (∃g j k,bI d e [[84],[85],[65,46,84],[66,46,85]] g j k∧(Tree.node 9 g [] [])=G∧j=f∧k=a)<|y7 (p1<1) ((Tree.node 5 [] [] [])=G∧d=f∧e=a)<|InI (p1-1)∧∃b l n,dx d e (p1-1) b l n∧(Tree.node 8 [] [] [b])=G∧l=f∧n=a):jd (m+1) p1 c d e i G f a:=by
 intro K J;refine qBi 7 rfl rfl rfl h ?_ ?_<;>intro h;refine gR 10 I ?_;obtain⟨rfl,rfl,rfl⟩:=h;exact gE J [(1,vB ((Tree.node 5 [] [] []).kind) ((Tree.node 5 [] [] []).text) ((Tree.node 5 [] [] []).leads) ((Tree.node 5 [] [] []).kids))] [(4,.ptr 1 0)] [0,1] [.cell 4 29] (hH:=⟨⟨_,I,⟨I,(.cons .rfl (.cons .rfl (.cons (.nil 1) (.cons (.nil 4) .nil))))⟩⟩,⟨⟨_,I,⟨I,aJ.rfl⟩⟩,trivial⟩⟩);refine gR 7 rfl<|qBeZ 11 12 rfl rfl rfl rfl h ?_ ?_<;>intro h;refine gR 10 I ?_;obtain⟨rfl,rfl,rfl⟩:=h;exact gE J [(1,vB ((Tree.node 7 [] [] []).kind) ((Tree.node 7 [] [] []).text) ((Tree.node 7 [] [] []).leads) ((Tree.node 7 [] [] []).kids))] [(4,.ptr 1 0)] [0,1] [.cell 4 29] (hH:=⟨⟨_,I,⟨I,(.cons .rfl (.cons .rfl (.cons (.nil 1) (.cons (.nil 4) .nil))))⟩⟩,⟨⟨_,I,⟨I,aJ.rfl⟩⟩,trivial⟩⟩);refine gR 7 rfl<|qBeZ 14 15 rfl rfl rfl rfl h ?_ ?_<;>intro h;refine gR 10 I ?_;obtain⟨rfl,rfl,rfl⟩:=h;exact gE J [(1,vB ((Tree.node 6 [] [] []).kind) ((Tree.node 6 [] [] []).text) ((Tree.node 6 [] [] []).leads) ((Tree.node 6 [] [] []).kids))] [(4,.ptr 1 0)] [0,1] [.cell 4 29] (hH:=⟨⟨_,I,⟨I,(.cons .rfl (.cons .rfl (.cons (.nil 1) (.cons (.nil 4) .nil))))⟩⟩,⟨⟨_,I,⟨I,aJ.rfl⟩⟩,trivial⟩⟩);refine gR 7 rfl<|qBeZ 17 18 rfl rfl rfl rfl h ?_ ?_<;>intro h;refine gR 5 I<|gFR 2 I I I I ?_;obtain⟨g,j,k,p,h⟩:=h;refine qC p [0] ?_;refine gR 7 I ?_;obtain⟨rfl,rfl,rfl⟩:=h;exact gE J [(1,vB ((Tree.node 9 g [] []).kind) ((Tree.node 9 g [] []).text) ((Tree.node 9 g [] []).leads) ((Tree.node 9 g [] []).kids))] [(4,.ptr 1 0)] [0,1] [.cell 4 29] (hH:=⟨⟨_,I,⟨I,(.cons .rfl (.cons .rfl (.cons (.nil 1) (.cons (.nil 4) .nil))))⟩⟩,⟨⟨_,I,⟨I,aJ.rfl⟩⟩,trivial⟩⟩);refine gR 11 rfl<|qBd 24 rfl rfl rfl h ?_ ?_<;>intro h;refine gR 9 I ?_;obtain⟨rfl,rfl,rfl⟩:=h;exact gE J [(1,vB ((Tree.node 5 [] [] []).kind) ((Tree.node 5 [] [] []).text) ((Tree.node 5 [] [] []).leads) ((Tree.node 5 [] [] []).kids))] [(4,.ptr 1 0)] [0,1] [.cell 4 29] (hH:=⟨⟨_,I,⟨I,(.cons .rfl (.cons .rfl (.cons (.nil 1) (.cons (.nil 4) .nil))))⟩⟩,⟨⟨_,I,⟨I,aJ.rfl⟩⟩,trivial⟩⟩);refine gR 7 I ?_;obtain⟨hb,h⟩:=h;refine gR 1 I<|gV 28 (qi (p1-1)) I (ao hb I) I ?_;obtain⟨b,l,n,o,h⟩:=h;refine qC o [0] ?_;refine gR 1 I<|gHR 4 (kidsV [b]) I (mU b) I<|gR 5 I<|gFR 4 I (dk _) I I ?_;obtain⟨rfl,rfl,rfl⟩:=h;exact gE J [(1,vB ((Tree.node 8 [] [] [b]).kind) ((Tree.node 8 [] [] [b]).text) ((Tree.node 8 [] [] [b]).leads) ((Tree.node 8 [] [] [b]).kids))] [(4,.ptr 1 0)] [0,1] [.cell 4 29] (hH:=⟨⟨_,I,⟨I,(.cons .rfl (.cons .rfl (.cons (.nil 1) (.cons .rfl .nil))))⟩⟩,⟨⟨_,I,⟨I,aJ.rfl⟩⟩,trivial⟩⟩)
theorem ug(m:Nat)(i:YI)(f p1:Int)(G:Tree)(g:YI)(b:Int)(h:∃a c d,ba i f p1 a c d∧∃e,jm a.kind e∧y9 e ((Tree.node 22 [] [] [a])=G∧c=g∧d=b) (a=G∧c=g∧d=b)):gK i f p1 G g b:=by
 refine qA 17 [0] func149 λK J=>?_;refine gR 9 I ?_;obtain⟨a,c,d,j,h⟩:=h;refine qC j [0] ?_;refine gR 9 I ?_;obtain⟨e,k,h⟩:=h;refine qC0 k rfl<|gR 3 rfl<|qBh 12 rfl rfl rfl h bD bC ?_ ?_<;>intro h;refine gR 5 I<|gHR 5 (kidsV [a]) I (mU a) I<|gR 6 I<|gFR 5 I (dk _) I I ?_;obtain⟨rfl,rfl,rfl⟩:=h;exact gE J [(1,vB ((Tree.node 22 [] [] [a]).kind) ((Tree.node 22 [] [] [a]).text) ((Tree.node 22 [] [] [a]).leads)<|(Tree.node 22 [] [] [a]).kids)] [(4,.ptr 1 0)] [0,1] [.cell 4 29] (hH:=⟨⟨_,I,⟨I,(.cons .rfl<|.cons .rfl<|.cons (.nil 1)<|.cons .rfl .nil)⟩⟩,⟨⟨_,I,⟨I,aJ.rfl⟩⟩,trivial⟩⟩);refine gR 10 I ?_;obtain⟨rfl,rfl,rfl⟩:=h;exact gE J [(1,vB a.kind a.text a.leads a.kids)] [(4,.ptr 1 0)] [0,1] [.cell 4 29]
def dv(m:Nat)(p1:Int)(b:YI)(c d:Int)(G:Tree)(e:YI)(a:Int):Prop:=y5 [0] f110 (z8 (.agg<|ak G) ⟨2,[(0,vD e a)]⟩) (xF<|aj f110) [] 168 [(0,.ptr 0 0),(1,qi p1),(4,.ptr 1 0),(5,qi d)] ⟨2,[(1,vE 0 []),(0,vD b c)]⟩
def ou(m:Nat)(p1:Int)(b:YI)(c d:Int)(e:Bool)(G:Tree)(f:YI)(a:Int):Prop:=y5 [0] f110 (z8 (.agg<|ak G) ⟨2,[(0,vD f a)]⟩) (cB<|xE<|xF<|aj f110) [.blk 0,.seq<|xI<|aj f110] 168 [(0,.ptr 0 0),(1,qi p1),(4,.ptr 1 0),(24,qi d),(25,.bool e)] ⟨2,[(1,vE 0 []),(0,vD b c)]⟩
def kI(m:Nat)(p1:Int)(b:YI)(c d:Int)(G:Tree)(e:YI)(a:Int):Prop:=y5 [0] f110 (z8 (.agg<|ak G) ⟨2,[(0,vD e a)]⟩) (xM<|xF<|aj f110) [.blk 0,.seq<|xI<|aj f110] 168 [(0,.ptr 0 0),(1,qi p1),(4,.ptr 1 0),(24,qi d)] ⟨2,[(1,vE 0 []),(0,vD b c)]⟩
def tR(m:Nat)(p1:Int)(b:YI)(c d:Int)(G:Tree)(e:YI)(a:Int):Prop:=y5 [0] f110 (z8 (.agg<|ak G) ⟨2,[(0,vD e a)]⟩) (xC<|xE<|xF<|aj f110) [.blk 0,.seq<|xI<|aj f110] 168 [(0,.ptr 0 0),(1,qi p1),(4,.ptr 1 0),(24,qi d)] ⟨2,[(1,vE 0 []),(0,vD b c)]⟩
def tZ(m:Nat)(p1:Int)(b:YI)(c d:Int)(G:Tree)(e:YI)(a:Int):Prop:=y5 [0] f110 (z8 (.agg<|ak G) ⟨2,[(0,vD e a)]⟩) (xC<|xM<|xF<|aj f110) [.blk 0,.seq<|xI<|aj f110] 168 [(0,.ptr 0 0),(1,qi p1),(4,.ptr 1 0),(24,qi d)] ⟨2,[(1,vE 0 []),(0,vD b c)]⟩
def uk(m:Nat)(p1:Int)(b:YI)(c d:Int)(G:Tree)(e:YI)(a:Int):Prop:=y5 [0] f110 (z8 (.agg<|ak G) ⟨2,[(0,vD e a)]⟩) (xH<|xE<|xF<|aj f110) [.blk 0,.seq<|xI<|aj f110] 168 [(0,.ptr 0 0),(1,qi p1),(4,.ptr 1 0),(24,qi d)] ⟨2,[(1,vE 0 []),(0,vD b c)]⟩
def la(m:Nat)(p1:Int)(b:YI)(c d:Int)(G:Tree)(e:YI)(a:Int):Prop:=y5 [0] f110 (z8 (.agg<|ak G) ⟨2,[(0,vD e a)]⟩) (xH<|xM<|xF<|aj f110) [.blk 0,.seq<|xI<|aj f110] 168 [(0,.ptr 0 0),(1,qi p1),(4,.ptr 1 0),(24,qi d)] ⟨2,[(1,vE 0 []),(0,vD b c)]⟩
def oy(m:Nat)(p1:Int)(b:YI)(c d:Int)(e:Bool)(G:Tree)(f:YI)(a:Int):Prop:=y5 [0] f110 (z8 (.agg<|ak G) ⟨2,[(0,vD f a)]⟩) (cB<|xH<|xM<|xF<|aj f110) [.blk 0,.seq<|xI<|aj f110] 168 [(0,.ptr 0 0),(1,qi p1),(4,.ptr 1 0),(24,qi d),(57,.bool e)] ⟨2,[(1,vE 0 []),(0,vD b c)]⟩
def oW(m:Nat)(p1:Int)(b:YI)(c:Int)(G:Tree)(d:YI)(a:Int):Prop:=y5 [0] f110 (z8 (.agg<|ak G) ⟨2,[(0,vD d a)]⟩) (xJ<|xH<|xM<|xF<|aj f110) [.blk 0,.seq<|xI<|aj f110] 168 [(0,.ptr 0 0),(1,qi p1),(4,.ptr 1 0)] ⟨2,[(1,vE 0 []),(0,vD b c)]⟩
def iE(m:Nat)(p1:Int)(b:YI)(c d:Int)(G:Tree)(e:YI)(a:Int):Prop:=y5 [0] f110 (z8 (.agg<|ak G) ⟨2,[(0,vD e a)]⟩) (xH<|xC<|xE<|xF<|aj f110) [.blk 0,.seq<|xI<|aj f110] 168 [(0,.ptr 0 0),(1,qi p1),(4,.ptr 1 0),(24,qi d)] ⟨2,[(1,vE 0 []),(0,vD b c)]⟩
def kq(m:Nat)(p1:Int)(f:YB)(a:YI)(b:Int)(c:YT)(d:Int)(G:Tree)(g:YI)(e:Int):Prop:=y4 m [0] f110 (z8 (.agg<|ak G) ⟨2,[(0,vD g e)]⟩) (xG<|cB<|xJ<|xH<|xM<|xF<|aj f110) [.blk 1,.seq<|xA<|xJ<|xH<|xM<|xF<|aj f110,.blk 0,.seq<|xI<|aj f110] 168 [(0,.ptr 0 0),(1,qi p1),(4,.ptr 1 0),(6,.ptr 2 0),(7,qi d)] ⟨4,[(3,.row 29 4<|kidsV c),(2,.var 29 [qi 16,.str f,.nils,.sl 3]),(1,vE 0 []),(0,vD a b)]⟩
def kc(m:Nat)(p1:Int)(a:YI)(b:Int)(c:YT)(d:Int)(G:Tree)(f:YI)(e:Int):Prop:=y4 m [0] f110 (z8 (.agg<|ak G) ⟨2,[(0,vD f e)]⟩) (xG<|cB<|xJ<|xH<|xC<|xE<|xF<|aj f110) [.blk 3,.seq<|xA<|xJ<|xH<|xC<|xE<|xF<|aj f110,.blk 0,.seq<|xI<|aj f110] 168 [(0,.ptr 0 0),(1,qi p1),(4,.ptr 1 0),(8,.ptr 2 0),(9,qi d)] ⟨4,[(3,.row 29 4<|kidsV c),(2,.var 29 [qi 18,.str [],.nils,.sl 3]),(1,vE 0 []),(0,vD a b)]⟩
def kf(m:Nat)(p1:Int)(b:YI)(c d:Int)(G:Tree)(e:YI)(a:Int):Prop:=y5 [0] f110 (z8 (.agg<|ak G) ⟨2,[(0,vD e a)]⟩) (xH<|xC<|xM<|xF<|aj f110) [.blk 0,.seq<|xI<|aj f110] 168 [(0,.ptr 0 0),(1,qi p1),(4,.ptr 1 0),(24,qi d)] ⟨2,[(1,vE 0 []),(0,vD b c)]⟩
def sS(m:Nat)(p1:Int)(b:YI)(c:Int)(G:Tree)(d:YI)(a:Int):Prop:=y5 [0] f110 (z8 (.agg<|ak G) ⟨2,[(0,vD d a)]⟩) (xJ<|xH<|xC<|xM<|xF<|aj f110) [.blk 0,.seq<|xI<|aj f110] 168 [(0,.ptr 0 0),(1,qi p1),(4,.ptr 1 0)] ⟨2,[(1,vE 0 []),(0,vD b c)]⟩
def ib(m:Nat)(p1:Int)(b:YI)(c d:Int)(G:Tree)(e:YI)(a:Int):Prop:=y5 [0] f110 (z8 (.agg<|ak G) ⟨2,[(0,vD e a)]⟩) (xN<|xE<|xF<|aj f110) [.blk 0,.seq<|xI<|aj f110] 168 [(0,.ptr 0 0),(1,qi p1),(4,.ptr 1 0),(24,qi d)] ⟨2,[(1,vE 0 []),(0,vD b c)]⟩
def nJ(m:Nat)(p1:Int)(c:YI)(d e:Int)(a:Bool)(G:Tree)(f:YI)(b:Int):Prop:=y5 [0] f110 (z8 (.agg<|ak G) ⟨2,[(0,vD f b)]⟩) (cB<|xN<|xE<|xF<|aj f110) [.blk 0,.seq<|xI<|aj f110] 168 [(0,.ptr 0 0),(1,qi p1),(4,.ptr 1 0),(24,qi e),(118,.bool a)] ⟨2,[(1,vE 0 []),(0,vD c d)]⟩
def nM(m:Nat)(p1:Int)(b:YI)(c:Int)(G:Tree)(d:YI)(a:Int):Prop:=y5 [0] f110 (z8 (.agg<|ak G) ⟨2,[(0,vD d a)]⟩) (xJ<|xN<|xE<|xF<|aj f110) [.blk 0,.seq<|xI<|aj f110] 168 [(0,.ptr 0 0),(1,qi p1),(4,.ptr 1 0)] ⟨2,[(1,vE 0 []),(0,vD b c)]⟩
def ke(m:Nat)(p1:Int)(b:YI)(c d:Int)(G:Tree)(e:YI)(a:Int):Prop:=y5 [0] f110 (z8 (.agg<|ak G) ⟨2,[(0,vD e a)]⟩) (xN<|xM<|xF<|aj f110) [.blk 0,.seq<|xI<|aj f110] 168 [(0,.ptr 0 0),(1,qi p1),(4,.ptr 1 0),(24,qi d)] ⟨2,[(1,vE 0 []),(0,vD b c)]⟩
def sZ(m:Nat)(p1:Int)(b:YI)(c:Int)(G:Tree)(d:YI)(a:Int):Prop:=y5 [0] f110 (z8 (.agg<|ak G) ⟨2,[(0,vD d a)]⟩) (xJ<|xN<|xM<|xF<|aj f110) [.blk 0,.seq<|xI<|aj f110] 168 [(0,.ptr 0 0),(1,qi p1),(4,.ptr 1 0)] ⟨2,[(1,vE 0 []),(0,vD b c)]⟩
theorem ld(m:Nat)(g:YI)(f p1:Int)(J:Tree)(e:YI)(b:Int)(h:∃a c d,aP g f 14 a c d∧y7 (p1<1) (y7 (5<a) (InI (a-6)∧y7 (5<(a-6)) (dv m p1 c d 0 J e b) (dv m p1 c d (a-6) J e b))<|dv m p1 c d a J e b) (dv m p1 c d a J e b)):ba g f p1 J e b:=by
 refine qA 168 [0] func110 λK G=>?_;refine gR 8 I ?_;obtain⟨a,c,d,i,h⟩:=h;refine qC i [0] ?_;refine gR 9 rfl<|qBdZ 16 15 rfl rfl rfl rfl h ?_ ?_<;>intro h;refine gR 5 rfl<|qBd 19 rfl rfl rfl h ?_ ?_<;>intro h;refine gR 4 I ?_;obtain⟨hb,h⟩:=h;refine gR 1 rfl<|gV 21 (qi<|a-6) rfl (ao hb rfl) rfl<|gR 9 rfl<|qBd 23 rfl rfl rfl h ?_ ?_<;>intro h;exact gR 5 I<|qJ G (h K G) [0,1];exact gR 3 I<|qJ G (h K G) [0,1];exact gR 3 I<|qJ G (h K G) [0,1];exact gR 8 I<|qJ G (h K G) [0,1]
theorem rL0_semvcsmake_Expr(m:Nat)(p1:Int)(c:YI)(d a:Int)(J:Tree)(e:YI)(b:Int)(h:q9a a 0 (ou m p1 c d a true J e b)<|ou m p1 c d a (a==1) J e b):dv (m+1) p1 c d a J e b:=by
 intro K G;refine gR 14 rfl<|qBeZ 25 26 rfl rfl rfl rfl h ?_ ?_<;>intro h;exact gR 3 I<|qJ G (h K G) [0,1];exact gR 6 I<|qJ G (h K G) [0,1]
theorem nN(m:Nat)(p1:Int)(c:YI)(d j:Int)(e:Bool)(G:Tree)(f:YI)(b:Int)(h:y8 e (∃a g i,bI c d [[120],[121],[122]] a g i∧(Tree.node 12 a [] [])=G∧g=f∧i=b)<|kI m p1 c d j G f b):ou (m+1) p1 c d j e G f b:=by
 intro K J;refine qBi 25 rfl rfl rfl h ?_ ?_<;>intro h;refine gR 5 I<|gFR 2 I I I I ?_;obtain⟨a,g,i,k,h⟩:=h;refine qC k [0] ?_;refine gR 7 I ?_;obtain⟨rfl,rfl,rfl⟩:=h;exact gE J [(1,vB ((Tree.node 12 a [] []).kind) ((Tree.node 12 a [] []).text) ((Tree.node 12 a [] []).leads) ((Tree.node 12 a [] []).kids))] [(4,.ptr 1 0)] [0,1] [.cell 4 29] (hH:=⟨⟨_,I,⟨I,(.cons .rfl (.cons .rfl (.cons (.nil 1) (.cons (.nil 4) .nil))))⟩⟩,⟨⟨_,I,⟨I,aJ.rfl⟩⟩,trivial⟩⟩);exact gR 1 I<|qJ J (h K J) [0,1]
theorem rL2_semvcsmake_Expr(m:Nat)(p1:Int)(d:YI)(e c:Int)(G:Tree)(f:YI)(b:Int)(h:q9a c 2 (∃a g i,bI d e [[48],[49],[50],[49,48]] a g i∧(Tree.node 10 a [] [])=G∧g=f∧i=b)<|tR m p1 d e c G f b):kI (m+1) p1 d e c G f b:=by
 intro K J;refine gR 6 rfl<|qBeZ 32 33 rfl rfl rfl rfl h ?_ ?_<;>intro h;refine gR 5 I<|gFR 2 I I I I ?_;obtain⟨a,g,i,j,h⟩:=h;refine qC j [0] ?_;refine gR 7 I ?_;obtain⟨rfl,rfl,rfl⟩:=h;exact gE J [(1,vB ((Tree.node 10 a [] []).kind) ((Tree.node 10 a [] []).text) ((Tree.node 10 a [] []).leads) ((Tree.node 10 a [] []).kids))] [(4,.ptr 1 0)] [0,1] [.cell 4 29] (hH:=⟨⟨_,I,⟨I,(.cons .rfl (.cons .rfl (.cons (.nil 1) (.cons (.nil 4) .nil))))⟩⟩,⟨⟨_,I,⟨I,aJ.rfl⟩⟩,trivial⟩⟩);exact gR 1 I<|qJ J (h K J) [0,1]
theorem ic(m:Nat)(p1:Int)(d:YI)(e c:Int)(G:Tree)(f:YI)(b:Int)(h:q9a c 3 (∃a g i,bI d e [[34,34],[34,97,34],[34,35,32,98,34]] a g i∧(Tree.node 11 a [] [])=G∧g=f∧i=b)<|tZ m p1 d e c G f b):tR (m+1) p1 d e c G f b:=by
 intro K J;refine gR 6 rfl<|qBeZ 38 39 rfl rfl rfl rfl h ?_ ?_<;>intro h;refine gR 5 I<|gFR 2 I I I I ?_;obtain⟨a,g,i,j,h⟩:=h;refine qC j [0] ?_;refine gR 7 I ?_;obtain⟨rfl,rfl,rfl⟩:=h;exact gE J [(1,vB ((Tree.node 11 a [] []).kind) ((Tree.node 11 a [] []).text) ((Tree.node 11 a [] []).leads) ((Tree.node 11 a [] []).kids))] [(4,.ptr 1 0)] [0,1] [.cell 4 29] (hH:=⟨⟨_,I,⟨I,(.cons .rfl (.cons .rfl (.cons (.nil 1) (.cons (.nil 4) .nil))))⟩⟩,⟨⟨_,I,⟨I,aJ.rfl⟩⟩,trivial⟩⟩);exact gR 1 I<|qJ J (h K J) [0,1]
theorem km(m:Nat)(p1:Int)(d:YI)(e c:Int)(G:Tree)(f:YI)(b:Int)(h:q9a c 4 (∃a g i,aP d e 2 a g i∧InI (13+a)∧(Tree.node (13+a) [] [] [])=G∧g=f∧i=b)<|uk m p1 d e c G f b):tZ (m+1) p1 d e c G f b:=by
 intro K J;refine gR 6 rfl<|qBeZ 44 45 rfl rfl rfl rfl h ?_ ?_<;>intro h;refine gR 4 I ?_;obtain⟨a,g,i,j,h⟩:=h;refine qC j [0] ?_;obtain⟨hb,h⟩:=h;refine gR 1 I<|gV 48 (qi (13+a)) I (ao hb I) I<|gR 7 I ?_;obtain⟨rfl,rfl,rfl⟩:=h;exact gE J [(1,vB ((Tree.node (13+a) [] [] []).kind) ((Tree.node (13+a) [] [] []).text) ((Tree.node (13+a) [] [] []).leads) ((Tree.node (13+a) [] [] []).kids))] [(4,.ptr 1 0)] [0,1] [.cell 4 29] (hH:=⟨⟨_,I,⟨I,(.cons .rfl (.cons .rfl (.cons (.nil 1) (.cons (.nil 4) .nil))))⟩⟩,⟨⟨_,I,⟨I,aJ.rfl⟩⟩,trivial⟩⟩);exact gR 1 I<|qJ J (h K J) [0,1]
theorem nQ(m:Nat)(p1:Int)(g:YI)(i b:Int)(G:Tree)(c:YI)(a:Int)(h:q9a b 5 (∃d e f,aP g i 3 d e f∧q9a d 0 ((Tree.node 15 [] [] [])=G∧e=c∧f=a) ((Tree.node 10 [51] [] [])=G∧e=c∧f=a))<|la m p1 g i b G c a):uk (m+1) p1 g i b G c a:=by
 intro K J;refine gR 6 rfl<|qBeZ 50 51 rfl rfl rfl rfl h ?_ ?_<;>intro h;refine gR 5 I ?_;obtain⟨d,e,f,j,h⟩:=h;refine qC j [0] ?_;refine gR 3 rfl<|qBe 54 rfl rfl rfl h ?_ ?_<;>intro h;refine gR 11 I ?_;obtain⟨rfl,rfl,rfl⟩:=h;exact gE J [(1,vB ((Tree.node 15 [] [] []).kind) ((Tree.node 15 [] [] []).text) ((Tree.node 15 [] [] []).leads) ((Tree.node 15 [] [] []).kids))] [(4,.ptr 1 0)] [0,1] [.cell 4 29] (hH:=⟨⟨_,I,⟨I,(.cons .rfl (.cons .rfl (.cons (.nil 1) (.cons (.nil 4) .nil))))⟩⟩,⟨⟨_,I,⟨I,aJ.rfl⟩⟩,trivial⟩⟩);refine gR 12 I ?_;obtain⟨rfl,rfl,rfl⟩:=h;exact gE J [(1,vB ((Tree.node 10 [51] [] []).kind) ((Tree.node 10 [51] [] []).text) ((Tree.node 10 [51] [] []).leads) ((Tree.node 10 [51] [] []).kids))] [(4,.ptr 1 0)] [0,1] [.cell 4 29] (hH:=⟨⟨_,I,⟨I,(.cons .rfl (.cons .rfl (.cons (.nil 1) (.cons (.nil 4) .nil))))⟩⟩,⟨⟨_,I,⟨I,aJ.rfl⟩⟩,trivial⟩⟩);exact gR 1 I<|qJ J (h K J) [0,1]
theorem rL6_semvcsmake_Expr(m:Nat)(p1:Int)(c:YI)(d a:Int)(J:Tree)(e:YI)(b:Int)(h:q9a a 6 (oy m p1 c d a true J e b)<|oy m p1 c d a (a==7) J e b):la (m+1) p1 c d a J e b:=by
 intro K G;refine gR 7 rfl<|qBeZ 57 58 rfl rfl rfl rfl h ?_ ?_<;>intro h;exact gR 3 I<|qJ G (h K G) [0,1];exact gR 6 I<|qJ G (h K G) [0,1]
theorem nL(m:Nat)(p1:Int)(b:YI)(c f:Int)(d:Bool)(J:Tree)(e:YI)(a:Int)(h:y8 d (oW m p1 b c J e a)<|iE m p1 b c f J e a):oy (m+1) p1 b c f d J e a:=by
 intro K G;refine qBi 57 rfl rfl rfl h ?_ ?_<;>intro h;exact gR 1 I<|qJ G (h K G) [0,1];exact gR 1 I<|qJ G (h K G) [0,1]
theorem zM(m:Nat)(p1:Int)(i:YI)(j:Int)(r0:Tree)(k:YI)(a:Int)(h:∃b c d,bI i j [[102],[103],[104],[65,46,102],[66,46,103],[65,46,104]] b c d∧∃e f g,aP c d 4 e f g∧kq m p1 b f g ([]:YT) e r0 k a):oW (m+1) p1 i j r0 k a:=by
 intro K hK;refine gR 4 I<|gFR 2 I I I I ?_;obtain⟨b,c,d,l,h⟩:=h;refine qC l [0] ?_;refine gR 9 I ?_;obtain⟨e,f,g,n,h⟩:=h;refine qC n [0] ?_;exact gR 4 I<|go_loop m<|gNC 4 3 29 4 I I I I<|qW hK h [0,1,4,6]
theorem sQ(m:Nat)(p1:Int)(f:YI)(g e:Int)(r0:Tree)(i:YI)(b:Int)(h:q9a e 8 (∃a c d,aP f g 3 a c d∧InI (1+a)∧kc m p1 c d ([]:YT) (1+a) r0 i b)<|kf m p1 f g e r0 i b):iE (m+1) p1 f g e r0 i b:=by
 intro K hK;refine gR 6 rfl<|qXeZ 82 83 rfl rfl rfl rfl h ?_ ?_<;>intro hd h;refine gR 12 I ?_;obtain⟨a,c,d,j,h⟩:=h;refine qC j [0] ?_;obtain⟨hb,h⟩:=h;exact gR 1 I<|gV 87 (qi (1+a)) I (ao hb I) I<|gR 4 I<|go_loop m<|gNC 2 3 29 4 I I I I<|qW hK h [0,1,2,4];exact gR 1 I<|qJ hK (h K hK) [0,1]
theorem sh(m:Nat)(p1:Int)(d:YB)(e:YI)(f:Int)(b:YT)(c:Int)(G:Tree)(k:YI)(g:Int)(h:y7 (0<c) (InI (p1-1)∧∃a i j,ba e f (p1-1) a i j∧(b++[(Tree.node 17 [] [] [a])]).length<=1000000000∧InI (c-1)∧kq m p1 d i j (b++[(Tree.node 17 [] [] [a])]) (c-1) G k g)<|(Tree.node 16 d [] b)=G∧e=k∧f=g):kq (m+1) p1 d e f b c G k g:=by
 refine qj λK O J n=>?_;refine gR 7 rfl<|qXd 67 rfl rfl rfl h ?_ ?_<;>intro U h;refine gR 5 I<|qDs [2] 11 12<|qDr [(0,2),(1,3),(2,2),(3,0)] I I ?_;obtain⟨hb,h⟩:=h;refine qDr [(4,0)] I I<|gV 74 (qi<|p1-1) I (ao hb I) I ?_;obtain⟨a,i,j,l,h⟩:=h;refine qDC 5 l [0] I ?_;refine qDr [(6,0)] I I<|gHR 6 (kidsV [a]) I (mU a) I<|qDr [(7,0)] I I<|gFR 6 I (dk _) I I<|gS 77 (.agg [qi 17,.str [],.row 1 [],.row 4<|kidsV [a]]) I (.agg<|.cons .rfl<|.cons .rfl<|.cons (.nil 1)<|.cons .rfl .nil) I<|qDr [(8,0)] I I<|gHR 7 (kidsV [(Tree.node 17 [] [] [a])]) I (mU<|Tree.node 17 [] [] [a]) I ?_;obtain⟨hb,h⟩:=h;refine bj 9 (.repl 3<|.row 29 4<|kidsV<|b++[(Tree.node 17 [] [] [a])]) I (by kernel_rfl) (bx ah I I I I I (kO b [(Tree.node 17 [] [] [a])]).symm (by rw[aD];exact hb)) (okR I) I (by kernel_rfl) I I ?_;refine qDr [(10,0),(11,1)] I I<|qDe<|gR 4 I ?_;obtain⟨hb,h⟩:=h;exact gR 1 I<|gV 69 (qi<|c-1) I (ao hb I) I<|gR 2 I<|go_xloop<|qW J h [0,1,2,8];refine gR 3 I<|go_xloopE<|gR 11 I<|gFR 3 I (dk _) I I ?_;obtain⟨rfl,rfl,rfl⟩:=h;exact gE J [(1,vB ((Tree.node 16 d [] b).kind) ((Tree.node 16 d [] b).text) ((Tree.node 16 d [] b).leads)<|(Tree.node 16 d [] b).kids)] [(4,.ptr 1 0)] [0,1] [.cell 4 29] (hH:=⟨⟨_,I,⟨I,(.cons .rfl<|.cons .rfl<|.cons (.nil 1)<|.cons .rfl .nil)⟩⟩,⟨⟨_,I,⟨I,aJ.rfl⟩⟩,trivial⟩⟩)
theorem sq(m:Nat)(p1:Int)(d:YI)(e:Int)(a:YT)(c:Int)(G:Tree)(j:YI)(f:Int)(h:y7 (0<c) (InI (p1-1)∧∃b g i,ba d e (p1-1) b g i∧(a++[b]).length<=1000000000∧InI (c-1)∧kc m p1 g i (a++[b]) (c-1) G j f)<|(Tree.node 18 [] [] a)=G∧d=j∧e=f):kc (m+1) p1 d e a c G j f:=by
 refine qj λK O J l=>?_;refine gR 7 rfl<|qXd 89 rfl rfl rfl h ?_ ?_<;>intro U h;refine gR 5 I<|qDs [2] 9 10<|qDr [(0,2),(1,3),(2,2),(3,0)] I I ?_;obtain⟨hb,h⟩:=h;refine qDr [(4,0)] I I<|gV 96 (qi<|p1-1) I (ao hb I) I ?_;obtain⟨b,g,i,k,h⟩:=h;refine qDC 5 k [0] I ?_;refine qDr [(6,0)] I I<|gHR 6 (kidsV [b]) I (mU b) I ?_;obtain⟨hb,h⟩:=h;refine bj 7 (.repl 3<|.row 29 4<|kidsV<|a++[b]) I (by kernel_rfl) (bx ah I I I I I (kO a [b]).symm (by rw[aD];exact hb)) (okR I) I (by kernel_rfl) I I ?_;refine qDr [(8,0),(9,1)] I I<|qDe<|gR 4 I ?_;obtain⟨hb,h⟩:=h;exact gR 1 I<|gV 91 (qi<|c-1) I (ao hb I) I<|gR 2 I<|go_xloop<|qW J h [0,1,2,7];refine gR 3 I<|go_xloopE<|gR 11 I<|gFR 3 I (dk _) I I ?_;obtain⟨rfl,rfl,rfl⟩:=h;exact gE J [(1,vB ((Tree.node 18 [] [] a).kind) ((Tree.node 18 [] [] a).text) ((Tree.node 18 [] [] a).leads)<|(Tree.node 18 [] [] a).kids)] [(4,.ptr 1 0)] [0,1] [.cell 4 29] (hH:=⟨⟨_,I,⟨I,(.cons .rfl<|.cons .rfl<|.cons (.nil 1)<|.cons .rfl .nil)⟩⟩,⟨⟨_,I,⟨I,aJ.rfl⟩⟩,trivial⟩⟩)
theorem sD(m:Nat)(p1:Int)(c:YI)(d b:Int)(J:Tree)(e:YI)(a:Int)(h:q9a b 9 (sS m p1 c d J e a)<|ib m p1 c d b J e a):kf (m+1) p1 c d b J e a:=by
 intro K G;refine gR 6 rfl<|qBeZ 102 103 rfl rfl rfl rfl h ?_ ?_<;>intro h;exact gR 1 I<|qJ G (h K G) [0,1];exact gR 1 I<|qJ G (h K G) [0,1]
theorem zj(m:Nat)(p1:Int)(l:YI)(n:Int)(G:Tree)(o:YI)(k:Int)(h:InI (p1-1)∧∃a d e,ba l n (p1-1) a d e∧InI (p1-1)∧∃b f g,ba d e (p1-1) b f g∧InI (p1-1)∧∃c i j,ba f g (p1-1) c i j∧(Tree.node 19 [] [] [a,b,c])=G∧i=o∧j=k):sS (m+1) p1 l n G o k:=by
 intro K J;refine gR 4 I ?_;obtain⟨hb,h⟩:=h;refine gR 1 I<|gV 106 (qi (p1-1)) I (ao hb I) I ?_;obtain⟨a,d,e,p,h⟩:=h;refine qC p [0] ?_;refine gR 2 I ?_;obtain⟨hb,h⟩:=h;refine gR 1 I<|gV 110 (qi (p1-1)) I (ao hb I) I ?_;obtain⟨b,f,g,q,h⟩:=h;refine qC q [0] ?_;refine gR 2 I ?_;obtain⟨hb,h⟩:=h;refine gR 1 I<|gV 114 (qi (p1-1)) I (ao hb I) I ?_;obtain⟨c,i,j,r,h⟩:=h;refine qC r [0] ?_;refine gR 1 I<|gHR 8 (kidsV [a,b,c]) I (DG [a,b,c]) I<|gR 7 I<|gFR 8 I (dk _) I I ?_;obtain⟨rfl,rfl,rfl⟩:=h;exact gE J [(1,vB ((Tree.node 19 [] [] [a,b,c]).kind) ((Tree.node 19 [] [] [a,b,c]).text) ((Tree.node 19 [] [] [a,b,c]).leads) ((Tree.node 19 [] [] [a,b,c]).kids))] [(4,.ptr 1 0)] [0,1] [.cell 4 29] (hH:=⟨⟨_,I,⟨I,(.cons .rfl (.cons .rfl (.cons (.nil 1) (.cons .rfl .nil))))⟩⟩,⟨⟨_,I,⟨I,aJ.rfl⟩⟩,trivial⟩⟩)
theorem rL14_semvcsmake_Expr(m:Nat)(p1:Int)(c:YI)(d a:Int)(J:Tree)(e:YI)(b:Int)(h:q9a a 10 (nJ m p1 c d a true J e b)<|nJ m p1 c d a (a==11) J e b):ib (m+1) p1 c d a J e b:=by
 intro K G;refine gR 7 rfl<|qBeZ 118 119 rfl rfl rfl rfl h ?_ ?_<;>intro h;exact gR 3 I<|qJ G (h K G) [0,1];exact gR 6 I<|qJ G (h K G) [0,1]
theorem mO(m:Nat)(p1:Int)(c:YI)(d f:Int)(a:Bool)(J:Tree)(e:YI)(b:Int)(h:y8 a (nM m p1 c d J e b)<|ke m p1 c d f J e b):nJ (m+1) p1 c d f a J e b:=by
 intro K G;refine qBi 118 rfl rfl rfl h ?_ ?_<;>intro h;exact gR 1 I<|qJ G (h K G) [0,1];exact gR 1 I<|qJ G (h K G) [0,1]
theorem yV(m:Nat)(p1:Int)(l:YI)(n:Int)(G:Tree)(o:YI)(k:Int)(h:∃c d e,bI l n [[120],[121],[122]] c d e∧InI (p1-1)∧∃a f g,ba d e (p1-1) a f g∧InI (p1-1)∧∃b i j,ba f g (p1-1) b i j∧(Tree.node 20 c [] [a,b])=G∧i=o∧j=k):nM (m+1) p1 l n G o k:=by
 intro K J;refine gR 4 I<|gFR 2 I I I I ?_;obtain⟨c,d,e,p,h⟩:=h;refine qC p [0] ?_;refine gR 2 I ?_;obtain⟨hb,h⟩:=h;refine gR 1 I<|gV 126 (qi (p1-1)) I (ao hb I) I ?_;obtain⟨a,f,g,q,h⟩:=h;refine qC q [0] ?_;refine gR 2 I ?_;obtain⟨hb,h⟩:=h;refine gR 1 I<|gV 130 (qi (p1-1)) I (ao hb I) I ?_;obtain⟨b,i,j,r,h⟩:=h;refine qC r [0] ?_;refine gR 1 I<|gHR 8 (kidsV [a,b]) I (DG [a,b]) I<|gR 7 I<|gFR 8 I (dk _) I I ?_;obtain⟨rfl,rfl,rfl⟩:=h;exact gE J [(1,vB ((Tree.node 20 c [] [a,b]).kind) ((Tree.node 20 c [] [a,b]).text) ((Tree.node 20 c [] [a,b]).leads) ((Tree.node 20 c [] [a,b]).kids))] [(4,.ptr 1 0)] [0,1] [.cell 4 29] (hH:=⟨⟨_,I,⟨I,(.cons .rfl (.cons .rfl (.cons (.nil 1) (.cons .rfl .nil))))⟩⟩,⟨⟨_,I,⟨I,aJ.rfl⟩⟩,trivial⟩⟩)
theorem mR(m:Nat)(p1:Int)(e:YI)(f g:Int)(G:Tree)(i:YI)(b:Int)(h:q9a g 12 (sZ m p1 e f G i b)<|InI (p1-1)∧∃a c d,ba e f (p1-1) a c d∧(Tree.node 22 [] [] [a])=G∧c=i∧d=b):ke (m+1) p1 e f g G i b:=by
 intro K J;refine gR 6 rfl<|qBeZ 134 135 rfl rfl rfl rfl h ?_ ?_<;>intro h;exact gR 1 I<|qJ J (h K J) [0,1];refine gR 8 I ?_;obtain⟨hb,h⟩:=h;refine gR 1 I<|gV 164 (qi (p1-1)) I (ao hb I) I ?_;obtain⟨a,c,d,j,h⟩:=h;refine qC j [0] ?_;refine gR 1 I<|gHR 4 (kidsV [a]) I (mU a) I<|gR 5 I<|gFR 4 I (dk _) I I ?_;obtain⟨rfl,rfl,rfl⟩:=h;exact gE J [(1,vB ((Tree.node 22 [] [] [a]).kind) ((Tree.node 22 [] [] [a]).text) ((Tree.node 22 [] [] [a]).leads) ((Tree.node 22 [] [] [a]).kids))] [(4,.ptr 1 0)] [0,1] [.cell 4 29] (hH:=⟨⟨_,I,⟨I,(.cons .rfl (.cons .rfl (.cons (.nil 1) (.cons .rfl .nil))))⟩⟩,⟨⟨_,I,⟨I,aJ.rfl⟩⟩,trivial⟩⟩)
theorem sy(m:Nat)(p1:Int)(α:YI)(β:Int)(G:Tree)(z:YI)(t:Int)(h:∃d v w,bI α β [[43],[45],[42],[60],[61,61]] d v w∧InI (p1-1)∧∃a x y,gK v w (p1-1) a x y∧∃g i j,aP x y 3 g i j∧q9a g 0 (∃c k l,bI i j [[43],[42]] c k l∧∃b n o,gK k l 0 b n o∧InI (p1-1)∧∃e p q,gK n o (p1-1) e p q∧(Tree.node 21 d [] [(Tree.node 21 c [] [a,b]),e])=G∧p=z∧q=t) (InI (p1-1)∧∃f r s,gK i j (p1-1) f r s∧(Tree.node 21 d [] [a,f])=G∧r=z∧s=t)):sZ (m+1) p1 α β G z t:=by
 intro K J;refine gR 4 I<|gFR 2 I I I I ?_;obtain⟨d,v,w,γ,h⟩:=h;refine qC γ [0] ?_;refine gR 7 I ?_;obtain⟨hb,h⟩:=h;refine gR 1 I<|gV 141 (qi (p1-1)) I (ao hb I) I ?_;obtain⟨a,x,y,δ,h⟩:=h;refine qC δ [0] ?_;refine gR 8 I ?_;obtain⟨g,i,j,ε,h⟩:=h;refine qC ε [0] ?_;refine gR 3 rfl<|qBe 145 rfl rfl rfl h ?_ ?_<;>intro h;refine gR 1 I<|qDs [6] 8 9<|qDr [(0,2),(3,3),(4,2),(1,0)] I I<|gFR 8 I I I I ?_;obtain⟨c,k,l,ζ,h⟩:=h;refine qDC 2 ζ [0] I ?_;obtain⟨b,n,o,η,h⟩:=h;refine qDC 5 η [0] I ?_;refine qDr [(6,0)] I I<|gHR 12 (kidsV [a,b]) I (DG [a,b]) I<|qDr [(7,0),(8,1)] I I<|qDe<|gR 2 I<|qDs [6] 8 9<|qDr [(0,2),(1,3),(2,2),(3,0)] I I ?_;obtain⟨hb,h⟩:=h;refine qDr [(4,0)] I I<|gV 158 (qi (p1-1)) I (ao hb I) I ?_;obtain⟨e,p,q,θ,h⟩:=h;refine qDC 5 θ [0] I ?_;refine gFR 12 I (dk _) I I<|gS 155 (.agg [qi 21,.str c,.row 1 [],.row 4 (kidsV [a,b])]) I (.agg (.cons .rfl (.cons .rfl (.cons (.nil 1) (.cons .rfl .nil))))) I<|qDr [(6,0)] I I<|gHR 15 (kidsV [(Tree.node 21 c [] [a,b]),e]) I (DG [(Tree.node 21 c [] [a,b]),e]) I<|qDr [(7,0),(8,1)] I I<|qDe<|gR 4 I<|gFR 15 I (dk _) I I ?_;obtain⟨rfl,rfl,rfl⟩:=h;exact gE J [(1,vB ((Tree.node 21 d [] [(Tree.node 21 c [] [a,b]),e]).kind) ((Tree.node 21 d [] [(Tree.node 21 c [] [a,b]),e]).text) ((Tree.node 21 d [] [(Tree.node 21 c [] [a,b]),e]).leads) ((Tree.node 21 d [] [(Tree.node 21 c [] [a,b]),e]).kids))] [(4,.ptr 1 0)] [0,1] [.cell 4 29] (hH:=⟨⟨_,I,⟨I,(.cons .rfl (.cons .rfl (.cons (.nil 1) (.cons .rfl .nil))))⟩⟩,⟨⟨_,I,⟨I,aJ.rfl⟩⟩,trivial⟩⟩);refine gR 4 I<|qDs [6] 8 9<|qDr [(0,2),(1,3),(2,2),(3,0)] I I ?_;obtain⟨hb,h⟩:=h;refine qDr [(4,0)] I I<|gV 158 (qi (p1-1)) I (ao hb I) I ?_;obtain⟨f,r,s,ι,h⟩:=h;refine qDC 5 ι [0] I ?_;refine qDr [(6,0)] I I<|gHR 10 (kidsV [a,f]) I (DG [a,f]) I<|qDr [(7,0),(8,1)] I I<|qDe<|gR 4 I<|gFR 10 I (dk _) I I ?_;obtain⟨rfl,rfl,rfl⟩:=h;exact gE J [(1,vB ((Tree.node 21 d [] [a,f]).kind) ((Tree.node 21 d [] [a,f]).text) ((Tree.node 21 d [] [a,f]).leads) ((Tree.node 21 d [] [a,f]).kids))] [(4,.ptr 1 0)] [0,1] [.cell 4 29] (hH:=⟨⟨_,I,⟨I,(.cons .rfl (.cons .rfl (.cons (.nil 1) (.cons .rfl .nil))))⟩⟩,⟨⟨_,I,⟨I,aJ.rfl⟩⟩,trivial⟩⟩)
def lI(m:Nat)(a:YB)(c:YI)(d:Int)(e:YT)(f:Int)(G:Tree)(g:YI)(b:Int):Prop:=y4 m [0] f70 (z8 (.agg<|ak G) ⟨2,[(0,vD g b)]⟩) (xG<|xF<|aj f70) [.blk 0,.seq<|xI<|aj f70] 47 [(0,.ptr 0 0),(2,.ptr 1 0),(3,.ptr 2 0),(4,qi f)] ⟨4,[(3,.row 29 4<|kidsV e),(2,.var 29 [qi 2,.str a,.nils,.sl 3]),(1,vE 0 []),(0,vD c d)]⟩
theorem uO(m:Nat)(v:YI)(o:Int)(r0:Tree)(p:YI)(c:Int)(h:∃k l n,aP v o 5 k l n∧q9a k 0 (∃b q r,bI l n [[84],[85]] b q r∧∃a s t,dx q r 2 a s t∧(Tree.node 3 b [] [a])=r0∧s=p∧t=c) (∃d e f,bI l n [[102],[103],[104]] d e f∧∃g i j,aP e f 4 g i j∧lI m d i j ([]:YT) g r0 p c)):rc v o r0 p c:=by
 refine qA 47 [0] func70 λK hK=>?_;refine gR 9 I ?_;obtain⟨k,l,n,w,h⟩:=h;refine qC w [0] ?_;refine gR 3 rfl<|qXe 7 rfl rfl rfl h ?_ ?_<;>intro hd h;refine gR 5 I<|gFR 3 I I I I ?_;obtain⟨b,q,r,x,h⟩:=h;refine qC x [0] ?_;refine gR 1 I ?_;obtain⟨a,s,t,y,h⟩:=h;refine qC y [0] ?_;refine gR 1 I<|gHR 7 (kidsV [a]) I (mU a) I<|gR 6 I<|gFR 7 I (dk _) I I ?_;obtain⟨rfl,rfl,rfl⟩:=h;exact gE hK [(1,vB ((Tree.node 3 b [] [a]).kind) ((Tree.node 3 b [] [a]).text) ((Tree.node 3 b [] [a]).leads)<|(Tree.node 3 b [] [a]).kids)] [(2,.ptr 1 0)] [0,1] [.cell 2 29] (hH:=⟨⟨_,I,⟨I,(.cons .rfl<|.cons .rfl<|.cons (.nil 1)<|.cons .rfl .nil)⟩⟩,⟨⟨_,I,⟨I,aJ.rfl⟩⟩,trivial⟩⟩);refine gR 7 I<|gFR 3 I I I I ?_;obtain⟨d,e,f,z,h⟩:=h;refine qC z [0] ?_;refine gR 9 I ?_;obtain⟨g,i,j,α,h⟩:=h;refine qC α [0] ?_;exact gR 4 I<|go_loop m<|gNC 5 3 29 4 I I I I<|qW hK h [0,1,5,7]
theorem tT(m:Nat)(e:YB)(l:YI)(n:Int)(b:YT)(g:Int)(G:Tree)(o:YI)(i:Int)(h:y7 (0<g) (∃f p q,bI l n [[120],[121],[122]] f p q∧∃c r s,dx p q 1 c r s∧(b++[(Tree.node 4 f [] [c])]).length<=1000000000∧InI (g-1)∧lI m e r s (b++[(Tree.node 4 f [] [c])]) (g-1) G o i) (∃d t v,dx l n 1 d t v∧∃a j k,ba t v 3 a j k∧(b++[d,a]).length<=1000000000∧(Tree.node 2 e []<|b++[d,a])=G∧j=o∧k=i)):lI (m+1) e l n b g G o i:=by
 refine qj λK O J α=>?_;refine gR 7 rfl<|qXd 22 rfl rfl rfl h ?_ ?_<;>intro U h;refine gR 5 I<|qDs [2] 12 13<|qDr [(0,2),(1,3),(2,2),(5,2),(3,0)] I I<|gFR 4 I I I I ?_;obtain⟨f,p,q,w,h⟩:=h;refine qDC 4 w [0] I ?_;obtain⟨c,r,s,x,h⟩:=h;refine qDC 6 x [0] I ?_;refine qDr [(7,0)] I I<|gHR 8 (kidsV [c]) I (mU c) I<|qDr [(8,0)] I I<|gFR 8 I (dk _) I I<|gS 33 (.agg [qi 4,.str f,.row 1 [],.row 4<|kidsV [c]]) I (.agg<|.cons .rfl<|.cons .rfl<|.cons (.nil 1)<|.cons .rfl .nil) I<|qDr [(9,0)] I I<|gHR 9 (kidsV [(Tree.node 4 f [] [c])]) I (mU<|Tree.node 4 f [] [c]) I ?_;obtain⟨hb,h⟩:=h;refine bj 10 (.repl 3<|.row 29 4<|kidsV<|b++[(Tree.node 4 f [] [c])]) I (by kernel_rfl) (bx ah I I I I I (kO b [(Tree.node 4 f [] [c])]).symm (by rw[aD];exact hb)) (okR I) I (by kernel_rfl) I I ?_;refine qDr [(11,0),(12,1)] I I<|qDe<|gR 4 I ?_;obtain⟨hb,h⟩:=h;exact gR 1 I<|gV 24 (qi<|g-1) I (ao hb I) I<|gR 2 I<|go_xloop<|qW J h [0,1,2,10];refine gR 3 I<|go_xloopE<|gR 3 I<|qDs [2] 9 10<|qDr [(0,2),(1,3),(2,2),(4,2)] I I ?_;obtain⟨d,t,v,y,h⟩:=h;refine qDC 3 y [0] I ?_;obtain⟨a,j,k,z,h⟩:=h;refine qDC 5 z [0] I ?_;refine qDr [(6,0)] I I<|gHR 8 (kidsV [d,a]) I (DG [d,a]) I ?_;obtain⟨hb,h⟩:=h;refine bj 7 (.repl 3<|.row 29 4<|kidsV<|b++[d,a]) I (by kernel_rfl) (bx ah I I I I I (kO _ _).symm (by rw[aD];exact hb)) (okR I) I (by kernel_rfl) I I ?_;refine qDr [(8,0),(9,1)] I I<|qDe<|gR 8 I<|gFR 9 I (dk _) I I ?_;obtain⟨rfl,rfl,rfl⟩:=h;exact gE J [(1,vB ((Tree.node 2 e []<|b++[d,a]).kind) ((Tree.node 2 e []<|b++[d,a]).text) ((Tree.node 2 e []<|b++[d,a]).leads)<|(Tree.node 2 e []<|b++[d,a]).kids)] [(2,.ptr 1 0)] [0,1] [.cell 2 29] (hH:=⟨⟨_,I,⟨I,(.cons .rfl<|.cons .rfl<|.cons (.nil 1)<|.cons .rfl .nil)⟩⟩,⟨⟨_,I,⟨I,aJ.rfl⟩⟩,trivial⟩⟩)
def fp(m:Nat)(p1:Tree)(b:YI)(c:Int)(d:(List YB))(e:Nat)(G:Tree)(f:YI)(a:Int):Prop:=y4 m [0] f72 (z8 (.agg<|ak G) ⟨2,[(0,vD f a)]⟩) (xK<|aj f72) [.blk 0,.seq<|xF<|aj f72] 53 [(0,.ptr 0 0),(3,.ptr 1 0),(4,.ptr 2 0),(5,qi (e:Int))] ⟨4,[(3,.row 9 1<|List.map V.str d),(2,vE 0 []),(1,.var 29 [qi p1.kind,.str p1.text,.sl 3,.row 4<|kidsV p1.kids]),(0,vD b c)]⟩
def ij(m:Nat)(p1:Tree)(b:YI)(c:Int)(d:YT)(e:Nat)(f:(List YB))(G:Tree)(g:YI)(a:Int):Prop:=y4 m [0] f72 (z8 (.agg<|ak G) ⟨2,[(0,vD g a)]⟩) (xG<|xI<|aj f72) [.blk 2,.seq<|xA<|xF<|aj f72] 53 [(0,.ptr 0 0),(3,.ptr 1 0),(4,.ptr 2 0),(6,qi (e:Int))] ⟨5,[(4,.row 29 4<|kidsV d),(3,.row 9 1<|List.map V.str f),(2,vE 0 []),(1,.var 29 [qi p1.kind,.str p1.text,.sl 3,.sl 4]),(0,vD b c)]⟩
theorem zN(m:Nat)(c:YI)(a:Int)(p1 r0:Tree)(d:YI)(b:Int)(h:p1.leads.length<=1000000000∧fp m p1 c a p1.leads 0 r0 d b):kM c a p1 r0 d b:=by
 refine qA 53 [0] func72 λK hK=>?_;refine gR 11 I ?_;obtain⟨hb,h⟩:=h;exact gDo (.repl 3<|.row 9 1<|List.map V.str p1.leads) (bx ah I I I I I (aam _) (by rw[aB];exact hb)) (okR I) I I I<|gR 11 I<|go_loop m<|qW hK h [0,1,2,4]
theorem mI(m:Nat)(p1:Tree)(l:YI)(n:Int)(b:(List YB))(a:Nat)(r0:Tree)(e:YI)(c:Int)(h:y7 (a<b.length) (∃g i j,aP l n 9 g i j∧q9a g 1 (∃d o p,bI i j [[32,35,32,99,10],[32,32],[10,9],[35,10]] d o p∧∃q,b[a]?=some q∧fp m p1 o p (b.set a d) (a+1) r0 e c) (fp m p1 i j b (a+1) r0 e c))<|p1.kids.length<=1000000000∧ij m p1 l n p1.kids 0 b r0 e c):fp (m+1) p1 l n b a r0 e c:=by
 refine qj λK j1 hK v=>?_;refine gR 7 rfl<|gV 15 (qi (b.length:Int)) rfl (aN<|aB V.str _) rfl<|gLO 3 rfl (aB V.str _) λr=>gR 3 rfl<|qXh 16 rfl rfl rfl h co cp ?_ ?_<;>intro hd h;refine gR 8 I ?_;obtain⟨g,i,j,s,h⟩:=h;refine qC s [0] ?_;refine gR 3 rfl<|qXe 21 rfl rfl rfl h ?_ ?_<;>intro hd h;refine gR 1 I<|qDs [1] 7 8<|qDr [(0,2),(1,3),(2,2),(3,2),(4,0)] I I<|gFR 5 I I I I ?_;obtain⟨d,o,p,t,h⟩:=h;refine qDC 5 t [0] I ?_;obtain⟨q,k,h⟩:=h;refine bQ 6 I (by kernel_rfl) (yIO ah I I I I<|qG<|ax (f:=V.str) k) I I ?_;refine bj 7 (.set 3<|.row 9 1<|List.map V.str<|b.set a d) I (by kernel_rfl) (dSe ah I I I I (ax (f:=V.str) k) I<|mQ V.str b a d) (okS I) I (by kernel_rfl) I I ?_;exact qDe<|gR 5 I<|gV 18 (qi ((a+1:Nat):Int)) I (ao (by have :=r;omega)<|by omega) I<|gR 2 I<|go_xloop<|qW hK h [0,1,2,3];exact gR 7 I<|gV 18 (qi ((a+1:Nat):Int)) I (ao (by have :=r;omega)<|by omega) I<|gR 2 I<|go_xloop<|qW hK h [0,1,2,3];refine gR 3 I<|go_xloopE<|gR 7 I ?_;obtain⟨hb,h⟩:=h;exact gDo (.repl 4<|.row 29 4<|kidsV p1.kids) (bx ah I I I I I (aam _) (by rw[aD];exact hb)) (okR I) I I I<|gR 11 I<|go_loop m<|qW hK h [0,1,2,3,5]
theorem sJ(m:Nat)(p1:Tree)(i:YI)(j:Int)(a:YT)(b:Nat)(c:(List YB))(G:Tree)(k:YI)(e:Int)(h:y7 (b<a.length) (∃l,a[b]?=some l∧∃d n o,kM i j l d n o∧∃p,a[b]?=some p∧ij m p1 n o (a.set b d) (b+1) c G k e)<|(Tree.node p1.kind p1.text c a)=G∧i=k∧j=e):ij (m+1) p1 i j a b c G k e:=by
 refine qj λK O J s=>?_;refine gR 7 rfl<|gV 37 (qi (a.length:Int)) rfl (aN<|aD _) rfl<|gLO 4 rfl (aD _) λq=>gR 3 rfl<|qXh 38 rfl rfl rfl h co cp ?_ ?_<;>intro U h;refine gR 5 I<|qDs [1,4] 11 12<|qDr ((0,2)::(1,3)::(qR 2 3 2 [(5,3),(6,0)])) I I ?_;obtain⟨l,f,h⟩:=h;refine bQ 7 I (by kernel_rfl) (yIO ah I I I I (by have :=(aq f);exact(List.getElem?_eq_some_iff.1 this).1)) I I ?_;refine bj 8 (.nop) I (by kernel_rfl) (dLe ah I I I (aq f) I) trivial I (by kernel_rfl) I I ?_;obtain⟨d,n,o,r,h⟩:=h;refine qDC 9 r [0] I ?_;obtain⟨p,g,h⟩:=h;refine bQ 10 I (by kernel_rfl) (yIO ah I I I I (by have :=(aq g);exact(List.getElem?_eq_some_iff.1 this).1)) I I ?_;refine bj 11 (.set 4<|.row 29 4<|kidsV<|a.set b d) I (by kernel_rfl) (dSe ah I I I I (aq g) I<|ON a b d) (okS I) I (by kernel_rfl) I I ?_;exact qDe<|gR 5 I<|gV 40 (qi ((b+1:Nat):Int)) I (ao (by have :=q;omega)<|by omega) I<|gR 2 I<|go_xloop<|qW J h [0,1,2,3,4];refine gR 3 I<|go_xloopE<|gR 9 I<|gFR 3 I (fi _ (λ_=>I) _) I I<|gFR 4 I (dk _) I I ?_;obtain⟨rfl,rfl,rfl⟩:=h;exact gE J [(1,vB ((Tree.node p1.kind p1.text c a).kind) ((Tree.node p1.kind p1.text c a).text) ((Tree.node p1.kind p1.text c a).leads)<|(Tree.node p1.kind p1.text c a).kids)] [(4,.ptr 1 0)] [0,2] [.cell 4 29]
def jt(m:Nat)(p1:YB)(b:YI)(c:Int)(d:YT)(e:Int)(G:Tree)(f:YI)(a:Int):Prop:=y4 m [0] f43 (z8 (.agg<|ak G) ⟨2,[(0,vD f a)]⟩) (xK<|aj f43) [.blk 0,.seq<|xF<|aj f43] 31 [(0,.ptr 0 0),(4,.ptr 1 0),(5,.ptr 2 0),(6,qi e)] ⟨4,[(3,.row 29 4<|kidsV d),(2,.var 29 [qi 1,.str p1,.nils,.sl 3]),(1,vE 0 []),(0,vD b c)]⟩
theorem zb(m:Nat)(f:YI)(a:Int)(p1:YB)(r0:Tree)(g:YI)(b:Int)(h:∃c d e,aP f a 4 c d e∧jt m p1 d e ([]:YT) c r0 g b):nI f a p1 r0 g b:=by
 refine qA 31 [0] func43 λK hK=>?_;refine gR 17 I ?_;obtain⟨c,d,e,i,h⟩:=h;refine qC i [0] ?_;exact gR 4 I<|go_loop m<|gNC 2 3 29 4 I I I I<|qW hK h [0,1,2,4]
theorem mg(m:Nat)(p1:YB)(n:YI)(o:Int)(d:YT)(e:Int)(G:Tree)(i:YI)(f:Int)(h:y7 (0<e) (∃a p q,rc n o a p q∧(d++[a]).length<=1000000000∧InI (e-1)∧jt m p1 p q (d++[a]) (e-1) G i f) (∃b,mv (Tree.node 1 p1 [] d) b∧∃j k l,aP n o 2 j k l∧q9a j 0 (∃c r g,kM k l b c r g∧c=G∧r=i∧g=f) (b=G∧k=i∧l=f))):jt (m+1) p1 n o d e G i f:=by
 refine qj λK U J x=>?_;refine gR 7 rfl<|qXd 12 rfl rfl rfl h ?_ ?_<;>intro O h;refine gR 5 I<|qDs [2] 7 8<|qDr [(0,2),(1,3),(2,0)] I I ?_;obtain⟨a,p,q,s,h⟩:=h;refine qDC 3 s [0] I ?_;refine qDr [(4,0)] I I<|gHR 6 (kidsV [a]) I (mU a) I ?_;obtain⟨hb,h⟩:=h;refine bj 5 (.repl 3<|.row 29 4<|kidsV<|d++[a]) I (by kernel_rfl) (bx ah I I I I I (kO d [a]).symm (by rw[aD];exact hb)) (okR I) I (by kernel_rfl) I I ?_;refine qDr [(6,0),(7,1)] I I<|qDe<|gR 4 I ?_;obtain⟨hb,h⟩:=h;exact gR 1 I<|gV 14 (qi<|e-1) I (ao hb I) I<|gR 2 I<|go_xloop<|qW J h [0,1,2,7];refine gR 3 I<|go_xloopE<|gR 5 I<|gFR 3 I (dk _) I I ?_;obtain⟨b,t,h⟩:=h;refine gC0 t (by kernel_rfl) I I (.cons (.agg<|.cons .rfl<|.cons .rfl<|.cons (.nil 1)<|.cons .rfl .nil) .nil) I<|gR 7 I ?_;obtain⟨j,k,l,v,h⟩:=h;refine qC v [0] ?_;refine gR 3 rfl<|qXe 26 rfl rfl rfl h ?_ ?_<;>intro O h;refine gR 4 I ?_;obtain⟨c,r,g,w,h⟩:=h;refine qC w [0] ?_;refine gR 10 I ?_;obtain⟨rfl,rfl,rfl⟩:=h;exact gE J [(1,vB c.kind c.text c.leads c.kids)] [(4,.ptr 1 0)] [0,1] [.cell 4 29];refine gR 10 I ?_;obtain⟨rfl,rfl,rfl⟩:=h;exact gE J [(1,vB b.kind b.text b.leads b.kids)] [(4,.ptr 1 0)] [0,1] [.cell 4 29]
def cf(m:Nat)(a:YI)(b:Int)(c:YT)(d:Int)(G:YT):Prop:=y4 m [] f17 (q9<|.row 4<|kidsV G) (xG<|xI<|aj f17) [.blk 0,.seq<|xA<|xF<|aj f17] 35 [(3,.ptr 0 0),(4,.sl 1),(5,.sl 2),(6,qi d)] ⟨3,[(2,.row 9 1 [.str [65],.str [66],.str [67]]),(1,.row 29 4<|kidsV c),(0,vD a b)]⟩
theorem yC(m:Nat)(p0:YI)(r0:YT)(h:∃a b,uI p0 a b∧∃c d e,aP a b 4 c d e∧cf m d e ([]:YT) c r0):mM p0 r0:=by
 refine⟨I,I,?_⟩;refine qA 35 [] func17 λK hK=>?_;refine gR 8 I ?_;obtain⟨a,b,f,h⟩:=h;refine qC f [] ?_;refine gR 18 I ?_;obtain⟨c,d,e,g,h⟩:=h;refine qC g [0] ?_;exact gR 4 I<|go_loop m<|gNS 4 29 4 I I I I<|qW hK h [0,3,1]
theorem lh(m:Nat)(p:YI)(q:Int)(c:YT)(b:Int)(G:YT)(h:y7 (0<b) (∃l,[[65],[66],[67]][c.length]?=some l∧∃a n o,nI p q l a n o∧∃g d e,aP n o 8 g d e∧q9a g 7 (∃i,ia (Tree.node a.kind [65] a.leads a.kids) i∧y8 i ((c++[(Tree.node a.kind [65] a.leads a.kids)]).length<=1000000000∧InI (b-1)∧cf m d e (c++[(Tree.node a.kind [65] a.leads a.kids)]) (b-1) G) (InI (b-1)∧cf m d e c (b-1) G)) (∃j,ia a j∧y8 j ((c++[a]).length<=1000000000∧InI (b-1)∧cf m d e (c++[a]) (b-1) G) (InI (b-1)∧cf m d e c (b-1) G)))<|c=G):cf (m+1) p q c b G:=by
 refine qj λK U J x=>?_;refine gR 7 rfl<|qXd 14 rfl rfl rfl h ?_ ?_<;>intro O h;refine gR 11 I<|gV 20 (qi (c.length:Int)) I (aN<|aD _) I<|gLO 1 I (aD _) λw=>?_;obtain⟨l,k,h⟩:=h;refine gY (yIO ah I I I I<|qG<|ax (f:=V.str) k) I I ?_;refine gDo (.nop) (dLe ah I I I (ax (f:=V.str) k) I) trivial I I I ?_;obtain⟨a,n,o,r,h⟩:=h;refine qC r [0] ?_;refine gR 8 I ?_;obtain⟨g,d,e,s,h⟩:=h;refine qC s [0] ?_;refine gR 3 rfl<|qXe 26 rfl rfl rfl h ?_ ?_<;>intro O h;refine gR 9 I ?_;obtain⟨i,t,h⟩:=h;refine qC0 t rfl<|gR 2 rfl<|qXi 29 rfl rfl rfl h ?_ ?_<;>intro O h;refine gR 5 I<|gHR 7 (kidsV [(Tree.node a.kind [65] a.leads a.kids)]) I (mU<|Tree.node a.kind [65] a.leads a.kids) I ?_;obtain⟨hb,h⟩:=h;refine gDo (.repl 1<|.row 29 4<|kidsV<|c++[(Tree.node a.kind [65] a.leads a.kids)]) (bx ah I I I I I (kO c [(Tree.node a.kind [65] a.leads a.kids)]).symm (by rw[aD];exact hb)) (okR I) I I I<|gR 6 I ?_;obtain⟨hb,h⟩:=h;exact gR 1 I<|gV 16 (qi<|b-1) I (ao hb I) I<|gR 2 I<|go_xloop<|qW J h [0,8,2];refine gR 6 I ?_;obtain⟨hb,h⟩:=h;exact gR 1 I<|gV 16 (qi<|b-1) I (ao hb I) I<|gR 2 I<|go_xloop<|qW J h [0,1,2];refine gR 6 I ?_;obtain⟨j,v,h⟩:=h;refine qC0 v rfl<|gR 2 rfl<|qXi 29 rfl rfl rfl h ?_ ?_<;>intro O h;refine gR 5 I<|gHR 7 (kidsV [a]) I (mU a) I ?_;obtain⟨hb,h⟩:=h;refine gDo (.repl 1<|.row 29 4<|kidsV<|c++[a]) (bx ah I I I I I (kO c [a]).symm (by rw[aD];exact hb)) (okR I) I I I<|gR 6 I ?_;obtain⟨hb,h⟩:=h;exact gR 1 I<|gV 16 (qi<|b-1) I (ao hb I) I<|gR 2 I<|go_xloop<|qW J h [0,8,2];refine gR 6 I ?_;obtain⟨hb,h⟩:=h;exact gR 1 I<|gV 16 (qi<|b-1) I (ao hb I) I<|gR 2 I<|go_xloop<|qW J h [0,1,2];refine gR 3 I<|go_xloopE<|gR 9 I<|gFR 1 I (dk _) I I ?_;subst h;exact qN [.tmp 2]
theorem pm(m:Nat)(b:YI)(a p1 G:Int)(g:YI)(c:Int)(h:y7 ((b.length:Int)<=a) (0=G∧b=g∧a=c) (InI (a+1)∧InI ((a+1)-1)∧∃d,((a+1)-1)=((d:Nat):Int)∧∃i,b[d]?=some i∧∃e,qZ i p1 e∧e=G∧b=g∧(a+1)=c)):aP b a p1 G g c:=by
 refine qA 35 [0] func42 λK J=>?_;refine gR 7 rfl<|qDs [0] 10 10<|qDr (qR 0 3 2<|(3,3)::(qR 4 5 0 [])) rfl rfl<|gV 13 (qi (b.length:Int)) rfl (aN<|aB (V.int .i64) _) rfl<|gLB 12 rfl (aB (V.int .i64) _) λn=>qDr [(9,0)] rfl rfl<|qDe<|gR 1 rfl<|qBd 14 rfl rfl rfl h ?_ ?_<;>intro h;refine gR 8 I ?_;obtain⟨rfl,rfl,rfl⟩:=h;exact gE J [] [(4,qi 0)] [0] [.tmp 4];refine gR 9 I ?_;obtain⟨hb,h⟩:=h;refine gR 1 I<|gV 19 (qi<|a+1) I (ao hb I) I<|gR 6 I<|qDs [0] 13 14<|qDr (qR 0 3 2<|(3,3)::(qR 4 3 2 [(7,3)])) I I ?_;obtain⟨hb,h⟩:=h;refine qDr [(8,2)] I I<|gV 30 (qi<|(a+1)-1) I (ao hb I) I ?_;obtain⟨d,k,h⟩:=h;refine gV 30 (qi ((d:Nat):Int)) I (aT k) I ?_;obtain⟨i,j,h⟩:=h;refine gYd 9 I (by kernel_rfl) (aF (ax (f:=(V.int .i64)) j) ah I I I I) I I<|qDr [(10,2),(11,0)] I I ?_;obtain⟨e,l,h⟩:=h;refine bG 12 l (by kernel_rfl) I (by kernel_rfl) I I .rfl I I ?_;refine qDr [(13,1)] I I<|qDe<|gR 2 I ?_;obtain⟨rfl,rfl,rfl⟩:=h;exact gE J [] [(4,qi e)] [0] [.tmp 4]
def iN(m:Nat)(G:Int)(a:(List YB))(b:Nat)(J:(List YB)):Prop:=y4 m [] f150 (z8 (.sl 0) ⟨1,[(0,.row 9 1<|List.map V.str J)]⟩) (xK<|aj f150) [.blk 0,.seq<|xF<|aj f150] 14 [(0,qi G),(3,.sl 0),(4,qi (b:Int))] ⟨1,[(0,.row 9 1<|List.map V.str a)]⟩
theorem yv(m:Nat)(p0:Int)(r0:(List YB))(h:iN m p0 ([]:List YB) 0 r0):mG p0 r0:=by
 refine qA 14 [] func150 λK hK=>?_;exact gR 17 I<|go_loop m<|gNS 3 9 1 I I I I<|qW hK h [0]
theorem lx(m:Nat)(G:Int)(a:(List YB))(b:Nat)(J:(List YB))(h:y7 ((b:Int)<G) ((a++[[32]]).length<=1000000000∧b+1<=9223372036854775807∧iN m G (a++[[32]]) (b+1) J)<|a=J):iN (m+1) G a b J:=by
 refine qj λK U O c=>?_;refine gR 8 rfl<|qXd 7 rfl rfl rfl h ?_ ?_<;>intro Z h;refine gR 8 I ?_;obtain⟨hb,h⟩:=h;refine gDo (.repl 0<|.row 9 1<|List.map V.str<|a++[[32]]) (bx ah I I I I I (apM V.str a [32]) (by rw[aB];exact hb)) (okR I) I I I<|gR 6 I ?_;obtain⟨hb,h⟩:=h;exact gR 1 I<|gV 9 (qi ((b+1:Nat):Int)) I (ao (by omega)<|by omega) I<|gR 2 I<|go_xloop<|qW O h [2];refine gR 3 I<|go_xloopE<|gR 9 I ?_;subst h;exact gE O [] [(2,.sl 0)] [0] [.tmp 2]
def fN(m:Nat)(G:Tree)(p2:YB)(a:Bool)(J:YB):Prop:=y5 [] f151 (q9<|.str J) (cB<|xE<|xA<|aj f151) [.blk 1,.seq<|xF<|aj f151] 31 [(2,.str p2),(3,.box (ak G) 0),(15,qi G.kind),(16,.bool a)] ⟨0,[]⟩
theorem yl(m:Nat)(G:Tree)(p1:Int)(p2 O:YB)(h:((G.kind=1)->[10,10]=O)∧((G.kind≠1)->((0<p1)->[32]=O)∧((¬0<p1)->((G.kind=8)->fN m G p2 true O)∧((G.kind≠8)->((G.kind=22)->fN m G p2 true O)∧((G.kind≠22)->((G.kind=16)->fN m G p2 true O)∧((G.kind≠16)->fN m G p2 (G.kind==18) O)))))):mW G p1 p2 O:=by
 refine⟨I,I,?_⟩;refine qA 31 [] func151 λK J=>?_;refine gR 3 rfl<|gFP 0 rfl rfl rfl rfl<|gR 13 rfl<|qBeZ 7 10 rfl rfl rfl rfl h ?_ ?_<;>intro h;refine gR 9 I ?_;subst h;exact qN [.tmp 6];refine gR 8 rfl<|qBdZ 11 13 rfl rfl rfl rfl h ?_ ?_<;>intro h;refine gR 9 I ?_;subst h;exact qN [.tmp 6];refine gR 19 rfl<|qBeZ 16 17 rfl rfl rfl rfl h ?_ ?_<;>intro h;exact gR 3 I<|qJ J (h K J) [];refine gR 7 rfl<|qBeZ 16 18 rfl rfl rfl rfl h ?_ ?_<;>intro h;exact gR 3 I<|qJ J (h K J) [];refine gR 7 rfl<|qBeZ 16 19 rfl rfl rfl rfl h ?_ ?_<;>intro h;exact gR 3 I<|qJ J (h K J) [];exact gR 6 I<|qJ J (h K J) []
theorem xv(m:Nat)(J:Tree)(p2:YB)(a:Bool)(G:YB)(h:y8 a ([]=G)<|q9a J.kind 2 (y7 (2<(J.kids.length:Int)) ([]=G)<|[32]=G)<|q9a J.kind 17 (p2=G)<|q9a J.kind 21 (p2=G)<|[32]=G):fN (m+1) J p2 a G:=by
 intro K O;refine qBi 16 rfl rfl rfl h ?_ ?_<;>intro h;refine gR 9 I ?_;subst h;exact qN [.tmp 6];refine gR 7 rfl<|qBeZ 21 22 rfl rfl rfl rfl h ?_ ?_<;>intro h;refine gR 6 rfl<|gV 25 (qi (J.kids.length:Int)) rfl (aN (aD _)) rfl<|gLB 24 rfl (aD _) λb=>gR 3 rfl<|qBd 26 rfl rfl rfl h ?_ ?_<;>intro h;refine gR 9 I ?_;subst h;exact qN [.tmp 6];refine gR 10 I ?_;subst h;exact qN [.tmp 6];refine gR 8 rfl<|qBeZ 27 28 rfl rfl rfl rfl h ?_ ?_<;>intro h;refine gR 13 I ?_;subst h;exact qN [.tmp 6];refine gR 6 rfl<|qBeZ 27 29 rfl rfl rfl rfl h ?_ ?_<;>intro h;refine gR 10 I ?_;subst h;exact qN [.tmp 6];refine gR 10 I ?_;subst h;exact qN [.tmp 6]
def qu(m:Nat)(G:Tree)(p1:YB)(a:(List YB))(J:Tree):Prop:=y6 [] f111 (q9<|.agg<|ak J) [.seq<|xF<|aj f111] 109 [(1,.str p1),(2,.box (ak G) 0),(4,.ptr 0 0),(5,qi (G.kids.length:Int)),(6,.ptr 1 0)] ⟨3,[(2,.row 9 1<|List.map V.str a),(1,.var 29 [qi G.kind,.str G.text,.sl 2,.nils]),(0,vE 0 [])]⟩
def fB(m:Nat)(G:Tree)(p1:YB)(a:(List YB))(b:YT)(c:Nat)(J:Tree):Prop:=y4 m [] f111 (q9<|.agg<|ak J) (xG<|xI<|aj f111) [.blk 0,.seq<|xA<|xF<|aj f111] 109 [(1,.str p1),(2,.box (ak G) 0),(4,.ptr 0 0),(5,qi (G.kids.length:Int)),(6,.ptr 1 0),(7,.sl 2),(8,qi (c:Int))] ⟨4,[(3,.row 9 1<|List.map V.str a),(2,.row 29 4<|kidsV b),(1,.var 29 [qi G.kind,.str G.text,.sl 3,.nils]),(0,vE 0 [])]⟩
def fv(m:Nat)(G:Tree)(a:(List YB))(b:YT)(J:Tree):Prop:=y5 [] f111 (q9<|.agg<|ak J) (xI<|xA<|aj f111) [] 109 [(2,.box (ak G) 0),(4,.ptr 0 0),(6,.ptr 1 0),(7,.sl 2)] ⟨4,[(3,.row 9 1<|List.map V.str a),(2,.row 29 4<|kidsV b),(1,.var 29 [qi G.kind,.str G.text,.sl 3,.nils]),(0,vE 0 [])]⟩
def ir(m:Nat)(G:Tree)(a:(List YB))(b:Nat)(c:YT)(J:Tree):Prop:=y4 m [] f111 (q9<|.agg<|ak J) (xL<|xA<|xJ<|xM<|xI<|xA<|aj f111) [.blk 3,.blk 2,.seq<|xI<|xF<|aj f111] 109 [(4,.ptr 0 0),(6,.ptr 1 0),(7,.sl 2),(9,qi (b:Int))] ⟨4,[(3,.row 9 1<|List.map V.str a),(2,.row 29 4<|kidsV c),(1,.var 29 [qi G.kind,.str G.text,.sl 3,.nils]),(0,vE 0 [])]⟩
def fx(m:Nat)(G:Tree)(a:(List YB))(b:Nat)(c:YT)(J:Tree):Prop:=y4 m [] f111 (q9<|.agg<|ak J) (cL<|xD<|xJ<|xC<|xM<|xI<|xA<|aj f111) [.blk 5,.blk 2,.seq<|xI<|xF<|aj f111] 109 [(4,.ptr 0 0),(6,.ptr 1 0),(7,.sl 2),(10,qi (b:Int))] ⟨4,[(3,.row 9 1<|List.map V.str a),(2,.row 29 4<|kidsV c),(1,.var 29 [qi G.kind,.str G.text,.sl 3,.nils]),(0,vE 0 [])]⟩
theorem xR(m:Nat)(J:Tree)(p1:YB)(O:Tree)(h:∃b,ig J.kind (J.kids.length:Int) b∧∃a,mG b a∧qu m J p1 a O):iH J p1 O:=by
 refine⟨I,I,?_⟩;refine qA 109 [] func111 λK G=>?_;refine gR 3 I<|gFP 0 I I I I<|gR 8 I<|gV 13 (qi (J.kids.length:Int)) I (aN<|aD _) I<|gLB 12 I (aD _) λf=>gR 4 I<|qDs [] 11 12<|qDr (qR 0 7 2 []) I I ?_;obtain⟨b,c,h⟩:=h;apply bK (i:=7) (j:=10) (by kernel_rfl) rfl rfl rfl rfl;exact(cz (L':=[]) (by kernel_rfl) I I (tH c .rfl [] I)<|.inl I);exact(bm ah I I);obtain⟨a,d,h⟩:=h;apply bK (i:=8) (j:=10) (by kernel_rfl) rfl rfl rfl rfl;exact(cz (L':=[]) (by kernel_rfl) I I (fS (H:=⟨2,[(1,vE 0 [])]⟩) d [] .rfl trivial I [] I)<|.inl I);exact(bm ah I I);exact gHR 2 (List.map V.str a) I (lQ _ V.str (λ_=>I) a) I<|qDr [(9,2),(10,0),(11,1)] I I<|qDe<|qJ G (h K G) [1,3,2];refine qDC 8 d [] I ?_;exact gHR 3 (List.map V.str a) I (lQ _ V.str (λ_=>I) a) I<|qDr [(9,0),(11,1)] I I<|qDe<|qJ G (h K G) [1,2,3];refine bG 7 c (by kernel_rfl) I (by kernel_rfl) I I .rfl I I ?_;obtain⟨a,e,h⟩:=h;refine qDC 8 e [] I ?_;exact gHR 3 (List.map V.str a) I (lQ _ V.str (λ_=>I) a) I<|qDr [(9,0),(11,1)] I I<|qDe<|qJ G (h K G) [1,2,3]
theorem wk(m:Nat)(p0:Tree)(p1:YB)(a:(List YB))(r0:Tree)(h:p0.kids.length<=1000000000∧fB m p0 p1 a (List.replicate p0.kids.length<|Tree.node 0 [] [] []) 0 r0):qu (m+1) p0 p1 a r0:=by
 intro K hK;refine gR 4 I ?_;obtain⟨hb,h⟩:=h;exact gDo (.new (.row 29 4 (List.replicate p0.kids.length (.agg [qi 0,.str [],.nils,.nils])))) (dMk ah rfl rfl rfl rfl rfl rfl rfl (by kernel_rfl) hb) trivial rfl rfl rfl<|gHW 3 (List.replicate p0.kids.length (.agg [qi 0,.str [],.row 1 [],.row 4 (kidsV [])])) rfl rfl (aJ.rep (.agg (.cons .rfl (.cons .rfl (.cons (.nil 1) (.cons (.nil 4) .nil))))) _) rfl<|gHR 3 (kidsV (List.replicate p0.kids.length (Tree.node 0 [] [] []))) rfl (by first|(simp only[wQ,List.map_replicate];done)|(simp only[wQ,List.map_replicate];rfl)) rfl<|gR 10 rfl<|go_loop m<|qW hK h [0,1,3,2]
theorem gZ(m:Nat)(G:Tree)(p1:YB)(b:(List YB))(c:YT)(a:Nat)(O:Tree)(h:y7 (a<G.kids.length) (∃i,G.kids[a]?=some i∧∃j,mW G (a:Int) p1 j∧∃d,iH i j d∧∃l,c[a]?=some l∧a+1<=9223372036854775807∧fB m G p1 b (c.set a d) (a+1) O)<|q3a G.kind 17 (q3a G.kind 21 (∃n,b[0]?=some n∧fv m G (b.set 0 p1) c O)<|fv m G b c O)<|fv m G b c O):fB (m+1) G p1 b c a O:=by
 refine qj λK Z J q=>?_;refine gR 8 rfl<|qXh 28 rfl rfl rfl h co cp ?_ ?_<;>intro U h;refine gR 5 I<|qDs [] 13 14<|qDr (qR 0 5 2 []) I I ?_;obtain⟨i,k,h⟩:=h;refine gYd 5 I (by kernel_rfl) (aF (aq k) ah I I I I) I I<|qDr (qR 6 3 2 [(9,0)]) I I ?_;obtain⟨j,o,h⟩:=h;refine bG 10 o (by kernel_rfl) I (by kernel_rfl) I I .rfl I I ?_;obtain⟨d,p,h⟩:=h;refine bG 11 p (by kernel_rfl) I (by kernel_rfl) I I .rfl I I ?_;obtain⟨l,e,h⟩:=h;refine bQ 12 I (by kernel_rfl) (yIO ah I I I I (by have :=(aq e);exact(List.getElem?_eq_some_iff.1 this).1)) I I ?_;refine bj 13 (.set 2<|.row 29 4<|kidsV<|c.set a d) I (by kernel_rfl) (dSe ah I I I I (aq e) I<|ON c a d) (okS I) I (by kernel_rfl) I I ?_;refine qDe<|gR 4 I ?_;obtain⟨hb,h⟩:=h;exact gR 1 I<|gV 30 (qi ((a+1:Nat):Int)) I (ao (by omega)<|by omega) I<|gR 2 I<|go_xloop<|qW J h [0,1,2,3];refine gR 3 rfl<|go_xloopE<|gR 9 rfl<|qXhZ 47 46 rfl rfl rfl rfl h dY cO ?_ ?_<;>intro U h;refine gR 6 rfl<|qXh 51 rfl rfl rfl h dY cO ?_ ?_<;>intro U h;refine gR 5 I ?_;obtain⟨n,g,h⟩:=h;refine gY (yIO ah I I I I<|qG<|ax (f:=V.str) g) I I ?_;exact gDo (.set 3<|.row 9 1<|List.map V.str<|b.set 0 p1) (dSe ah I I I I (ax (f:=V.str) g) I<|mQ V.str b 0 p1) (okS I) I I I<|gR 2 I<|qJ J (h K J) [0,1,2,3];exact gR 3 I<|qJ J (h K J) [0,1,2,3];exact gR 9 I<|qJ J (h K J) [0,1,2,3]
theorem cr(m:Nat)(p0:Tree)(a:(List YB))(b:YT)(r0:Tree)(h:q9a p0.kind 1 (∃l,a[2]?=some l∧(Tree.node p0.kind p0.text (a.set 2 [10]) b)=r0)<|q9a p0.kind 2 (∃n,a[2]?=some n∧∃o,(a.set 2 [])[3]?=some o∧∃p,((a.set 2 []).set 3 [])[4]?=some p∧ir m p0 (((a.set 2 []).set 3 []).set 4 []) 6 b r0)<|q9a p0.kind 4 (∃q,a[1]?=some q∧(Tree.node p0.kind p0.text (a.set 1 []) b)=r0)<|q9a p0.kind 8 (∃r,a[1]?=some r∧(Tree.node p0.kind p0.text (a.set 1 []) b)=r0)<|q9a p0.kind 22 (∃s,a[1]?=some s∧(Tree.node p0.kind p0.text (a.set 1 []) b)=r0)<|q9a p0.kind 16 (fx m p0 a 1 b r0)<|q9a p0.kind 18 (fx m p0 a 1 b r0)<|(Tree.node p0.kind p0.text a b)=r0):fv (m+1) p0 a b r0:=by
 intro K hK;refine gR 14 rfl<|qXeZ 58 59 rfl rfl rfl rfl h ?_ ?_<;>intro hd h;refine gR 4 I ?_;obtain⟨l,c,h⟩:=h;refine gY (yIO ah I I I I (qG (ax (f:=V.str) c))) I I ?_;refine gDo (.set 3 (.row 9 1 (List.map V.str (a.set 2 [10])))) (dSe ah I I I I (ax (f:=V.str) c) I (mQ V.str a 2 [10])) (okS I) I I I<|gR 17 I<|gFR 3 I (fi _ (λ_=>I) _) I I<|gFR 2 I (dk _) I I ?_;subst h;exact go_sub (F':=(mkF 109 0 [(4,.ptr 0 0)])) (H':=⟨1,[(0,vB ((Tree.node p0.kind p0.text (a.set 2 [10]) b).kind) ((Tree.node p0.kind p0.text (a.set 2 [10]) b).text) ((Tree.node p0.kind p0.text (a.set 2 [10]) b).leads)<|(Tree.node p0.kind p0.text (a.set 2 [10]) b).kids)]⟩) [0] [] I hK pq1 (pqo1 I I) I<|qN [.cell 4 29];refine gR 7 rfl<|qXeZ 63 64 rfl rfl rfl rfl h ?_ ?_<;>intro hd h;refine gR 2 I<|qDs [1] 11 12<|qDr [(0,2),(1,3),(2,2),(3,3),(4,2),(5,3)] I I ?_;obtain⟨n,d,h⟩:=h;refine bQ 6 I (by kernel_rfl) (yIO ah I I I I<|qG<|ax (f:=V.str) d) I I ?_;refine bj 7 (.set 3<|.row 9 1<|List.map V.str<|a.set 2 []) I (by kernel_rfl) (dSe ah I I I I (ax (f:=V.str) d) I<|mQ V.str a 2 []) (okS I) I (by kernel_rfl) I I ?_;obtain⟨o,e,h⟩:=h;refine bQ 8 I (by kernel_rfl) (yIO ah I I I I<|qG<|ax (f:=V.str) e) I I ?_;refine bj 9 (.set 3<|.row 9 1<|List.map V.str<|(a.set 2 []).set 3 []) I (by kernel_rfl) (dSe ah I I I I (ax (f:=V.str) e) I<|mQ V.str (a.set 2 []) 3 []) (okS I) I (by kernel_rfl) I I ?_;obtain⟨p,g,h⟩:=h;refine bQ 10 I (by kernel_rfl) (yIO ah I I I I<|qG<|ax (f:=V.str) g) I I ?_;refine bj 11 (.set 3<|.row 9 1<|List.map V.str<|((a.set 2 []).set 3 []).set 4 []) I (by kernel_rfl) (dSe ah I I I I (ax (f:=V.str) g) I<|mQ V.str ((a.set 2 []).set 3 []) 4 []) (okS I) I (by kernel_rfl) I I ?_;exact qDe<|gR 7 I<|go_loop m<|qW hK h [0,1,2,3];refine gR 8 rfl<|qXeZ 85 86 rfl rfl rfl rfl h ?_ ?_<;>intro hd h;refine gR 7 I ?_;obtain⟨q,i,h⟩:=h;refine gY (yIO ah I I I I<|qG<|ax (f:=V.str) i) I I ?_;refine gDo (.set 3<|.row 9 1<|List.map V.str<|a.set 1 []) (dSe ah I I I I (ax (f:=V.str) i) I<|mQ V.str a 1 []) (okS I) I I I<|gR 17 I<|gFR 3 I (fi _ (λ_=>I) _) I I<|gFR 2 I (dk _) I I ?_;subst h;exact go_sub (F':=(mkF 109 0 [(4,.ptr 0 0)])) (H':=⟨1,[(0,vB ((Tree.node p0.kind p0.text (a.set 1 []) b).kind) ((Tree.node p0.kind p0.text (a.set 1 []) b).text) ((Tree.node p0.kind p0.text (a.set 1 []) b).leads)<|(Tree.node p0.kind p0.text (a.set 1 []) b).kids)]⟩) [0] [] I hK pq1 (pqo1 I I) I<|qN [.cell 4 29];refine gR 7 rfl<|qXeZ 85 87 rfl rfl rfl rfl h ?_ ?_<;>intro hd h;refine gR 7 I ?_;obtain⟨r,j,h⟩:=h;refine gY (yIO ah I I I I<|qG<|ax (f:=V.str) j) I I ?_;refine gDo (.set 3<|.row 9 1<|List.map V.str<|a.set 1 []) (dSe ah I I I I (ax (f:=V.str) j) I<|mQ V.str a 1 []) (okS I) I I I<|gR 17 I<|gFR 3 I (fi _ (λ_=>I) _) I I<|gFR 2 I (dk _) I I ?_;subst h;exact go_sub (F':=(mkF 109 0 [(4,.ptr 0 0)])) (H':=⟨1,[(0,vB ((Tree.node p0.kind p0.text (a.set 1 []) b).kind) ((Tree.node p0.kind p0.text (a.set 1 []) b).text) ((Tree.node p0.kind p0.text (a.set 1 []) b).leads)<|(Tree.node p0.kind p0.text (a.set 1 []) b).kids)]⟩) [0] [] I hK pq1 (pqo1 I I) I<|qN [.cell 4 29];refine gR 6 rfl<|qXeZ 85 88 rfl rfl rfl rfl h ?_ ?_<;>intro hd h;refine gR 4 I ?_;obtain⟨s,k,h⟩:=h;refine gY (yIO ah I I I I<|qG<|ax (f:=V.str) k) I I ?_;refine gDo (.set 3<|.row 9 1<|List.map V.str<|a.set 1 []) (dSe ah I I I I (ax (f:=V.str) k) I<|mQ V.str a 1 []) (okS I) I I I<|gR 17 I<|gFR 3 I (fi _ (λ_=>I) _) I I<|gFR 2 I (dk _) I I ?_;subst h;exact go_sub (F':=(mkF 109 0 [(4,.ptr 0 0)])) (H':=⟨1,[(0,vB ((Tree.node p0.kind p0.text (a.set 1 []) b).kind) ((Tree.node p0.kind p0.text (a.set 1 []) b).text) ((Tree.node p0.kind p0.text (a.set 1 []) b).leads)<|(Tree.node p0.kind p0.text (a.set 1 []) b).kids)]⟩) [0] [] I hK pq1 (pqo1 I I) I<|qN [.cell 4 29];refine gR 8 rfl<|qXeZ 92 93 rfl rfl rfl rfl h ?_ ?_<;>intro hd h;exact gR 10 I<|go_loop m<|qW hK h [0,1,2,3];refine gR 6 rfl<|qXeZ 92 94 rfl rfl rfl rfl h ?_ ?_<;>intro hd h;exact gR 7 I<|go_loop m<|qW hK h [0,1,2,3];refine gR 18 I<|gFR 3 I (fi _ (λ_=>I) _) I I<|gFR 2 I (dk _) I I ?_;subst h;exact go_sub (F':=(mkF 109 0 [(4,.ptr 0 0)])) (H':=⟨1,[(0,vB ((Tree.node p0.kind p0.text a b).kind) ((Tree.node p0.kind p0.text a b).text) ((Tree.node p0.kind p0.text a b).leads)<|(Tree.node p0.kind p0.text a b).kids)]⟩) [0] [] I hK pq1 (pqo1 I I) I<|qN [.cell 4 29]
theorem ku(m:Nat)(G:Tree)(a:(List YB))(b:Nat)(c:YT)(J:Tree)(h:y7 (b<a.length) (∃e,a[b]?=some e∧ir m G (a.set b []) (b+1) c J)<|(Tree.node G.kind G.text a c)=J):ir (m+1) G a b c J:=by
 refine qj λK U O i=>?_;refine gR 7 rfl<|gV 77 (qi (a.length:Int)) rfl (aN<|aB V.str _) rfl<|gLO 3 rfl (aB V.str _) λg=>gR 3 rfl<|qXh 78 rfl rfl rfl h co cp ?_ ?_<;>intro Z h;refine gR 9 I ?_;obtain⟨e,d,h⟩:=h;refine gY (yIO ah I I I I<|qG<|ax (f:=V.str) d) I I ?_;exact gDo (.set 3<|.row 9 1<|List.map V.str<|a.set b []) (dSe ah I I I I (ax (f:=V.str) d) I<|mQ V.str a b []) (okS I) I I I<|gR 6 I<|gV 80 (qi ((b+1:Nat):Int)) I (ao (by have :=g;omega)<|by omega) I<|gR 2 I<|go_xloop<|qW O h [0,1,2,3];refine gR 3 I<|go_xloopE<|gR 17 I<|gFR 3 I (fi _ (λ_=>I) _) I I<|gFR 2 I (dk _) I I ?_;subst h;exact go_sub (F':=(mkF 109 0 [(4,.ptr 0 0)])) (H':=⟨1,[(0,vB ((Tree.node G.kind G.text a c).kind) ((Tree.node G.kind G.text a c).text) ((Tree.node G.kind G.text a c).leads)<|(Tree.node G.kind G.text a c).kids)]⟩) [0] [] I O pq1 (pqo1 I I) I<|qN [.cell 4 29]
theorem kv(m:Nat)(G:Tree)(a:(List YB))(b:Nat)(c:YT)(J:Tree)(h:y7 (b<a.length) (∃e,a[b]?=some e∧fx m G (a.set b []) (b+1) c J)<|(Tree.node G.kind G.text a c)=J):fx (m+1) G a b c J:=by
 refine qj λK U O i=>?_;refine gR 7 rfl<|gV 98 (qi (a.length:Int)) rfl (aN<|aB V.str _) rfl<|gLO 3 rfl (aB V.str _) λg=>gR 3 rfl<|qXh 99 rfl rfl rfl h co cp ?_ ?_<;>intro Z h;refine gR 9 I ?_;obtain⟨e,d,h⟩:=h;refine gY (yIO ah I I I I<|qG<|ax (f:=V.str) d) I I ?_;exact gDo (.set 3<|.row 9 1<|List.map V.str<|a.set b []) (dSe ah I I I I (ax (f:=V.str) d) I<|mQ V.str a b []) (okS I) I I I<|gR 6 I<|gV 101 (qi ((b+1:Nat):Int)) I (ao (by have :=g;omega)<|by omega) I<|gR 2 I<|go_xloop<|qW O h [0,1,2,3];refine gR 3 I<|go_xloopE<|gR 17 I<|gFR 3 I (fi _ (λ_=>I) _) I I<|gFR 2 I (dk _) I I ?_;subst h;exact go_sub (F':=(mkF 109 0 [(4,.ptr 0 0)])) (H':=⟨1,[(0,vB ((Tree.node G.kind G.text a c).kind) ((Tree.node G.kind G.text a c).text) ((Tree.node G.kind G.text a c).leads)<|(Tree.node G.kind G.text a c).kids)]⟩) [0] [] I O pq1 (pqo1 I I) I<|qN [.cell 4 29]
theorem pY(m:Nat)(G J:Tree)(h:∃b,eO G b∧((b=false)->(Tree.node 0 [] [] [])=J)∧((b=true)->∃a,iH G [] a∧a=J)):mv G J:=by
 refine⟨I,I,?_⟩;refine qA 9 [] func71 λK O=>?_;refine gR 3 I<|gFP 0 I I I I<|gR 7 I ?_;obtain⟨b,c,h⟩:=h;refine qC0 c rfl<|gR 3 rfl<|qBh 5 rfl rfl rfl h bD bC ?_ ?_<;>intro h;refine gR 9 I ?_;subst h;exact go_sub (F':=(mkF 9 0 [(2,.ptr 0 0)])) (H':=⟨1,[(0,vB ((Tree.node 0 [] [] []).kind) ((Tree.node 0 [] [] []).text) ((Tree.node 0 [] [] []).leads)<|(Tree.node 0 [] [] []).kids)]⟩) [1] [] I O pq1 ⟨⟨_,I,I,(.cons .rfl<|.cons .rfl<|.cons (.nil 1)<|.cons (.nil 4) .nil)⟩,trivial⟩ I<|qN [.cell 2 29];refine gR 6 I ?_;obtain⟨a,d,h⟩:=h;refine qC0 d I<|gR 4 I ?_;subst h;exact go_sub (F':=(mkF 9 0 [(2,.ptr 0 0)])) (H':=⟨1,[(0,vB a.kind a.text a.leads a.kids)]⟩) [1] [] I O pq1 (pqo1 I I) I<|qN [.cell 2 29]
theorem js(m:Nat)(G:Tree)(J:Bool)(h:∃a,hV G a∧((a=true)->∃b,jl G b∧((b=true)->∃c,kr G c∧((c<=40)->∃d,nK G d∧decide ((d.length:Int)<=4096)=J)∧((¬c<=40)->false=J))∧((b=false)->false=J))∧((a=false)->false=J)):ia G J:=by
 refine⟨I,I,?_⟩;refine qA 20 [] func44 λK O=>?_;refine gR 3 I<|gFP 0 I I I I<|gR 6 I ?_;obtain⟨a,e,h⟩:=h;refine qC0 e rfl<|gR 1 rfl<|qBiZ 5 4 rfl rfl rfl rfl h ?_ ?_<;>intro h;refine gR 1 I ?_;obtain⟨b,f,h⟩:=h;refine qC0 f rfl<|gR 2 rfl<|qBiZ 9 8 rfl rfl rfl rfl h ?_ ?_<;>intro h;refine gR 1 I ?_;obtain⟨c,g,h⟩:=h;refine qC0 g rfl<|gR 3 rfl<|qBdZ 14 13 rfl rfl rfl rfl h ?_ ?_<;>intro h;refine gR 1 I ?_;obtain⟨d,i,h⟩:=h;refine qC0 i I<|gR 7 I ?_;subst h;exact qN [.tmp 2];refine gR 9 I ?_;subst h;exact qN [.tmp 2];refine gR 14 I ?_;subst h;exact qN [.tmp 2];refine gR 18 I ?_;subst h;exact qN [.tmp 2]
theorem ox(m:Nat)(G:Tree)(J:Bool)(h:∃a,eO G a∧((a=true)->∃b,kp G b∧b=J)∧((a=false)->false=J)):hV G J:=by
 refine⟨I,I,?_⟩;refine qA 9 [] func73 λK O=>?_;refine gR 3 I<|gFP 0 I I I I<|gR 6 I ?_;obtain⟨a,c,h⟩:=h;refine qC0 c rfl<|gR 1 rfl<|qBiZ 5 4 rfl rfl rfl rfl h ?_ ?_<;>intro h;refine gR 1 I ?_;obtain⟨b,d,h⟩:=h;refine qC0 d I<|gR 5 I ?_;subst h;exact qN [.tmp 2];refine gR 7 I ?_;subst h;exact qN [.tmp 2]
def eQ(m:Nat)(G:Tree)(a:Nat)(J:Bool):Prop:=y4 m [] f112 (q9<|.bool J) (xK<|aj f112) [.blk 0,.seq<|xF<|aj f112] 50 [(1,.box (ak G) 0),(3,qi (a:Int))] ⟨0,[]⟩
def jp(m:Nat)(G:Tree)(a:Nat)(J:Bool):Prop:=y4 m [] f112 (q9<|.bool J) (xG<|xF<|aj f112) [.blk 2,.seq<|xI<|aj f112] 50 [(1,.box (ak G) 0),(4,qi (a:Int))] ⟨0,[]⟩
theorem rK(m:Nat)(p0:Tree)(r0:Bool)(h:∃a,ig p0.kind (p0.kids.length:Int) a∧(((p0.leads.length:Int)≠a)->false=r0)∧(((p0.leads.length:Int)=a)->eQ m p0 0 r0)):kp p0 r0:=by
 refine⟨I,I,?_⟩;refine qA 50 [] func112 λK hK=>?_;refine gR 3 I<|gFP 0 I I I I<|gR 5 I<|qDs [] 10 10<|qDr (qR 0 3 2 []) I I<|gV 7 (qi (p0.leads.length:Int)) I (aN<|aB V.str _) I<|gLB 6 I (aB V.str _) λc=>qDr ((3,2)::(4,2)::(qR 5 3 0 [])) I I<|gV 12 (qi (p0.kids.length:Int)) I (aN<|aD _) I<|gLB 11 I (aD _) λd=>?_;obtain⟨a,b,h⟩:=h;refine bG 8 b (by kernel_rfl) I (by kernel_rfl) I I .rfl I I ?_;refine qDr [(9,0)] rfl rfl<|qDe<|gR 1 rfl<|qXh 14 rfl rfl rfl h dY cO ?_ ?_<;>intro hd h;refine gR 8 I ?_;subst h;exact qN [.tmp 2];exact gR 10 I<|go_loop m<|qW hK h []
theorem fR(m:Nat)(p0:Tree)(a:Nat)(r0:Bool)(h:y7 (a<p0.leads.length) (∃b,p0.leads[a]?=some b∧q9a p0.kind 1 (∃c,nj b ((a:Int)==2) c∧y9 c (false=r0) (eQ m p0 (a+1) r0)) (∃d,nj b false d∧y9 d (false=r0) (eQ m p0 (a+1) r0)))<|jp m p0 0 r0):eQ (m+1) p0 a r0:=by
 refine qj λK j1 hK k=>?_;refine gR 7 rfl<|gV 18 (qi (p0.leads.length:Int)) rfl (aN<|aB V.str _) rfl<|gLB 17 rfl (aB V.str _) λg=>gR 3 rfl<|qXh 19 rfl rfl rfl h co cp ?_ ?_<;>intro hd h;refine gR 6 I<|qDs [] 14 14<|qDr (qR 0 3 2 []) I I ?_;obtain⟨b,e,h⟩:=h;refine gYd 3 rfl (by kernel_rfl) (aF (ax (f:=V.str) e) ah rfl rfl rfl rfl) rfl rfl<|qDr ((4,2)::(qR 5 4 0 [])) rfl rfl<|qXeZ 30 29 rfl rfl rfl rfl h ?_ ?_<;>intro hd h;refine qDr (qR 9 3 0 []) I I ?_;obtain⟨c,i,h⟩:=h;refine bG 12 i (by kernel_rfl) I (by kernel_rfl) I I .rfl I I ?_;refine qDr [(13,0)] rfl rfl<|qDe<|gR 1 rfl<|qXh 35 rfl rfl rfl h bD bC ?_ ?_<;>intro hd h;refine gR 9 I<|go_xloopR<|gR 2 I ?_;subst h;exact qN [.tmp 2];exact gR 7 I<|gV 21 (qi ((a+1:Nat):Int)) I (ao (by have :=g;omega)<|by omega) I<|gR 2 I<|go_xloop<|qW hK h [];refine qDr (qR 9 3 0 []) I I ?_;obtain⟨d,j,h⟩:=h;refine bG 12 j (by kernel_rfl) I (by kernel_rfl) I I .rfl I I ?_;refine qDr [(13,0)] rfl rfl<|qDe<|gR 1 rfl<|qXh 35 rfl rfl rfl h bD bC ?_ ?_<;>intro hd h;refine gR 9 I<|go_xloopR<|gR 2 I ?_;subst h;exact qN [.tmp 2];exact gR 7 I<|gV 21 (qi ((a+1:Nat):Int)) I (ao (by have :=g;omega)<|by omega) I<|gR 2 I<|go_xloop<|qW hK h [];exact gR 3 I<|go_xloopE<|gR 9 I<|go_loop m<|qW hK h []
theorem iR(m:Nat)(G:Tree)(a:Nat)(J:Bool)(h:y7 (a<G.kids.length) (∃c,G.kids[a]?=some c∧∃b,kp c b∧y9 b (false=J) (jp m G (a+1) J))<|true=J):jp (m+1) G a J:=by
 refine qj λK Z O g=>?_;refine gR 7 rfl<|gV 39 (qi (G.kids.length:Int)) rfl (aN<|aD _) rfl<|gLB 38 rfl (aD _) λe=>gR 3 rfl<|qXh 40 rfl rfl rfl h co cp ?_ ?_<;>intro U h;refine gR 10 I ?_;obtain⟨c,d,h⟩:=h;refine gY (aF (aq d) ah I I I I) I I<|gR 1 I ?_;obtain⟨b,f,h⟩:=h;refine qC0 f rfl<|gR 3 rfl<|qXh 49 rfl rfl rfl h bD bC ?_ ?_<;>intro U h;refine gR 9 I<|go_xloopR<|gR 2 I ?_;subst h;exact qN [.tmp 2];exact gR 7 I<|gV 42 (qi ((a+1:Nat):Int)) I (ao (by have :=e;omega)<|by omega) I<|gR 2 I<|go_xloop<|qW O h [];refine gR 3 I<|go_xloopE<|gR 8 I ?_;subst h;exact qN [.tmp 2]
def aL(m:Nat)(G:Tree)(a:Nat)(J:Bool):Prop:=y4 m [] f74 (q9<|.bool J) (xG<|xF<|aj f74) [.blk 0,.seq<|xI<|aj f74] 54 [(1,.box (ak G) 0),(3,qi (G.kids.length:Int)),(4,qi (a:Int))] ⟨0,[]⟩
theorem rB(m:Nat)(p0:Tree)(r0:Bool)(h:((p0.kind=1)->((40<(p0.kids.length:Int))->false=r0)∧((¬40<(p0.kids.length:Int))->((p0.kind=2)->((10<(p0.kids.length:Int))->false=r0)∧((¬10<(p0.kids.length:Int))->((p0.kind=16)->((8<(p0.kids.length:Int))->false=r0)∧((¬8<(p0.kids.length:Int))->((p0.kind=18)->((16<(p0.kids.length:Int))->false=r0)∧((¬16<(p0.kids.length:Int))->aL m p0 0 r0))∧((p0.kind≠18)->aL m p0 0 r0)))∧((p0.kind≠16)->((p0.kind=18)->((16<(p0.kids.length:Int))->false=r0)∧((¬16<(p0.kids.length:Int))->aL m p0 0 r0))∧((p0.kind≠18)->aL m p0 0 r0))))∧((p0.kind≠2)->((p0.kind=16)->((8<(p0.kids.length:Int))->false=r0)∧((¬8<(p0.kids.length:Int))->((p0.kind=18)->((16<(p0.kids.length:Int))->false=r0)∧((¬16<(p0.kids.length:Int))->aL m p0 0 r0))∧((p0.kind≠18)->aL m p0 0 r0)))∧((p0.kind≠16)->((p0.kind=18)->((16<(p0.kids.length:Int))->false=r0)∧((¬16<(p0.kids.length:Int))->aL m p0 0 r0))∧((p0.kind≠18)->aL m p0 0 r0)))))∧((p0.kind≠1)->((p0.kind=2)->((10<(p0.kids.length:Int))->false=r0)∧((¬10<(p0.kids.length:Int))->((p0.kind=16)->((8<(p0.kids.length:Int))->false=r0)∧((¬8<(p0.kids.length:Int))->((p0.kind=18)->((16<(p0.kids.length:Int))->false=r0)∧((¬16<(p0.kids.length:Int))->aL m p0 0 r0))∧((p0.kind≠18)->aL m p0 0 r0)))∧((p0.kind≠16)->((p0.kind=18)->((16<(p0.kids.length:Int))->false=r0)∧((¬16<(p0.kids.length:Int))->aL m p0 0 r0))∧((p0.kind≠18)->aL m p0 0 r0))))∧((p0.kind≠2)->((p0.kind=16)->((8<(p0.kids.length:Int))->false=r0)∧((¬8<(p0.kids.length:Int))->((p0.kind=18)->((16<(p0.kids.length:Int))->false=r0)∧((¬16<(p0.kids.length:Int))->aL m p0 0 r0))∧((p0.kind≠18)->aL m p0 0 r0)))∧((p0.kind≠16)->((p0.kind=18)->((16<(p0.kids.length:Int))->false=r0)∧((¬16<(p0.kids.length:Int))->aL m p0 0 r0))∧((p0.kind≠18)->aL m p0 0 r0))))):jl p0 r0:=by
 refine⟨I,I,?_⟩;refine qA 54 [] func74 λK hK=>?_;refine gR 3 rfl<|gFP 0 rfl rfl rfl rfl<|gR 8 rfl<|gV 7 (qi (p0.kids.length:Int)) rfl (aN<|aD _) rfl<|gLB 6 rfl (aD _) λa=>gR 10 rfl<|qXeZ 11 10 rfl rfl rfl rfl h ?_ ?_<;>intro hd h;refine gR 4 rfl<|qXdZ 15 14 rfl rfl rfl rfl h ?_ ?_<;>intro hd h;refine gR 36 I ?_;subst h;exact qN [.tmp 2];refine gR 4 rfl<|qXeZ 19 18 rfl rfl rfl rfl h ?_ ?_<;>intro hd h;refine gR 5 rfl<|qXdZ 24 23 rfl rfl rfl rfl h ?_ ?_<;>intro hd h;refine gR 27 I ?_;subst h;exact qN [.tmp 2];refine gR 4 rfl<|qXeZ 28 27 rfl rfl rfl rfl h ?_ ?_<;>intro hd h;refine gR 5 rfl<|qXdZ 33 32 rfl rfl rfl rfl h ?_ ?_<;>intro hd h;refine gR 18 I ?_;subst h;exact qN [.tmp 2];refine gR 4 rfl<|qXeZ 37 36 rfl rfl rfl rfl h ?_ ?_<;>intro hd h;refine gR 6 rfl<|qXd 41 rfl rfl rfl h ?_ ?_<;>intro hd h;refine gR 8 I ?_;subst h;exact qN [.tmp 2];exact gR 10 I<|go_loop m<|qW hK h [];exact gR 16 I<|go_loop m<|qW hK h [];refine gR 9 rfl<|qXeZ 37 36 rfl rfl rfl rfl h ?_ ?_<;>intro hd h;refine gR 6 rfl<|qXd 41 rfl rfl rfl h ?_ ?_<;>intro hd h;refine gR 8 I ?_;subst h;exact qN [.tmp 2];exact gR 10 I<|go_loop m<|qW hK h [];exact gR 16 I<|go_loop m<|qW hK h [];refine gR 9 rfl<|qXeZ 28 27 rfl rfl rfl rfl h ?_ ?_<;>intro hd h;refine gR 5 rfl<|qXdZ 33 32 rfl rfl rfl rfl h ?_ ?_<;>intro hd h;refine gR 18 I ?_;subst h;exact qN [.tmp 2];refine gR 4 rfl<|qXeZ 37 36 rfl rfl rfl rfl h ?_ ?_<;>intro hd h;refine gR 6 rfl<|qXd 41 rfl rfl rfl h ?_ ?_<;>intro hd h;refine gR 8 I ?_;subst h;exact qN [.tmp 2];exact gR 10 I<|go_loop m<|qW hK h [];exact gR 16 I<|go_loop m<|qW hK h [];refine gR 9 rfl<|qXeZ 37 36 rfl rfl rfl rfl h ?_ ?_<;>intro hd h;refine gR 6 rfl<|qXd 41 rfl rfl rfl h ?_ ?_<;>intro hd h;refine gR 8 I ?_;subst h;exact qN [.tmp 2];exact gR 10 I<|go_loop m<|qW hK h [];exact gR 16 I<|go_loop m<|qW hK h [];refine gR 8 rfl<|qXeZ 19 18 rfl rfl rfl rfl h ?_ ?_<;>intro hd h;refine gR 5 rfl<|qXdZ 24 23 rfl rfl rfl rfl h ?_ ?_<;>intro hd h;refine gR 27 I ?_;subst h;exact qN [.tmp 2];refine gR 4 rfl<|qXeZ 28 27 rfl rfl rfl rfl h ?_ ?_<;>intro hd h;refine gR 5 rfl<|qXdZ 33 32 rfl rfl rfl rfl h ?_ ?_<;>intro hd h;refine gR 18 I ?_;subst h;exact qN [.tmp 2];refine gR 4 rfl<|qXeZ 37 36 rfl rfl rfl rfl h ?_ ?_<;>intro hd h;refine gR 6 rfl<|qXd 41 rfl rfl rfl h ?_ ?_<;>intro hd h;refine gR 8 I ?_;subst h;exact qN [.tmp 2];exact gR 10 I<|go_loop m<|qW hK h [];exact gR 16 I<|go_loop m<|qW hK h [];refine gR 9 rfl<|qXeZ 37 36 rfl rfl rfl rfl h ?_ ?_<;>intro hd h;refine gR 6 rfl<|qXd 41 rfl rfl rfl h ?_ ?_<;>intro hd h;refine gR 8 I ?_;subst h;exact qN [.tmp 2];exact gR 10 I<|go_loop m<|qW hK h [];exact gR 16 I<|go_loop m<|qW hK h [];refine gR 9 rfl<|qXeZ 28 27 rfl rfl rfl rfl h ?_ ?_<;>intro hd h;refine gR 5 rfl<|qXdZ 33 32 rfl rfl rfl rfl h ?_ ?_<;>intro hd h;refine gR 18 I ?_;subst h;exact qN [.tmp 2];refine gR 4 rfl<|qXeZ 37 36 rfl rfl rfl rfl h ?_ ?_<;>intro hd h;refine gR 6 rfl<|qXd 41 rfl rfl rfl h ?_ ?_<;>intro hd h;refine gR 8 I ?_;subst h;exact qN [.tmp 2];exact gR 10 I<|go_loop m<|qW hK h [];exact gR 16 I<|go_loop m<|qW hK h [];refine gR 9 rfl<|qXeZ 37 36 rfl rfl rfl rfl h ?_ ?_<;>intro hd h;refine gR 6 rfl<|qXd 41 rfl rfl rfl h ?_ ?_<;>intro hd h;refine gR 8 I ?_;subst h;exact qN [.tmp 2];exact gR 10 I<|go_loop m<|qW hK h [];exact gR 16 I<|go_loop m<|qW hK h []
theorem iw(m:Nat)(G:Tree)(a:Nat)(J:Bool)(h:y7 (a<G.kids.length) (∃c,G.kids[a]?=some c∧∃b,jl c b∧y9 b (false=J) (a+1<=9223372036854775807∧aL m G (a+1) J))<|true=J):aL (m+1) G a J:=by
 refine qj λK Z O f=>?_;refine gR 8 rfl<|qXh 44 rfl rfl rfl h co cp ?_ ?_<;>intro U h;refine gR 10 I ?_;obtain⟨c,d,h⟩:=h;refine gY (aF (aq d) ah I I I I) I I<|gR 1 I ?_;obtain⟨b,e,h⟩:=h;refine qC0 e rfl<|gR 3 rfl<|qXh 53 rfl rfl rfl h bD bC ?_ ?_<;>intro U h;refine gR 9 I<|go_xloopR<|gR 2 I ?_;subst h;exact qN [.tmp 2];refine gR 6 I ?_;obtain⟨hb,h⟩:=h;exact gR 1 I<|gV 46 (qi ((a+1:Nat):Int)) I (ao (by omega)<|by omega) I<|gR 2 I<|go_xloop<|qW O h [];refine gR 3 I<|go_xloopE<|gR 8 I ?_;subst h;exact qN [.tmp 2]
def jj(m:Nat)(G:Tree)(a:Int)(b:Nat)(J:Int):Prop:=y4 m [] f75 (q9<|qi J) (xK<|aj f75) [.blk 0,.seq<|xF<|aj f75] 22 [(1,.box (ak G) 0),(3,qi a),(4,qi (b:Int))] ⟨0,[]⟩
theorem yJ(m:Nat)(p0:Tree)(r0:Int)(h:jj m p0 0 0 r0):kr p0 r0:=by
 refine⟨I,I,?_⟩;refine qA 22 [] func75 λK hK=>?_;exact gR 3 I<|gFP 0 I I I I<|gR 15 I<|go_loop m<|qW hK h []
theorem me(m:Nat)(G:Tree)(b:Int)(a:Nat)(J:Int)(h:y7 (a<G.kids.length) (∃c,G.kids[a]?=some c∧∃d,kr c d∧jj m G (max b d) (a+1) J)<|InI (b+1)∧(b+1)=J):jj (m+1) G b a J:=by
 refine qj λK U O i=>?_;refine gR 7 rfl<|gV 8 (qi (G.kids.length:Int)) rfl (aN<|aD _) rfl<|gLB 7 rfl (aD _) λf=>gR 3 rfl<|qXh 9 rfl rfl rfl h co cp ?_ ?_<;>intro Z h;refine gR 10 I ?_;obtain⟨c,e,h⟩:=h;refine gY (aF (aq e) ah I I I I) I I<|gR 1 I ?_;obtain⟨d,g,h⟩:=h;exact qC0 g I<|gR 8 I<|gV 11 (qi ((a+1:Nat):Int)) I (ao (by have :=f;omega)<|by omega) I<|gR 2 I<|go_xloop<|qW O h [];refine gR 3 I<|go_xloopE<|gR 5 I ?_;obtain⟨hb,h⟩:=h;refine gR 1 I<|gV 21 (qi<|b+1) I (ao hb I) I<|gR 4 I ?_;subst h;exact qN [.tmp 2]
def cY(m:Nat)(a:List aa)(b:YB)(c:Nat)(G:YB):Prop:=y4 m [] f76 (q9<|.str G) (xG<|xI<|aj f76) [.blk 0,.seq<|xA<|xF<|aj f76] 57 [(3,.row 2<|List.map aa.w a),(4,.str b),(5,qi (c:Int))] ⟨0,[]⟩
theorem si(m:Nat)(p0:Tree)(r0:YB)(h:∃a,hV p0 a∧((a=false)->[]=r0)∧((a=true)->∃b,rZ p0 b∧cY m b [] 0 r0)):nK p0 r0:=by
 refine⟨I,I,?_⟩;refine qA 57 [] func76 λK hK=>?_;refine gR 3 I<|gFP 0 I I I I<|gR 7 I ?_;obtain⟨a,c,h⟩:=h;refine qC0 c rfl<|gR 3 rfl<|qXh 8 rfl rfl rfl h bD bC ?_ ?_<;>intro hd h;refine gR 8 I ?_;subst h;exact qN [.tmp 2];refine gR 6 I ?_;obtain⟨b,d,h⟩:=h;exact qC0 d I<|gR 15 I<|go_loop m<|qW hK h []
theorem ec(m:Nat)(b:List aa)(c:YB)(a:Nat)(G:YB)(h:y7 (a<b.length) (y7 (0<(a:Int)) (∃l,b[a]?=some l∧q9a l.Lead [] (InI ((a:Int)-1)∧∃n,((a:Int)-1)=((n:Nat):Int)∧∃s,b[n]?=some s∧∃t,b[a]?=some t∧∃o,sU s.Text t.Text o∧y8 o (c.length+[32].length<=9223372036854775807∧∃j,b[a]?=some j∧(c++[32]).length+j.Lead.length<=9223372036854775807∧∃p,b[a]?=some p∧((c++[32])++j.Lead).length+p.Text.length<=9223372036854775807∧cY m b (((c++[32])++j.Lead)++p.Text) (a+1) G) (∃k,b[a]?=some k∧c.length+k.Lead.length<=9223372036854775807∧∃q,b[a]?=some q∧(c++k.Lead).length+q.Text.length<=9223372036854775807∧cY m b ((c++k.Lead)++q.Text) (a+1) G)) (∃d,b[a]?=some d∧c.length+d.Lead.length<=9223372036854775807∧∃g,b[a]?=some g∧(c++d.Lead).length+g.Text.length<=9223372036854775807∧cY m b ((c++d.Lead)++g.Text) (a+1) G)) (∃e,b[a]?=some e∧c.length+e.Lead.length<=9223372036854775807∧∃i,b[a]?=some i∧(c++e.Lead).length+i.Text.length<=9223372036854775807∧cY m b ((c++e.Lead)++i.Text) (a+1) G))<|c=G):cY (m+1) b c a G:=by
 refine qj λK U J κ=>?_;refine gR 6 rfl<|gV 13 (qi (b.length:Int)) rfl (aN<|aB aa.w _) rfl<|gLB 12 rfl (aB aa.w _) λr=>gR 3 rfl<|qXh 14 rfl rfl rfl h co cp ?_ ?_<;>intro O h;refine gR 7 rfl<|qDs [] 24 24<|qDr (qR 0 3 0 []) rfl rfl<|qXdZ 19 18 rfl rfl rfl rfl h ?_ ?_<;>intro O h;refine qDr [(3,2),(4,0)] I I ?_;obtain⟨l,α,h⟩:=h;refine bQ 5 I (by kernel_rfl) (aF (ax (f:=aa.w) α) ah I I I I) I I ?_;refine qDr (qR 6 5 0 []) rfl rfl<|qXeZ 27 26 rfl rfl rfl rfl h ?_ ?_<;>intro O h;refine qDr [(11,2),(12,2)] I I ?_;obtain⟨hb,h⟩:=h;refine qDr [(13,2)] I I<|gV 30 (qi<|(a:Int)-1) I (ao hb I) I ?_;obtain⟨n,θ,h⟩:=h;refine gV 30 (qi ((n:Nat):Int)) I (aT θ) I ?_;obtain⟨s,β,h⟩:=h;refine gYd 14 I (by kernel_rfl) (aF (ax (f:=aa.w) β) ah I I I I) I I<|qDr (qR 15 3 2 [(18,0)]) I I ?_;obtain⟨t,γ,h⟩:=h;refine bQ 19 I (by kernel_rfl) (aF (ax (f:=aa.w) γ) ah I I I I) I I ?_;refine qDr [(20,0),(21,0)] I I ?_;obtain⟨o,ι,h⟩:=h;refine bG 22 ι (by kernel_rfl) I (by kernel_rfl) I I .rfl I I ?_;refine qDr [(23,0)] rfl rfl<|qDe<|gR 1 rfl<|qXi 40 rfl rfl rfl h ?_ ?_<;>intro O h;refine gR 3 I ?_;obtain⟨hb,h⟩:=h;refine gY (zh I I hb) I I<|gR 3 I<|qDs [] 14 14<|qDr (qR 0 3 2 []) I I ?_;obtain⟨j,δ,h⟩:=h;refine gYd 3 I (by kernel_rfl) (aF (ax (f:=aa.w) δ) ah I I I I) I I<|qDr [(4,2),(5,2)] I I ?_;obtain⟨hb,h⟩:=h;refine gYd 6 I (by kernel_rfl) (zh I I hb) I I<|qDr [(7,2),(8,0)] I I ?_;obtain⟨p,ε,h⟩:=h;refine bQ 9 I (by kernel_rfl) (aF (ax (f:=aa.w) ε) ah I I I I) I I ?_;refine qDr [(10,0),(11,0)] I I ?_;obtain⟨hb,h⟩:=h;refine bQ 12 I (by kernel_rfl) (zh I I hb) I I ?_;exact qDr [(13,0)] I I<|qDe<|gR 5 I<|gV 16 (qi ((a+1:Nat):Int)) I (ao (by have :=r;omega)<|by omega) I<|gR 2 I<|go_xloop<|qW J h [];refine gR 3 I<|qDs [] 14 14<|qDr (qR 0 3 2 []) I I ?_;obtain⟨k,ζ,h⟩:=h;refine gYd 3 I (by kernel_rfl) (aF (ax (f:=aa.w) ζ) ah I I I I) I I<|qDr [(4,2),(5,2)] I I ?_;obtain⟨hb,h⟩:=h;refine gYd 6 I (by kernel_rfl) (zh I I hb) I I<|qDr [(7,2),(8,0)] I I ?_;obtain⟨q,η,h⟩:=h;refine bQ 9 I (by kernel_rfl) (aF (ax (f:=aa.w) η) ah I I I I) I I ?_;refine qDr [(10,0),(11,0)] I I ?_;obtain⟨hb,h⟩:=h;refine bQ 12 I (by kernel_rfl) (zh I I hb) I I ?_;exact qDr [(13,0)] I I<|qDe<|gR 5 I<|gV 16 (qi ((a+1:Nat):Int)) I (ao (by have :=r;omega)<|by omega) I<|gR 2 I<|go_xloop<|qW J h [];refine qDr (qR 11 7 2<|qR 18 6 0 []) I I<|qDe<|gR 4 I<|qDs [] 14 14<|qDr (qR 0 3 2 []) I I ?_;obtain⟨d,v,h⟩:=h;refine gYd 3 I (by kernel_rfl) (aF (ax (f:=aa.w) v) ah I I I I) I I<|qDr [(4,2),(5,2)] I I ?_;obtain⟨hb,h⟩:=h;refine gYd 6 I (by kernel_rfl) (zh I I hb) I I<|qDr [(7,2),(8,0)] I I ?_;obtain⟨g,x,h⟩:=h;refine bQ 9 I (by kernel_rfl) (aF (ax (f:=aa.w) x) ah I I I I) I I ?_;refine qDr [(10,0),(11,0)] I I ?_;obtain⟨hb,h⟩:=h;refine bQ 12 I (by kernel_rfl) (zh I I hb) I I ?_;exact qDr [(13,0)] I I<|qDe<|gR 5 I<|gV 16 (qi ((a+1:Nat):Int)) I (ao (by have :=r;omega)<|by omega) I<|gR 2 I<|go_xloop<|qW J h [];refine qDr ((3,2)::(qR 4 7 0<|qR 11 7 2<|qR 18 6 0 [])) I I<|qDe<|gR 4 I<|qDs [] 14 14<|qDr (qR 0 3 2 []) I I ?_;obtain⟨e,y,h⟩:=h;refine gYd 3 I (by kernel_rfl) (aF (ax (f:=aa.w) y) ah I I I I) I I<|qDr [(4,2),(5,2)] I I ?_;obtain⟨hb,h⟩:=h;refine gYd 6 I (by kernel_rfl) (zh I I hb) I I<|qDr [(7,2),(8,0)] I I ?_;obtain⟨i,z,h⟩:=h;refine bQ 9 I (by kernel_rfl) (aF (ax (f:=aa.w) z) ah I I I I) I I ?_;refine qDr [(10,0),(11,0)] I I ?_;obtain⟨hb,h⟩:=h;refine bQ 12 I (by kernel_rfl) (zh I I hb) I I ?_;exact qDr [(13,0)] I I<|qDe<|gR 5 I<|gV 16 (qi ((a+1:Nat):Int)) I (ao (by have :=r;omega)<|by omega) I<|gR 2 I<|go_xloop<|qW J h [];refine gR 3 I<|go_xloopE<|gR 9 I ?_;subst h;exact qN [.tmp 2]
theorem ya(m:Nat)(G:Tree)(J:List aa)(h:∃a,aw ([]:List aa) G a∧a=J):rZ G J:=by
 refine⟨I,I,?_⟩;refine qA 5 [] func113 λK O=>?_;refine gR 3 I<|gFP 0 I I I I<|gR 6 I ?_;obtain⟨a,b,h⟩:=h;refine gCn 0 164 2 b [1] (by kernel_rfl) I I I I .rfl ⟨⟨_,I,⟨I,I,I⟩⟩,trivial⟩ I ?_;rintro _ _ ⟨rfl,rfl⟩;refine gHR 3 (List.map aa.w a) I (vI _ a) I<|gR 4 I<|gFR 3 I (fi _ (λ_=>I) _) I I ?_;subst h;exact qN [.tmp 2]
def rv(m:Nat)(G:List aa)(p1:Tree)(J:List aa):Prop:=y5 [] f153 (z8 (.sl 1) ⟨2,[(1,.row 164 2<|List.map aa.w J)]⟩) (xJ<|xE<|xA<|aj f153) [.blk 0,.seq<|xF<|aj f153] 365 [(0,.sl 0),(3,.box (ak p1) 0),(5,qi (p1.kids.length:Int))] ⟨1,[(0,.row 164 2<|List.map aa.w G)]⟩
def my(m:Nat)(G:List aa)(p1:Tree)(J:List aa):Prop:=y5 [] f153 (z8 (.sl 1) ⟨2,[(1,.row 164 2<|List.map aa.w J)]⟩) (xM<|xA<|aj f153) [.blk 0,.seq<|xF<|aj f153] 365 [(0,.sl 0),(3,.box (ak p1) 0),(5,qi (p1.kids.length:Int)),(11,qi p1.kind)] ⟨1,[(0,.row 164 2<|List.map aa.w G)]⟩
def fW(m:Nat)(p1:Tree)(a:List aa)(b:Nat)(G:List aa):Prop:=y4 m [] f153 (z8 (.sl 1) ⟨2,[(1,.row 164 2<|List.map aa.w G)]⟩) (xG<|cB<|xJ<|xE<|xA<|aj f153) [.blk 1,.seq<|xA<|xJ<|xE<|xA<|aj f153,.blk 0,.seq<|xF<|aj f153] 365 [(0,.sl 0),(3,.box (ak p1) 0),(5,qi (p1.kids.length:Int)),(6,qi (b:Int))] ⟨1,[(0,.row 164 2<|List.map aa.w a)]⟩
def ry(m:Nat)(G:List aa)(p1:Tree)(J:List aa):Prop:=y5 [] f153 (z8 (.sl 1) ⟨2,[(1,.row 164 2<|List.map aa.w J)]⟩) (xJ<|xM<|xA<|aj f153) [.blk 0,.seq<|xF<|aj f153] 365 [(0,.sl 0),(3,.box (ak p1) 0),(5,qi (p1.kids.length:Int))] ⟨1,[(0,.row 164 2<|List.map aa.w G)]⟩
def mh(m:Nat)(G:List aa)(p1:Tree)(J:List aa):Prop:=y5 [] f153 (z8 (.sl 1) ⟨2,[(1,.row 164 2<|List.map aa.w J)]⟩) (xC<|xE<|xA<|aj f153) [.blk 0,.seq<|xF<|aj f153] 365 [(0,.sl 0),(3,.box (ak p1) 0),(5,qi (p1.kids.length:Int)),(11,qi p1.kind)] ⟨1,[(0,.row 164 2<|List.map aa.w G)]⟩
def rm(m:Nat)(G:List aa)(p1:Tree)(J:List aa):Prop:=y5 [] f153 (z8 (.sl 1) ⟨2,[(1,.row 164 2<|List.map aa.w J)]⟩) (xJ<|xC<|xE<|xA<|aj f153) [.blk 0,.seq<|xF<|aj f153] 365 [(0,.sl 0),(3,.box (ak p1) 0)] ⟨1,[(0,.row 164 2<|List.map aa.w G)]⟩
def mc(m:Nat)(G:List aa)(p1:Tree)(J:List aa):Prop:=y5 [] f153 (z8 (.sl 1) ⟨2,[(1,.row 164 2<|List.map aa.w J)]⟩) (xC<|xM<|xA<|aj f153) [.blk 0,.seq<|xF<|aj f153] 365 [(0,.sl 0),(3,.box (ak p1) 0),(5,qi (p1.kids.length:Int)),(11,qi p1.kind)] ⟨1,[(0,.row 164 2<|List.map aa.w G)]⟩
def rx(m:Nat)(G:List aa)(p1:Tree)(J:List aa):Prop:=y5 [] f153 (z8 (.sl 1) ⟨2,[(1,.row 164 2<|List.map aa.w J)]⟩) (xJ<|xC<|xM<|xA<|aj f153) [.blk 0,.seq<|xF<|aj f153] 365 [(0,.sl 0),(3,.box (ak p1) 0)] ⟨1,[(0,.row 164 2<|List.map aa.w G)]⟩
def ml(m:Nat)(G:List aa)(p1:Tree)(J:List aa):Prop:=y5 [] f153 (z8 (.sl 1) ⟨2,[(1,.row 164 2<|List.map aa.w J)]⟩) (xH<|xE<|xA<|aj f153) [.blk 0,.seq<|xF<|aj f153] 365 [(0,.sl 0),(3,.box (ak p1) 0),(5,qi (p1.kids.length:Int)),(11,qi p1.kind)] ⟨1,[(0,.row 164 2<|List.map aa.w G)]⟩
def mb(m:Nat)(G:List aa)(p1:Tree)(J:List aa):Prop:=y5 [] f153 (z8 (.sl 1) ⟨2,[(1,.row 164 2<|List.map aa.w J)]⟩) (xH<|xM<|xA<|aj f153) [.blk 0,.seq<|xF<|aj f153] 365 [(0,.sl 0),(3,.box (ak p1) 0),(5,qi (p1.kids.length:Int)),(11,qi p1.kind)] ⟨1,[(0,.row 164 2<|List.map aa.w G)]⟩
def lA(m:Nat)(G:List aa)(p1:Tree)(J:List aa):Prop:=y5 [] f153 (z8 (.sl 1) ⟨2,[(1,.row 164 2<|List.map aa.w J)]⟩) (xH<|xC<|xE<|xA<|aj f153) [.blk 0,.seq<|xF<|aj f153] 365 [(0,.sl 0),(3,.box (ak p1) 0),(5,qi (p1.kids.length:Int)),(11,qi p1.kind)] ⟨1,[(0,.row 164 2<|List.map aa.w G)]⟩
def ln(m:Nat)(G:List aa)(p1:Tree)(J:List aa):Prop:=y5 [] f153 (z8 (.sl 1) ⟨2,[(1,.row 164 2<|List.map aa.w J)]⟩) (xH<|xC<|xM<|xA<|aj f153) [.blk 0,.seq<|xF<|aj f153] 365 [(0,.sl 0),(3,.box (ak p1) 0),(5,qi (p1.kids.length:Int)),(11,qi p1.kind)] ⟨1,[(0,.row 164 2<|List.map aa.w G)]⟩
def lj(m:Nat)(G:List aa)(p1:Tree)(J:List aa):Prop:=y5 [] f153 (z8 (.sl 1) ⟨2,[(1,.row 164 2<|List.map aa.w J)]⟩) (xN<|xE<|xA<|aj f153) [.blk 0,.seq<|xF<|aj f153] 365 [(0,.sl 0),(3,.box (ak p1) 0),(5,qi (p1.kids.length:Int)),(11,qi p1.kind)] ⟨1,[(0,.row 164 2<|List.map aa.w G)]⟩
def lm(m:Nat)(G:List aa)(p1:Tree)(J:List aa):Prop:=y5 [] f153 (z8 (.sl 1) ⟨2,[(1,.row 164 2<|List.map aa.w J)]⟩) (xN<|xM<|xA<|aj f153) [.blk 0,.seq<|xF<|aj f153] 365 [(0,.sl 0),(3,.box (ak p1) 0),(5,qi (p1.kids.length:Int)),(11,qi p1.kind)] ⟨1,[(0,.row 164 2<|List.map aa.w G)]⟩
def lE(m:Nat)(G:List aa)(p1:Tree)(J:List aa):Prop:=y5 [] f153 (z8 (.sl 1) ⟨2,[(1,.row 164 2<|List.map aa.w J)]⟩) (xN<|xC<|xE<|xA<|aj f153) [.blk 0,.seq<|xF<|aj f153] 365 [(0,.sl 0),(3,.box (ak p1) 0),(5,qi (p1.kids.length:Int)),(11,qi p1.kind)] ⟨1,[(0,.row 164 2<|List.map aa.w G)]⟩
def qa(m:Nat)(G:List aa)(p1:Tree)(J:List aa):Prop:=y5 [] f153 (z8 (.sl 1) ⟨2,[(1,.row 164 2<|List.map aa.w J)]⟩) (xJ<|xN<|xC<|xE<|xA<|aj f153) [.blk 0,.seq<|xF<|aj f153] 365 [(0,.sl 0),(3,.box (ak p1) 0)] ⟨1,[(0,.row 164 2<|List.map aa.w G)]⟩
def lp(m:Nat)(G:List aa)(p1:Tree)(J:List aa):Prop:=y5 [] f153 (z8 (.sl 1) ⟨2,[(1,.row 164 2<|List.map aa.w J)]⟩) (xN<|xC<|xM<|xA<|aj f153) [.blk 0,.seq<|xF<|aj f153] 365 [(0,.sl 0),(3,.box (ak p1) 0),(5,qi (p1.kids.length:Int)),(11,qi p1.kind)] ⟨1,[(0,.row 164 2<|List.map aa.w G)]⟩
def pZ(m:Nat)(G:List aa)(p1:Tree)(J:List aa):Prop:=y5 [] f153 (z8 (.sl 1) ⟨2,[(1,.row 164 2<|List.map aa.w J)]⟩) (xJ<|xN<|xC<|xM<|xA<|aj f153) [.blk 0,.seq<|xF<|aj f153] 365 [(0,.sl 0),(3,.box (ak p1) 0),(5,qi (p1.kids.length:Int))] ⟨1,[(0,.row 164 2<|List.map aa.w G)]⟩
def lC(m:Nat)(G:List aa)(p1:Tree)(J:List aa):Prop:=y5 [] f153 (z8 (.sl 1) ⟨2,[(1,.row 164 2<|List.map aa.w J)]⟩) (xN<|xH<|xE<|xA<|aj f153) [.blk 0,.seq<|xF<|aj f153] 365 [(0,.sl 0),(3,.box (ak p1) 0),(5,qi (p1.kids.length:Int)),(11,qi p1.kind)] ⟨1,[(0,.row 164 2<|List.map aa.w G)]⟩
def lB(m:Nat)(G:List aa)(p1:Tree)(J:List aa):Prop:=y5 [] f153 (z8 (.sl 1) ⟨2,[(1,.row 164 2<|List.map aa.w J)]⟩) (xN<|xH<|xM<|xA<|aj f153) [.blk 0,.seq<|xF<|aj f153] 365 [(0,.sl 0),(3,.box (ak p1) 0),(5,qi (p1.kids.length:Int)),(11,qi p1.kind)] ⟨1,[(0,.row 164 2<|List.map aa.w G)]⟩
def qh(m:Nat)(G:List aa)(p1:Tree)(J:List aa):Prop:=y5 [] f153 (z8 (.sl 1) ⟨2,[(1,.row 164 2<|List.map aa.w J)]⟩) (xJ<|xN<|xH<|xM<|xA<|aj f153) [.blk 0,.seq<|xF<|aj f153] 365 [(0,.sl 0),(3,.box (ak p1) 0),(5,qi (p1.kids.length:Int))] ⟨1,[(0,.row 164 2<|List.map aa.w G)]⟩
def lz(m:Nat)(G:List aa)(p1:Tree)(J:List aa):Prop:=y5 [] f153 (z8 (.sl 1) ⟨2,[(1,.row 164 2<|List.map aa.w J)]⟩) (xN<|xH<|xC<|xE<|xA<|aj f153) [.blk 0,.seq<|xF<|aj f153] 365 [(0,.sl 0),(3,.box (ak p1) 0),(11,qi p1.kind)] ⟨1,[(0,.row 164 2<|List.map aa.w G)]⟩
def qw(m:Nat)(G:List aa)(p1:Tree)(J:List aa):Prop:=y5 [] f153 (z8 (.sl 1) ⟨2,[(1,.row 164 2<|List.map aa.w J)]⟩) (xJ<|xN<|xH<|xC<|xE<|xA<|aj f153) [.blk 0,.seq<|xF<|aj f153] 365 [(0,.sl 0),(3,.box (ak p1) 0)] ⟨1,[(0,.row 164 2<|List.map aa.w G)]⟩
def lu(m:Nat)(G:List aa)(p1:Tree)(J:List aa):Prop:=y5 [] f153 (z8 (.sl 1) ⟨2,[(1,.row 164 2<|List.map aa.w J)]⟩) (xN<|xH<|xC<|xM<|xA<|aj f153) [.blk 0,.seq<|xF<|aj f153] 365 [(0,.sl 0),(3,.box (ak p1) 0),(11,qi p1.kind)] ⟨1,[(0,.row 164 2<|List.map aa.w G)]⟩
def qv(m:Nat)(G:List aa)(p1:Tree)(J:List aa):Prop:=y5 [] f153 (z8 (.sl 1) ⟨2,[(1,.row 164 2<|List.map aa.w J)]⟩) (xJ<|xN<|xH<|xC<|xM<|xA<|aj f153) [.blk 0,.seq<|xF<|aj f153] 365 [(0,.sl 0),(3,.box (ak p1) 0)] ⟨1,[(0,.row 164 2<|List.map aa.w G)]⟩
def lw(m:Nat)(G:List aa)(p1:Tree)(J:List aa):Prop:=y5 [] f153 (z8 (.sl 1) ⟨2,[(1,.row 164 2<|List.map aa.w J)]⟩) (xN<|xN<|xE<|xA<|aj f153) [.blk 0,.seq<|xF<|aj f153] 365 [(0,.sl 0),(3,.box (ak p1) 0),(11,qi p1.kind)] ⟨1,[(0,.row 164 2<|List.map aa.w G)]⟩
def qo(m:Nat)(G:List aa)(p1:Tree)(J:List aa):Prop:=y5 [] f153 (z8 (.sl 1) ⟨2,[(1,.row 164 2<|List.map aa.w J)]⟩) (xJ<|xN<|xN<|xE<|xA<|aj f153) [.blk 0,.seq<|xF<|aj f153] 365 [(0,.sl 0),(3,.box (ak p1) 0)] ⟨1,[(0,.row 164 2<|List.map aa.w G)]⟩
def lD(m:Nat)(G:List aa)(p1:Tree)(J:List aa):Prop:=y5 [] f153 (z8 (.sl 1) ⟨2,[(1,.row 164 2<|List.map aa.w J)]⟩) (xN<|xN<|xM<|xA<|aj f153) [.blk 0,.seq<|xF<|aj f153] 365 [(0,.sl 0),(3,.box (ak p1) 0),(11,qi p1.kind)] ⟨1,[(0,.row 164 2<|List.map aa.w G)]⟩
def qt(m:Nat)(G:List aa)(p1:Tree)(J:List aa):Prop:=y5 [] f153 (z8 (.sl 1) ⟨2,[(1,.row 164 2<|List.map aa.w J)]⟩) (xJ<|xN<|xN<|xM<|xA<|aj f153) [.blk 0,.seq<|xF<|aj f153] 365 [(0,.sl 0),(3,.box (ak p1) 0)] ⟨1,[(0,.row 164 2<|List.map aa.w G)]⟩
theorem rq(m:Nat)(J:List aa)(p1:Tree)(O:List aa)(h:q9a p1.kind 1 (rv m J p1 O)<|my m J p1 O):aw J p1 O:=by
 refine qA 365 [] func153 λK G=>?_;refine gR 3 rfl<|gFP 1 rfl rfl rfl rfl<|gR 8 rfl<|gV 9 (qi (p1.kids.length:Int)) rfl (aN<|aD _) rfl<|gLB 8 rfl (aD _) λa=>gR 17 rfl<|qBeZ 12 13 rfl rfl rfl rfl h ?_ ?_<;>intro h;exact gR 1 I<|qJ G (h K G) [0];exact gR 1 I<|qJ G (h K G) [0]
theorem xQ(m:Nat)(p0:List aa)(p1:Tree)(r0:List aa)(h:∃a,au p1 0 a∧∃b,au p1 1 b∧(p0++[(aa.mk a [109,111,100,117,108,101]),(aa.mk b p1.text)]).length<=1000000000∧fW m p1 (p0++[(aa.mk a [109,111,100,117,108,101]),(aa.mk b p1.text)]) 0 r0):rv (m+1) p0 p1 r0:=by
 intro K hK;refine gR 1 I<|qDs [] 12 12<|qDr [(0,2),(1,2),(4,2),(6,2),(7,2)] I I ?_;obtain⟨a,c,h⟩:=h;refine bG 2 c (by kernel_rfl) I (by kernel_rfl) I I .rfl I I ?_;refine qDr [(3,2)] I I ?_;obtain⟨b,d,h⟩:=h;refine bG 5 d (by kernel_rfl) I (by kernel_rfl) I I .rfl I I ?_;refine qDr [(8,0),(9,0)] I I ?_;obtain⟨hb,h⟩:=h;refine bj 10 (.repl 0 (.row 164 2 (List.map aa.w (p0++[(aa.mk a [109,111,100,117,108,101]),(aa.mk b p1.text)])))) I (by kernel_rfl) (bx ah I I I I I (aax (f:=aa.w) (l₁:=p0) (l₂:=[(aa.mk a [109,111,100,117,108,101]),(aa.mk b p1.text)])).symm (by rw[aB];exact hb)) (okR I) I (by kernel_rfl) I I ?_;exact qDr [(11,0)] I I<|qDe<|gR 8 I<|go_loop m<|qW hK h [2]
theorem qr(m:Nat)(J:List aa)(p1:Tree)(O:List aa)(h:q9a p1.kind 2 (ry m J p1 O)<|mh m J p1 O):my (m+1) J p1 O:=by
 intro K G;refine gR 6 rfl<|qBeZ 43 44 rfl rfl rfl rfl h ?_ ?_<;>intro h;exact gR 1 I<|qJ G (h K G) [0];exact gR 1 I<|qJ G (h K G) [0]
theorem qf(m:Nat)(p1:Tree)(b:List aa)(a:Nat)(G:List aa)(h:y7 (a<p1.kids.length) (∃e,p1.kids[a]?=some e∧∃d,aw b e d∧a+1<=9223372036854775807∧fW m p1 d (a+1) G)<|∃c,au p1 2 c∧(b++[(aa.mk c [])]).length<=1000000000∧(b++[(aa.mk c [])])=G):fW (m+1) p1 b a G:=by
 refine qj λK O J j=>?_;refine gR 8 rfl<|qXh 27 rfl rfl rfl h co cp ?_ ?_<;>intro U h;refine gR 10 I ?_;obtain⟨e,f,h⟩:=h;refine gY (aF (aq f) ah I I I I) I I<|gR 1 I ?_;obtain⟨d,g,h⟩:=h;refine qC g [0] ?_;refine gHR 2 (List.map aa.w d) I (vI _ d) I<|gR 6 I ?_;obtain⟨hb,h⟩:=h;exact gR 1 I<|gV 29 (qi ((a+1:Nat):Int)) I (ao (by omega)<|by omega) I<|gR 2 I<|go_xloop<|qW J h [2];refine gR 3 I<|go_xloopE<|gR 6 I ?_;obtain⟨c,i,h⟩:=h;refine qC0 i I<|gR 2 I ?_;obtain⟨hb,h⟩:=h;refine gDo (.repl 0<|.row 164 2<|List.map aa.w<|b++[(aa.mk c [])]) (bx ah I I I I I (apM aa.w b<|aa.mk c []) (by rw[aB];exact hb)) (okR I) I I I<|gR 6 I ?_;subst h;exact gE J [] [(4,.sl 1)] [1000,2] [.tmp 4]
theorem xb(m:Nat)(G:List aa)(p1:Tree)(J:List aa)(h:∃e,au p1 0 e∧∃g,au p1 1 g∧∃i,au p1 2 i∧(G++[(aa.mk e [100,101,102]),(aa.mk g p1.text),(aa.mk i [40])]).length<=1000000000∧InI ((p1.kids.length:Int)-2)∧∃c,gI (G++[(aa.mk e [100,101,102]),(aa.mk g p1.text),(aa.mk i [40])]) p1 0 ((p1.kids.length:Int)-2) 6 c∧∃j,au p1 3 j∧∃k,au p1 4 k∧(c++[(aa.mk j [41]),(aa.mk k [58])]).length<=1000000000∧InI ((p1.kids.length:Int)-2)∧∃o,((p1.kids.length:Int)-2)=((o:Nat):Int)∧∃p,p1.kids[o]?=some p∧∃b,aw (c++[(aa.mk j [41]),(aa.mk k [58])]) p b∧∃a,au p1 5 a∧(b++[(aa.mk a [61])]).length<=1000000000∧InI ((p1.kids.length:Int)-1)∧∃l,((p1.kids.length:Int)-1)=((l:Nat):Int)∧∃n,p1.kids[l]?=some n∧∃d,aw (b++[(aa.mk a [61])]) n d∧d=J):ry (m+1) G p1 J:=by
 intro K O;refine gR 1 I<|qDs [] 15 15<|qDr [(0,2),(1,2),(4,2),(6,2),(7,2),(9,2)] I I ?_;obtain⟨e,t,h⟩:=h;refine bG 2 t (by kernel_rfl) I (by kernel_rfl) I I .rfl I I ?_;refine qDr [(3,2)] I I ?_;obtain⟨g,v,h⟩:=h;refine bG 5 v (by kernel_rfl) I (by kernel_rfl) I I .rfl I I ?_;refine qDr [(8,2)] I I ?_;obtain⟨i,x,h⟩:=h;refine bG 10 x (by kernel_rfl) I (by kernel_rfl) I I .rfl I I ?_;refine qDr [(11,0),(12,0)] I I ?_;obtain⟨hb,h⟩:=h;refine bj 13 (.repl 0 (.row 164 2 (List.map aa.w (G++[(aa.mk e [100,101,102]),(aa.mk g p1.text),(aa.mk i [40])])))) I (by kernel_rfl) (bx ah I I I I I (aax (f:=aa.w) (l₁:=G) (l₂:=[(aa.mk e [100,101,102]),(aa.mk g p1.text),(aa.mk i [40])])).symm (by rw[aB];exact hb)) (okR I) I (by kernel_rfl) I I ?_;refine qDr [(14,0)] I I<|qDe<|gR 6 I ?_;obtain⟨hb,h⟩:=h;refine gR 1 I<|gV 62 (qi ((p1.kids.length:Int)-2)) I (ao hb I) I ?_;obtain⟨c,y,h⟩:=h;refine qC y [2] ?_;refine gHR 4 (List.map aa.w c) I (vI _ c) I<|gR 4 I<|qDs [] 10 10<|qDr [(0,2),(1,2),(4,2)] I I ?_;obtain⟨j,z,h⟩:=h;refine bG 2 z (by kernel_rfl) I (by kernel_rfl) I I .rfl I I ?_;refine qDr [(3,2)] I I ?_;obtain⟨k,α,h⟩:=h;refine bG 5 α (by kernel_rfl) I (by kernel_rfl) I I .rfl I I ?_;refine qDr [(6,0),(7,0)] I I ?_;obtain⟨hb,h⟩:=h;refine bj 8 (.repl 4 (.row 164 2 (List.map aa.w (c++[(aa.mk j [41]),(aa.mk k [58])])))) I (by kernel_rfl) (bx ah I I I I I (aax (f:=aa.w) (l₁:=c) (l₂:=[(aa.mk j [41]),(aa.mk k [58])])).symm (by rw[aB];exact hb)) (okR I) I (by kernel_rfl) I I ?_;refine qDr [(9,0)] I I<|qDe<|gR 2 I<|qDs [] 14 14<|qDr (qR 0 4 2 []) I I ?_;obtain⟨hb,h⟩:=h;refine qDr [(4,2)] I I<|gV 77 (qi ((p1.kids.length:Int)-2)) I (ao hb I) I ?_;obtain⟨o,β,h⟩:=h;refine gV 77 (qi ((o:Nat):Int)) I (aT β) I ?_;obtain⟨p,r,h⟩:=h;refine gYd 5 I (by kernel_rfl) (aF (aq r) ah I I I I) I I<|qDr [(6,2),(8,2)] I I ?_;obtain⟨b,γ,h⟩:=h;refine qDC 7 γ [6] I ?_;refine gHR 8 (List.map aa.w b) I (vI _ b) I ?_;obtain⟨a,δ,h⟩:=h;refine bG 9 δ (by kernel_rfl) I (by kernel_rfl) I I .rfl I I ?_;refine qDr [(10,0),(11,0)] I I ?_;obtain⟨hb,h⟩:=h;refine bj 12 (.repl 8 (.row 164 2 (List.map aa.w (b++[(aa.mk a [61])])))) I (by kernel_rfl) (bx ah I I I I I (apM aa.w b (aa.mk a [61])) (by rw[aB];exact hb)) (okR I) I (by kernel_rfl) I I ?_;refine qDr [(13,0)] I I<|qDe<|gR 1 I<|go_sub (F':=(mkF 365 0 [(0,.sl 0),(3,.box (ak p1) 0),(5,qi (p1.kids.length:Int))])) (H':=⟨1,[(0,.row 164 2 (List.map aa.w (b++[(aa.mk a [61])])))]⟩) [10] [] I O pq3 ⟨⟨_,I,I,I,(vI _ (b++[(aa.mk a [61])])).symm⟩,trivial⟩ I<|gR 6 I ?_;obtain⟨hb,h⟩:=h;refine gR 1 I<|gV 90 (qi ((p1.kids.length:Int)-1)) I (ao hb I) I ?_;obtain⟨l,s,h⟩:=h;refine gV 90 (qi ((l:Nat):Int)) I (aT s) I ?_;obtain⟨n,q,h⟩:=h;refine gY (aF (aq q) ah I I I I) I I<|gR 1 I ?_;obtain⟨d,ε,h⟩:=h;refine qC ε [0] ?_;refine gHR 2 (List.map aa.w d) I (vI _ d) I<|gR 6 I ?_;subst h;exact gE O [] [(4,.sl 1)] [1000,2] [.tmp 4]
theorem qd(m:Nat)(J:List aa)(p1:Tree)(O:List aa)(h:q9a p1.kind 3 (rm m J p1 O)<|mc m J p1 O):mh (m+1) J p1 O:=by
 intro K G;refine gR 6 rfl<|qBeZ 94 95 rfl rfl rfl rfl h ?_ ?_<;>intro h;exact gR 1 I<|qJ G (h K G) [0];exact gR 1 I<|qJ G (h K G) [0]
theorem xu(m:Nat)(G:List aa)(p1:Tree)(J:List aa)(h:∃a,au p1 0 a∧∃b,au p1 1 b∧∃c,au p1 2 c∧(G++[(aa.mk a [116,121,112,101]),(aa.mk b p1.text),(aa.mk c [61])]).length<=1000000000∧∃e,p1.kids[0]?=some e∧∃d,aw (G++[(aa.mk a [116,121,112,101]),(aa.mk b p1.text),(aa.mk c [61])]) e d∧d=J):rm (m+1) G p1 J:=by
 intro K O;refine gR 1 I<|qDs [] 15 15<|qDr [(0,2),(1,2),(4,2),(6,2),(7,2),(9,2)] I I ?_;obtain⟨a,i,h⟩:=h;refine bG 2 i (by kernel_rfl) I (by kernel_rfl) I I .rfl I I ?_;refine qDr [(3,2)] I I ?_;obtain⟨b,j,h⟩:=h;refine bG 5 j (by kernel_rfl) I (by kernel_rfl) I I .rfl I I ?_;refine qDr [(8,2)] I I ?_;obtain⟨c,k,h⟩:=h;refine bG 10 k (by kernel_rfl) I (by kernel_rfl) I I .rfl I I ?_;refine qDr [(11,0),(12,0)] I I ?_;obtain⟨hb,h⟩:=h;refine bj 13 (.repl 0 (.row 164 2 (List.map aa.w (G++[(aa.mk a [116,121,112,101]),(aa.mk b p1.text),(aa.mk c [61])])))) I (by kernel_rfl) (bx ah I I I I I (aax (f:=aa.w) (l₁:=G) (l₂:=[(aa.mk a [116,121,112,101]),(aa.mk b p1.text),(aa.mk c [61])])).symm (by rw[aB];exact hb)) (okR I) I (by kernel_rfl) I I ?_;refine qDr [(14,0)] I I<|qDe<|gR 6 I ?_;obtain⟨e,g,h⟩:=h;refine gY (aF (aq g) ah I I I I) I I<|gR 1 I ?_;obtain⟨d,l,h⟩:=h;refine qC l [2] ?_;refine gHR 4 (List.map aa.w d) I (vI _ d) I<|gR 6 I ?_;subst h;exact gE O [] [(4,.sl 1)] [1000,4] [.tmp 4]
theorem ql(m:Nat)(J:List aa)(p1:Tree)(O:List aa)(h:q9a p1.kind 4 (rx m J p1 O)<|ml m J p1 O):mc (m+1) J p1 O:=by
 intro K G;refine gR 6 rfl<|qBeZ 116 117 rfl rfl rfl rfl h ?_ ?_<;>intro h;exact gR 1 I<|qJ G (h K G) [0];exact gR 1 I<|qJ G (h K G) [0]
theorem xP(m:Nat)(G:List aa)(p1:Tree)(J:List aa)(h:∃a,au p1 0 a∧∃b,au p1 1 b∧(G++[(aa.mk a p1.text),(aa.mk b [58])]).length<=1000000000∧∃d,p1.kids[0]?=some d∧∃c,aw (G++[(aa.mk a p1.text),(aa.mk b [58])]) d c∧c=J):rx (m+1) G p1 J:=by
 intro K O;refine gR 1 I<|qDs [] 12 12<|qDr [(0,2),(1,2),(3,2),(4,2),(6,2)] I I ?_;obtain⟨a,g,h⟩:=h;refine bG 2 g (by kernel_rfl) I (by kernel_rfl) I I .rfl I I ?_;refine qDr [(5,2)] I I ?_;obtain⟨b,i,h⟩:=h;refine bG 7 i (by kernel_rfl) I (by kernel_rfl) I I .rfl I I ?_;refine qDr [(8,0),(9,0)] I I ?_;obtain⟨hb,h⟩:=h;refine bj 10 (.repl 0 (.row 164 2 (List.map aa.w (G++[(aa.mk a p1.text),(aa.mk b [58])])))) I (by kernel_rfl) (bx ah I I I I I (aax (f:=aa.w) (l₁:=G) (l₂:=[(aa.mk a p1.text),(aa.mk b [58])])).symm (by rw[aB];exact hb)) (okR I) I (by kernel_rfl) I I ?_;refine qDr [(11,0)] I I<|qDe<|gR 6 I ?_;obtain⟨d,e,h⟩:=h;refine gY (aF (aq e) ah I I I I) I I<|gR 1 I ?_;obtain⟨c,j,h⟩:=h;refine qC j [2] ?_;refine gHR 4 (List.map aa.w c) I (vI _ c) I<|gR 6 I ?_;subst h;exact gE O [] [(4,.sl 1)] [1000,4] [.tmp 4]
theorem qq(m:Nat)(G:List aa)(p1:Tree)(J:List aa)(h:q9a p1.kind 5 (∃a,au p1 0 a∧(G++[(aa.mk a [73,110,116])]).length<=1000000000∧(G++[(aa.mk a [73,110,116])])=J)<|mb m G p1 J):ml (m+1) G p1 J:=by
 intro K O;refine gR 6 rfl<|qBeZ 135 136 rfl rfl rfl rfl h ?_ ?_<;>intro h;refine gR 5 I ?_;obtain⟨a,b,h⟩:=h;refine qC0 b I<|gR 2 I ?_;obtain⟨hb,h⟩:=h;refine gDo (.repl 0 (.row 164 2 (List.map aa.w (G++[(aa.mk a [73,110,116])])))) (bx ah I I I I I (apM aa.w G (aa.mk a [73,110,116])) (by rw[aB];exact hb)) (okR I) I I I<|gR 6 I ?_;subst h;exact gE O [] [(4,.sl 1)] [1000,2] [.tmp 4];exact gR 1 I<|qJ O (h K O) [0]
theorem qg(m:Nat)(G:List aa)(p1:Tree)(J:List aa)(h:q9a p1.kind 6 (∃a,au p1 0 a∧(G++[(aa.mk a [84,101,120,116])]).length<=1000000000∧(G++[(aa.mk a [84,101,120,116])])=J)<|lA m G p1 J):mb (m+1) G p1 J:=by
 intro K O;refine gR 6 rfl<|qBeZ 143 144 rfl rfl rfl rfl h ?_ ?_<;>intro h;refine gR 5 I ?_;obtain⟨a,b,h⟩:=h;refine qC0 b I<|gR 2 I ?_;obtain⟨hb,h⟩:=h;refine gDo (.repl 0 (.row 164 2 (List.map aa.w (G++[(aa.mk a [84,101,120,116])])))) (bx ah I I I I I (apM aa.w G (aa.mk a [84,101,120,116])) (by rw[aB];exact hb)) (okR I) I I I<|gR 6 I ?_;subst h;exact gE O [] [(4,.sl 1)] [1000,2] [.tmp 4];exact gR 1 I<|qJ O (h K O) [0]
theorem po(m:Nat)(G:List aa)(p1:Tree)(J:List aa)(h:q9a p1.kind 7 (∃a,au p1 0 a∧(G++[(aa.mk a [66,111,111,108])]).length<=1000000000∧(G++[(aa.mk a [66,111,111,108])])=J)<|ln m G p1 J):lA (m+1) G p1 J:=by
 intro K O;refine gR 6 rfl<|qBeZ 151 152 rfl rfl rfl rfl h ?_ ?_<;>intro h;refine gR 5 I ?_;obtain⟨a,b,h⟩:=h;refine qC0 b I<|gR 2 I ?_;obtain⟨hb,h⟩:=h;refine gDo (.repl 0 (.row 164 2 (List.map aa.w (G++[(aa.mk a [66,111,111,108])])))) (bx ah I I I I I (apM aa.w G (aa.mk a [66,111,111,108])) (by rw[aB];exact hb)) (okR I) I I I<|gR 6 I ?_;subst h;exact gE O [] [(4,.sl 1)] [1000,2] [.tmp 4];exact gR 1 I<|qJ O (h K O) [0]
theorem pj(m:Nat)(G:List aa)(p1:Tree)(J:List aa)(h:q9a p1.kind 13 (∃a,au p1 0 a∧(G++[(aa.mk a [116,114,117,101])]).length<=1000000000∧(G++[(aa.mk a [116,114,117,101])])=J)<|lj m G p1 J):ln (m+1) G p1 J:=by
 intro K O;refine gR 6 rfl<|qBeZ 159 160 rfl rfl rfl rfl h ?_ ?_<;>intro h;refine gR 5 I ?_;obtain⟨a,b,h⟩:=h;refine qC0 b I<|gR 2 I ?_;obtain⟨hb,h⟩:=h;refine gDo (.repl 0 (.row 164 2 (List.map aa.w (G++[(aa.mk a [116,114,117,101])])))) (bx ah I I I I I (apM aa.w G (aa.mk a [116,114,117,101])) (by rw[aB];exact hb)) (okR I) I I I<|gR 6 I ?_;subst h;exact gE O [] [(4,.sl 1)] [1000,2] [.tmp 4];exact gR 1 I<|qJ O (h K O) [0]
theorem pE(m:Nat)(G:List aa)(p1:Tree)(J:List aa)(h:q9a p1.kind 14 (∃a,au p1 0 a∧(G++[(aa.mk a [102,97,108,115,101])]).length<=1000000000∧(G++[(aa.mk a [102,97,108,115,101])])=J)<|lm m G p1 J):lj (m+1) G p1 J:=by
 intro K O;refine gR 6 rfl<|qBeZ 167 168 rfl rfl rfl rfl h ?_ ?_<;>intro h;refine gR 5 I ?_;obtain⟨a,b,h⟩:=h;refine qC0 b I<|gR 2 I ?_;obtain⟨hb,h⟩:=h;refine gDo (.repl 0 (.row 164 2 (List.map aa.w (G++[(aa.mk a [102,97,108,115,101])])))) (bx ah I I I I I (apM aa.w G (aa.mk a [102,97,108,115,101])) (by rw[aB];exact hb)) (okR I) I I I<|gR 6 I ?_;subst h;exact gE O [] [(4,.sl 1)] [1000,2] [.tmp 4];exact gR 1 I<|qJ O (h K O) [0]
theorem pD(m:Nat)(G:List aa)(p1:Tree)(J:List aa)(h:q9a p1.kind 15 (∃a,au p1 0 a∧(G++[(aa.mk a [63])]).length<=1000000000∧(G++[(aa.mk a [63])])=J)<|lE m G p1 J):lm (m+1) G p1 J:=by
 intro K O;refine gR 6 rfl<|qBeZ 175 176 rfl rfl rfl rfl h ?_ ?_<;>intro h;refine gR 5 I ?_;obtain⟨a,b,h⟩:=h;refine qC0 b I<|gR 2 I ?_;obtain⟨hb,h⟩:=h;refine gDo (.repl 0 (.row 164 2 (List.map aa.w (G++[(aa.mk a [63])])))) (bx ah I I I I I (apM aa.w G (aa.mk a [63])) (by rw[aB];exact hb)) (okR I) I I I<|gR 6 I ?_;subst h;exact gE O [] [(4,.sl 1)] [1000,2] [.tmp 4];exact gR 1 I<|qJ O (h K O) [0]
theorem pC(m:Nat)(J:List aa)(p1:Tree)(O:List aa)(h:q9a p1.kind 8 (qa m J p1 O)<|lp m J p1 O):lE (m+1) J p1 O:=by
 intro K G;refine gR 6 rfl<|qBeZ 183 184 rfl rfl rfl rfl h ?_ ?_<;>intro h;exact gR 1 I<|qJ G (h K G) [0];exact gR 1 I<|qJ G (h K G) [0]
theorem ww(m:Nat)(G:List aa)(p1:Tree)(J:List aa)(h:∃b,au p1 0 b∧(G++[(aa.mk b [91])]).length<=1000000000∧∃d,p1.kids[0]?=some d∧∃a,aw (G++[(aa.mk b [91])]) d a∧∃c,au p1 1 c∧(a++[(aa.mk c [93])]).length<=1000000000∧(a++[(aa.mk c [93])])=J):qa (m+1) G p1 J:=by
 intro K O;refine gR 4 I ?_;obtain⟨b,f,h⟩:=h;refine qC0 f I<|gR 2 I ?_;obtain⟨hb,h⟩:=h;refine gDo (.repl 0 (.row 164 2 (List.map aa.w (G++[(aa.mk b [91])])))) (bx ah I I I I I (apM aa.w G (aa.mk b [91])) (by rw[aB];exact hb)) (okR I) I I I<|gR 4 I<|qDs [] 12 12<|qDr (qR 0 3 2 []) I I ?_;obtain⟨d,e,h⟩:=h;refine gYd 3 I (by kernel_rfl) (aF (aq e) ah I I I I) I I<|qDr [(4,2),(6,2)] I I ?_;obtain⟨a,g,h⟩:=h;refine qDC 5 g [2] I ?_;refine gHR 4 (List.map aa.w a) I (vI _ a) I ?_;obtain⟨c,i,h⟩:=h;refine bG 7 i (by kernel_rfl) I (by kernel_rfl) I I .rfl I I ?_;refine qDr [(8,0),(9,0)] I I ?_;obtain⟨hb,h⟩:=h;refine bj 10 (.repl 4 (.row 164 2 (List.map aa.w (a++[(aa.mk c [93])])))) I (by kernel_rfl) (bx ah I I I I I (apM aa.w a (aa.mk c [93])) (by rw[aB];exact hb)) (okR I) I (by kernel_rfl) I I ?_;refine qDr [(11,0)] I I<|qDe<|gR 4 I ?_;subst h;exact gE O [] [(4,.sl 1)] [1000,6] [.tmp 4]
theorem pn(m:Nat)(J:List aa)(p1:Tree)(O:List aa)(h:q9a p1.kind 16 (pZ m J p1 O)<|lC m J p1 O):lp (m+1) J p1 O:=by
 intro K G;refine gR 6 rfl<|qBeZ 202 203 rfl rfl rfl rfl h ?_ ?_<;>intro h;exact gR 1 I<|qJ G (h K G) [0];exact gR 1 I<|qJ G (h K G) [0]
theorem wi(m:Nat)(G:List aa)(p1:Tree)(J:List aa)(h:∃b,au p1 0 b∧∃c,au p1 1 c∧(G++[(aa.mk b p1.text),(aa.mk c [40])]).length<=1000000000∧∃a,gI (G++[(aa.mk b p1.text),(aa.mk c [40])]) p1 0 (p1.kids.length:Int) 3 a∧∃d,au p1 2 d∧(a++[(aa.mk d [41])]).length<=1000000000∧(a++[(aa.mk d [41])])=J):pZ (m+1) G p1 J:=by
 intro K O;refine gR 1 I<|qDs [] 12 12<|qDr [(0,2),(1,2),(3,2),(4,2),(6,2)] I I ?_;obtain⟨b,e,h⟩:=h;refine bG 2 e (by kernel_rfl) I (by kernel_rfl) I I .rfl I I ?_;refine qDr [(5,2)] I I ?_;obtain⟨c,g,h⟩:=h;refine bG 7 g (by kernel_rfl) I (by kernel_rfl) I I .rfl I I ?_;refine qDr [(8,0),(9,0)] I I ?_;obtain⟨hb,h⟩:=h;refine bj 10 (.repl 0 (.row 164 2 (List.map aa.w (G++[(aa.mk b p1.text),(aa.mk c [40])])))) I (by kernel_rfl) (bx ah I I I I I (aax (f:=aa.w) (l₁:=G) (l₂:=[(aa.mk b p1.text),(aa.mk c [40])])).symm (by rw[aB];exact hb)) (okR I) I (by kernel_rfl) I I ?_;refine qDr [(11,0)] I I<|qDe<|gR 2 I<|qDs [] 10 10<|qDr (qR 0 3 2 [(4,2)]) I I ?_;obtain⟨a,i,h⟩:=h;refine qDC 3 i [2] I ?_;refine gHR 4 (List.map aa.w a) I (vI _ a) I ?_;obtain⟨d,j,h⟩:=h;refine bG 5 j (by kernel_rfl) I (by kernel_rfl) I I .rfl I I ?_;refine qDr [(6,0),(7,0)] I I ?_;obtain⟨hb,h⟩:=h;refine bj 8 (.repl 4 (.row 164 2 (List.map aa.w (a++[(aa.mk d [41])])))) I (by kernel_rfl) (bx ah I I I I I (apM aa.w a (aa.mk d [41])) (by rw[aB];exact hb)) (okR I) I (by kernel_rfl) I I ?_;refine qDr [(9,0)] I I<|qDe<|gR 4 I ?_;subst h;exact gE O [] [(4,.sl 1)] [1000,6] [.tmp 4]
theorem pu(m:Nat)(G:List aa)(p1:Tree)(J:List aa)(h:q9a p1.kind 17 (∃b,p1.kids[0]?=some b∧∃a,aw G b a∧a=J)<|lB m G p1 J):lC (m+1) G p1 J:=by
 intro K O;refine gR 6 rfl<|qBeZ 224 225 rfl rfl rfl rfl h ?_ ?_<;>intro h;refine gR 6 I ?_;obtain⟨b,c,h⟩:=h;refine gY (aF (aq c) ah I I I I) I I<|gR 1 I ?_;obtain⟨a,d,h⟩:=h;refine qC d [0] ?_;refine gHR 2 (List.map aa.w a) I (vI _ a) I<|gR 6 I ?_;subst h;exact gE O [] [(4,.sl 1)] [1000,2] [.tmp 4];exact gR 1 I<|qJ O (h K O) [0]
theorem ph(m:Nat)(J:List aa)(p1:Tree)(O:List aa)(h:q9a p1.kind 18 (qh m J p1 O)<|lz m J p1 O):lB (m+1) J p1 O:=by
 intro K G;refine gR 6 rfl<|qBeZ 232 233 rfl rfl rfl rfl h ?_ ?_<;>intro h;exact gR 1 I<|qJ G (h K G) [0];exact gR 1 I<|qJ G (h K G) [0]
theorem wz(m:Nat)(G:List aa)(p1:Tree)(J:List aa)(h:∃b,au p1 0 b∧(G++[(aa.mk b [91])]).length<=1000000000∧∃a,gI (G++[(aa.mk b [91])]) p1 0 (p1.kids.length:Int) 2 a∧∃c,au p1 1 c∧(a++[(aa.mk c [93])]).length<=1000000000∧(a++[(aa.mk c [93])])=J):qh (m+1) G p1 J:=by
 intro K O;refine gR 4 I ?_;obtain⟨b,d,h⟩:=h;refine qC0 d I<|gR 2 I ?_;obtain⟨hb,h⟩:=h;refine gDo (.repl 0 (.row 164 2 (List.map aa.w (G++[(aa.mk b [91])])))) (bx ah I I I I I (apM aa.w G (aa.mk b [91])) (by rw[aB];exact hb)) (okR I) I I I<|gR 4 I<|qDs [] 10 10<|qDr (qR 0 3 2 [(4,2)]) I I ?_;obtain⟨a,e,h⟩:=h;refine qDC 3 e [2] I ?_;refine gHR 4 (List.map aa.w a) I (vI _ a) I ?_;obtain⟨c,f,h⟩:=h;refine bG 5 f (by kernel_rfl) I (by kernel_rfl) I I .rfl I I ?_;refine qDr [(6,0),(7,0)] I I ?_;obtain⟨hb,h⟩:=h;refine bj 8 (.repl 4 (.row 164 2 (List.map aa.w (a++[(aa.mk c [93])])))) I (by kernel_rfl) (bx ah I I I I I (apM aa.w a (aa.mk c [93])) (by rw[aB];exact hb)) (okR I) I (by kernel_rfl) I I ?_;refine qDr [(9,0)] I I<|qDe<|gR 4 I ?_;subst h;exact gE O [] [(4,.sl 1)] [1000,6] [.tmp 4]
theorem pI(m:Nat)(J:List aa)(p1:Tree)(O:List aa)(h:q9a p1.kind 19 (qw m J p1 O)<|lu m J p1 O):lz (m+1) J p1 O:=by
 intro K G;refine gR 6 rfl<|qBeZ 249 250 rfl rfl rfl rfl h ?_ ?_<;>intro h;exact gR 1 I<|qJ G (h K G) [0];exact gR 1 I<|qJ G (h K G) [0]
theorem wj(m:Nat)(G:List aa)(p1:Tree)(J:List aa)(h:∃g,p1.kids[0]?=some g∧∃c,au p1 0 c∧(G++[(aa.mk c [105,102])]).length<=1000000000∧∃a,aw (G++[(aa.mk c [105,102])]) g a∧∃i,p1.kids[1]?=some i∧∃d,au p1 1 d∧(a++[(aa.mk d [116,104,101,110])]).length<=1000000000∧∃b,aw (a++[(aa.mk d [116,104,101,110])]) i b∧∃j,p1.kids[2]?=some j∧∃e,au p1 2 e∧(b++[(aa.mk e [101,108,115,101])]).length<=1000000000∧∃f,aw (b++[(aa.mk e [101,108,115,101])]) j f∧f=J):qw (m+1) G p1 J:=by
 intro K O;refine gR 1 I<|qDs [] 12 12<|qDr [(0,2),(1,2),(6,2),(7,2)] I I ?_;obtain⟨g,k,h⟩:=h;refine gYd 8 I (by kernel_rfl) (aF (aq k) ah I I I I) I I<|qDr [(9,2)] I I ?_;obtain⟨c,o,h⟩:=h;refine bG 2 o (by kernel_rfl) I (by kernel_rfl) I I .rfl I I ?_;refine qDr [(3,0),(4,0)] I I ?_;obtain⟨hb,h⟩:=h;refine bj 5 (.repl 0 (.row 164 2 (List.map aa.w (G++[(aa.mk c [105,102])])))) I (by kernel_rfl) (bx ah I I I I I (apM aa.w G (aa.mk c [105,102])) (by rw[aB];exact hb)) (okR I) I (by kernel_rfl) I I ?_;obtain⟨a,p,h⟩:=h;refine qDC 10 p [2] I ?_;refine gHR 4 (List.map aa.w a) I (vI _ a) I<|qDr [(11,0)] I I<|qDe<|gR 2 I<|qDs [] 12 12<|qDr [(0,2),(1,2),(6,2),(7,2)] I I ?_;obtain⟨i,l,h⟩:=h;refine gYd 8 I (by kernel_rfl) (aF (aq l) ah I I I I) I I<|qDr [(9,2)] I I ?_;obtain⟨d,q,h⟩:=h;refine bG 2 q (by kernel_rfl) I (by kernel_rfl) I I .rfl I I ?_;refine qDr [(3,0),(4,0)] I I ?_;obtain⟨hb,h⟩:=h;refine bj 5 (.repl 4 (.row 164 2 (List.map aa.w (a++[(aa.mk d [116,104,101,110])])))) I (by kernel_rfl) (bx ah I I I I I (apM aa.w a (aa.mk d [116,104,101,110])) (by rw[aB];exact hb)) (okR I) I (by kernel_rfl) I I ?_;obtain⟨b,r,h⟩:=h;refine qDC 10 r [6] I ?_;refine gHR 8 (List.map aa.w b) I (vI _ b) I<|qDr [(11,0)] I I<|qDe<|gR 2 I<|qDs [] 12 12<|qDr [(0,2),(1,2),(6,2),(7,2)] I I ?_;obtain⟨j,n,h⟩:=h;refine gYd 8 I (by kernel_rfl) (aF (aq n) ah I I I I) I I<|qDr [(9,2)] I I ?_;obtain⟨e,s,h⟩:=h;refine bG 2 s (by kernel_rfl) I (by kernel_rfl) I I .rfl I I ?_;refine qDr [(3,0),(4,0)] I I ?_;obtain⟨hb,h⟩:=h;refine bj 5 (.repl 8 (.row 164 2 (List.map aa.w (b++[(aa.mk e [101,108,115,101])])))) I (by kernel_rfl) (bx ah I I I I I (apM aa.w b (aa.mk e [101,108,115,101])) (by rw[aB];exact hb)) (okR I) I (by kernel_rfl) I I ?_;obtain⟨f,t,h⟩:=h;refine qDC 10 t [10] I ?_;refine gHR 12 (List.map aa.w f) I (vI _ f) I<|qDr [(11,0)] I I<|qDe<|gR 4 I ?_;subst h;exact gE O [] [(4,.sl 1)] [1000,12] [.tmp 4]
theorem pi(m:Nat)(J:List aa)(p1:Tree)(O:List aa)(h:q9a p1.kind 20 (qv m J p1 O)<|lw m J p1 O):lu (m+1) J p1 O:=by
 intro K G;refine gR 6 rfl<|qBeZ 284 285 rfl rfl rfl rfl h ?_ ?_<;>intro h;exact gR 1 I<|qJ G (h K G) [0];exact gR 1 I<|qJ G (h K G) [0]
theorem ws(m:Nat)(G:List aa)(p1:Tree)(J:List aa)(h:∃b,au p1 0 b∧∃c,au p1 1 c∧∃d,au p1 2 d∧(G++[(aa.mk b [108,101,116]),(aa.mk c p1.text),(aa.mk d [61])]).length<=1000000000∧∃i,p1.kids[0]?=some i∧∃a,aw (G++[(aa.mk b [108,101,116]),(aa.mk c p1.text),(aa.mk d [61])]) i a∧∃e,au p1 3 e∧(a++[(aa.mk e [105,110])]).length<=1000000000∧∃j,p1.kids[1]?=some j∧∃g,aw (a++[(aa.mk e [105,110])]) j g∧g=J):qv (m+1) G p1 J:=by
 intro K O;refine gR 1 I<|qDs [] 15 15<|qDr [(0,2),(1,2),(4,2),(6,2),(7,2),(9,2)] I I ?_;obtain⟨b,n,h⟩:=h;refine bG 2 n (by kernel_rfl) I (by kernel_rfl) I I .rfl I I ?_;refine qDr [(3,2)] I I ?_;obtain⟨c,o,h⟩:=h;refine bG 5 o (by kernel_rfl) I (by kernel_rfl) I I .rfl I I ?_;refine qDr [(8,2)] I I ?_;obtain⟨d,p,h⟩:=h;refine bG 10 p (by kernel_rfl) I (by kernel_rfl) I I .rfl I I ?_;refine qDr [(11,0),(12,0)] I I ?_;obtain⟨hb,h⟩:=h;refine bj 13 (.repl 0 (.row 164 2 (List.map aa.w (G++[(aa.mk b [108,101,116]),(aa.mk c p1.text),(aa.mk d [61])])))) I (by kernel_rfl) (bx ah I I I I I (aax (f:=aa.w) (l₁:=G) (l₂:=[(aa.mk b [108,101,116]),(aa.mk c p1.text),(aa.mk d [61])])).symm (by rw[aB];exact hb)) (okR I) I (by kernel_rfl) I I ?_;refine qDr [(14,0)] I I<|qDe<|gR 2 I<|qDs [] 12 12<|qDr (qR 0 3 2 []) I I ?_;obtain⟨i,k,h⟩:=h;refine gYd 3 I (by kernel_rfl) (aF (aq k) ah I I I I) I I<|qDr [(4,2),(6,2)] I I ?_;obtain⟨a,q,h⟩:=h;refine qDC 5 q [2] I ?_;refine gHR 4 (List.map aa.w a) I (vI _ a) I ?_;obtain⟨e,r,h⟩:=h;refine bG 7 r (by kernel_rfl) I (by kernel_rfl) I I .rfl I I ?_;refine qDr [(8,0),(9,0)] I I ?_;obtain⟨hb,h⟩:=h;refine bj 10 (.repl 4 (.row 164 2 (List.map aa.w (a++[(aa.mk e [105,110])])))) I (by kernel_rfl) (bx ah I I I I I (apM aa.w a (aa.mk e [105,110])) (by rw[aB];exact hb)) (okR I) I (by kernel_rfl) I I ?_;refine qDr [(11,0)] I I<|qDe<|gR 6 I ?_;obtain⟨j,l,h⟩:=h;refine gY (aF (aq l) ah I I I I) I I<|gR 1 I ?_;obtain⟨g,s,h⟩:=h;refine qC s [6] ?_;refine gHR 8 (List.map aa.w g) I (vI _ g) I<|gR 6 I ?_;subst h;exact gE O [] [(4,.sl 1)] [1000,8] [.tmp 4]
theorem py(m:Nat)(J:List aa)(p1:Tree)(O:List aa)(h:q9a p1.kind 21 (qo m J p1 O)<|lD m J p1 O):lw (m+1) J p1 O:=by
 intro K G;refine gR 6 rfl<|qBeZ 317 318 rfl rfl rfl rfl h ?_ ?_<;>intro h;exact gR 1 I<|qJ G (h K G) [0];exact gR 1 I<|qJ G (h K G) [0]
theorem wy(m:Nat)(G:List aa)(p1:Tree)(J:List aa)(h:∃d,p1.kids[0]?=some d∧∃a,aw G d a∧∃b,au p1 0 b∧(a++[(aa.mk b p1.text)]).length<=1000000000∧∃e,p1.kids[1]?=some e∧∃c,aw (a++[(aa.mk b p1.text)]) e c∧c=J):qo (m+1) G p1 J:=by
 intro K O;refine gR 1 I<|qDs [] 14 14<|qDr (qR 0 3 2 []) I I ?_;obtain⟨d,f,h⟩:=h;refine gYd 3 I (by kernel_rfl) (aF (aq f) ah I I I I) I I<|qDr [(4,2),(6,2),(8,2),(9,2)] I I ?_;obtain⟨a,i,h⟩:=h;refine qDC 5 i [0] I ?_;refine gHR 2 (List.map aa.w a) I (vI _ a) I ?_;obtain⟨b,j,h⟩:=h;refine bG 7 j (by kernel_rfl) I (by kernel_rfl) I I .rfl I I ?_;refine qDr [(10,0),(11,0)] I I ?_;obtain⟨hb,h⟩:=h;refine bj 12 (.repl 2 (.row 164 2 (List.map aa.w (a++[(aa.mk b p1.text)])))) I (by kernel_rfl) (bx ah I I I I I (apM aa.w a (aa.mk b p1.text)) (by rw[aB];exact hb)) (okR I) I (by kernel_rfl) I I ?_;refine qDr [(13,0)] I I<|qDe<|gR 6 I ?_;obtain⟨e,g,h⟩:=h;refine gY (aF (aq g) ah I I I I) I I<|gR 1 I ?_;obtain⟨c,k,h⟩:=h;refine qC k [4] ?_;refine gHR 6 (List.map aa.w c) I (vI _ c) I<|gR 6 I ?_;subst h;exact gE O [] [(4,.sl 1)] [1000,6] [.tmp 4]
theorem pg(m:Nat)(G:List aa)(p1:Tree)(J:List aa)(h:q9a p1.kind 22 (qt m G p1 J)<|∃a,au p1 0 a∧(G++[(aa.mk a p1.text)]).length<=1000000000∧(G++[(aa.mk a p1.text)])=J):lD (m+1) G p1 J:=by
 intro K O;refine gR 6 rfl<|qBeZ 338 339 rfl rfl rfl rfl h ?_ ?_<;>intro h;exact gR 1 I<|qJ O (h K O) [0];refine gR 5 I<|qDs [] 9 9<|qDr [(0,2),(1,2),(3,2),(4,2)] I I ?_;obtain⟨a,b,h⟩:=h;refine bG 2 b (by kernel_rfl) I (by kernel_rfl) I I .rfl I I ?_;refine qDr [(5,0),(6,0)] I I ?_;obtain⟨hb,h⟩:=h;refine bj 7 (.repl 0 (.row 164 2 (List.map aa.w (G++[(aa.mk a p1.text)])))) I (by kernel_rfl) (bx ah I I I I I (apM aa.w G (aa.mk a p1.text)) (by rw[aB];exact hb)) (okR I) I (by kernel_rfl) I I ?_;refine qDr [(8,0)] I I<|qDe<|gR 2 I ?_;subst h;exact gE O [] [(4,.sl 1)] [1000,2] [.tmp 4]
theorem wu(m:Nat)(G:List aa)(p1:Tree)(J:List aa)(h:∃b,au p1 0 b∧(G++[(aa.mk b [40])]).length<=1000000000∧∃d,p1.kids[0]?=some d∧∃a,aw (G++[(aa.mk b [40])]) d a∧∃c,au p1 1 c∧(a++[(aa.mk c [41])]).length<=1000000000∧(a++[(aa.mk c [41])])=J):qt (m+1) G p1 J:=by
 intro K O;refine gR 4 I ?_;obtain⟨b,f,h⟩:=h;refine qC0 f I<|gR 2 I ?_;obtain⟨hb,h⟩:=h;refine gDo (.repl 0 (.row 164 2 (List.map aa.w (G++[(aa.mk b [40])])))) (bx ah I I I I I (apM aa.w G (aa.mk b [40])) (by rw[aB];exact hb)) (okR I) I I I<|gR 4 I<|qDs [] 12 12<|qDr (qR 0 3 2 []) I I ?_;obtain⟨d,e,h⟩:=h;refine gYd 3 I (by kernel_rfl) (aF (aq e) ah I I I I) I I<|qDr [(4,2),(6,2)] I I ?_;obtain⟨a,g,h⟩:=h;refine qDC 5 g [2] I ?_;refine gHR 4 (List.map aa.w a) I (vI _ a) I ?_;obtain⟨c,i,h⟩:=h;refine bG 7 i (by kernel_rfl) I (by kernel_rfl) I I .rfl I I ?_;refine qDr [(8,0),(9,0)] I I ?_;obtain⟨hb,h⟩:=h;refine bj 10 (.repl 4 (.row 164 2 (List.map aa.w (a++[(aa.mk c [41])])))) I (by kernel_rfl) (bx ah I I I I I (apM aa.w a (aa.mk c [41])) (by rw[aB];exact hb)) (okR I) I (by kernel_rfl) I I ?_;refine qDr [(11,0)] I I<|qDe<|gR 4 I ?_;subst h;exact gE O [] [(4,.sl 1)] [1000,6] [.tmp 4]
def iF(m:Nat)(p1:Tree)(p2 p3 G:Int)(a:List aa)(b:Int)(J:List aa):Prop:=y4 m [] f176 (z8 (.sl 1) ⟨2,[(1,.row 164 2<|List.map aa.w J)]⟩) (xG<|cB<|aj f176) [.blk 0,.seq<|xA<|aj f176] 41 [(0,.sl 0),(2,qi p2),(3,qi p3),(4,qi G),(6,.box (ak p1) 0),(11,qi b)] ⟨1,[(0,.row 164 2<|List.map aa.w a)]⟩
theorem AC(m:Nat)(p0:List aa)(p1:Tree)(p2 p3 p4:Int)(r0:List aa)(h:iF m p1 p2 p3 p4 p0 p2 r0):gI p0 p1 p2 p3 p4 r0:=by
 refine qA 41 [] func176 λK hK=>?_;exact gR 3 I<|gFP 1 I I I I<|gR 11 I<|go_loop m<|qW hK h [0]
theorem jY(m:Nat)(p1:Tree)(p2 p3 G:Int)(b:List aa)(a:Int)(J:List aa)(h:y7 (a<p3) (y7 (p2<a) (InI (G+a)∧InI ((G+a)-p2)∧InI (((G+a)-p2)-1)∧∃c,au p1 (((G+a)-p2)-1) c∧(b++[(aa.mk c [44])]).length<=1000000000∧∃f,a=((f:Nat):Int)∧∃i,p1.kids[f]?=some i∧∃d,aw (b++[(aa.mk c [44])]) i d∧InI (a+1)∧iF m p1 p2 p3 G d (a+1) J) (∃g,a=((g:Nat):Int)∧∃j,p1.kids[g]?=some j∧∃e,aw b j e∧InI (a+1)∧iF m p1 p2 p3 G e (a+1) J))<|b=J):iF (m+1) p1 p2 p3 G b a J:=by
 refine qj λK Z O s=>?_;refine gR 8 rfl<|qXd 15 rfl rfl rfl h ?_ ?_<;>intro U h;refine gR 13 rfl<|qXd 20 rfl rfl rfl h ?_ ?_<;>intro U h;refine gR 6 I ?_;obtain⟨hb,h⟩:=h;refine gR 1 I<|gV 25 (qi<|G+a) I (ao hb I) I<|gR 1 I ?_;obtain⟨hb,h⟩:=h;refine gR 1 I<|gV 27 (qi<|(G+a)-p2) I (ao hb I) I ?_;obtain⟨hb,h⟩:=h;refine gR 1 I<|gV 28 (qi<|((G+a)-p2)-1) I (ao hb I) I ?_;obtain⟨c,p,h⟩:=h;refine qC0 p I<|gR 2 I ?_;obtain⟨hb,h⟩:=h;refine gDo (.repl 0<|.row 164 2<|List.map aa.w<|b++[(aa.mk c [44])]) (bx ah I I I I I (apM aa.w b<|aa.mk c [44]) (by rw[aB];exact hb)) (okR I) I I I<|gR 8 I ?_;obtain⟨f,n,h⟩:=h;refine gV 36 (qi ((f:Nat):Int)) I (aT n) I ?_;obtain⟨i,k,h⟩:=h;refine gY (aF (aq k) ah I I I I) I I<|gR 1 I ?_;obtain⟨d,q,h⟩:=h;refine qC q [2] ?_;refine gHR 4 (List.map aa.w d) I (vI _ d) I<|gR 6 I ?_;obtain⟨hb,h⟩:=h;exact gR 1 I<|gV 17 (qi<|a+1) I (ao hb I) I<|gR 2 I<|go_xloop<|qW O h [4];refine gR 8 I ?_;obtain⟨g,o,h⟩:=h;refine gV 36 (qi ((g:Nat):Int)) I (aT o) I ?_;obtain⟨j,l,h⟩:=h;refine gY (aF (aq l) ah I I I I) I I<|gR 1 I ?_;obtain⟨e,r,h⟩:=h;refine qC r [0] ?_;refine gHR 2 (List.map aa.w e) I (vI _ e) I<|gR 6 I ?_;obtain⟨hb,h⟩:=h;exact gR 1 I<|gV 17 (qi<|a+1) I (ao hb I) I<|gR 2 I<|go_xloop<|qW O h [2];refine gR 3 I<|go_xloopE<|gR 9 I ?_;subst h;exact gE O [] [(10,.sl 1)] [1000,0] [.tmp 10]
theorem sT(m:Nat)(G:Tree)(p1:Int)(J:YB)(h:((p1<(G.leads.length:Int))->∃a,p1=((a:Nat):Int)∧∃b,G.leads[a]?=some b∧b=J)∧((¬p1<(G.leads.length:Int))->[]=J)):au G p1 J:=by
 refine⟨I,I,?_⟩;refine qA 15 [] func175 λK O=>?_;refine gR 3 rfl<|gFP 0 rfl rfl rfl rfl<|gR 10 rfl<|gV 8 (qi (G.leads.length:Int)) rfl (aN<|aB V.str _) rfl<|gLB 7 rfl (aB V.str _) λe=>gR 3 rfl<|qBd 9 rfl rfl rfl h ?_ ?_<;>intro h;refine gR 6 I ?_;obtain⟨a,d,h⟩:=h;refine gV 12 (qi ((a:Nat):Int)) I (aT d) I ?_;obtain⟨b,c,h⟩:=h;refine gY (aF (ax (f:=V.str) c) ah I I I I) I I<|gR 6 I ?_;subst h;exact qN [.tmp 4];refine gR 9 I ?_;subst h;exact qN [.tmp 4]
def qc(G:YI)(J:Bool):Prop:=qS 5 [.row 1<|List.map (V.int .i64) G]<|.bool J
def eW(m:Nat)(a:YT)(b:Nat)(G:Bool):Prop:=y4 m [] f5 (q9<|.bool G) (xG<|xF<|aj f5) [.blk 0,.seq<|xI<|aj f5] 66 [(3,.row 4<|kidsV a),(4,qi (b:Int))] ⟨0,[]⟩
def gQ(m:Nat)(a:YT)(b:(List YI))(c d:Nat)(O:Bool):Prop:=∀(K:Ctx) (G J:Nat),av K []->m<=G->m<=J->qLG K f5 (q9<|.bool O) (xL<|xA<|cK<|cA<|cB<|xG<|xF<|aj f5) [.loop (xL<|xA<|cK<|cA<|cB<|xG<|xF<|aj f5) G,.blk 2,.blk 1,.seq<|xA<|xG<|xF<|aj f5,.loop (xG<|xF<|aj f5) J,.blk 0,.seq<|xI<|aj f5] 66 (mkF 66 0 [(3,.row 4<|kidsV a),(4,qi (d:Int)),(5,.row 1<|List.map (λl=>V.row 1<|List.map (V.int .i64) l) b),(6,qi (c:Int))]) ⟨0,[]⟩
theorem pG(m:Nat)(p0:YI)(r0:Bool)(h:∃a,oR p0 a∧((a=false)->∃b,nR b∧b=r0)∧((a=true)->∃c,mM p0 c∧eW m c 0 r0)):qc p0 r0:=by
 refine⟨I,I,?_⟩;refine qA 66 [] func5 λK hK=>?_;refine gR 9 I ?_;obtain⟨a,d,h⟩:=h;refine qC0 d rfl<|gR 3 rfl<|qXh 13 rfl rfl rfl h bD bC ?_ ?_<;>intro hd h;refine gR 3 I ?_;obtain⟨b,e,h⟩:=h;refine qC0 e I<|gR 5 I ?_;subst h;exact qN [.tmp 2];refine gR 6 I ?_;obtain⟨c,f,h⟩:=h;exact qC0 f I<|gR 10 I<|go_loop m<|qW hK h []
theorem oP(m:Nat)(a:YT)(b:Nat)(r0:Bool)(h:y7 (b<a.length) (∃c,a[b]?=some c∧∃d,nP c d∧gQ m a d 0 b r0)<|∃e,nR e∧e=r0):eW (m+1) a b r0:=by
 refine qj λK j1 hK k=>?_;refine gR 6 rfl<|gV 19 (qi (a.length:Int)) rfl (aN<|aD _) rfl<|gLB 18 rfl (aD _) λj=>gR 3 rfl<|qXh 20 rfl rfl rfl h co cp ?_ ?_<;>intro hd h;refine gR 9 I ?_;obtain⟨c,f,h⟩:=h;refine gY (aF (aq f) ah I I I I) I I<|gR 1 I ?_;obtain⟨d,g,h⟩:=h;exact qC0 g I<|gR 9 I<|go_loop m<|qJ hK (h K _ _ hK (by omega)<|by omega) [];refine gR 3 I<|go_xloopE<|gR 4 I ?_;obtain⟨e,i,h⟩:=h;refine qC0 i I<|gR 4 I ?_;subst h;exact qN [.tmp 2]
theorem oO(m:Nat)(d:YT)(a:(List YI))(b c:Nat)(G:Bool)(h:y7 (b<a.length) (∃k,a[b]?=some k∧∃n e,jy d (cv.mk (c:Int) k) n e∧∃o,a[b]?=some o∧∃p g,jQ d (cv.mk (c:Int) o) p g∧q3a e g (false=G) (∃i,dw n p i∧y9 i (false=G) (gQ m d a (b+1) c G)))<|c+1<=9223372036854775807∧eW m d (c+1) G):gQ (m+1) d a b c G:=by
 intro K O U J x y;obtain⟨O,rfl⟩:∃j,O=j+1:=⟨O-1,by omega⟩;obtain⟨U,rfl⟩:∃j,U=j+1:=⟨U-1,by omega⟩;refine gR 6 rfl<|gV 30 (qi (a.length:Int)) rfl (aN (aB (λl=>V.row 1<|List.map (V.int .i64) l) _)) rfl<|gLB 29 rfl (aB (λl=>V.row 1<|List.map (V.int .i64) l) _) λs=>gR 3 rfl<|qXh 31 rfl rfl rfl h co cp ?_ ?_<;>intro Z h;refine gR 11 I ?_;obtain⟨k,q,h⟩:=h;refine gY (aF (ax (f:=(λl=>V.row 1<|List.map (V.int .i64) l)) q) ah I I I I) I I<|gR 2 I ?_;obtain⟨n,e,t,h⟩:=h;refine qC0 t I<|gR 14 I ?_;obtain⟨o,r,h⟩:=h;refine gY (aF (ax (f:=(λl=>V.row 1<|List.map (V.int .i64) l)) r) ah I I I I) I I<|gR 2 I ?_;obtain⟨p,g,v,h⟩:=h;refine qC0 v rfl<|gR 14 rfl<|qXhZ 59 58 rfl rfl rfl rfl h dY cO ?_ ?_<;>intro Z h;refine gR 8 I<|go_sub (F':=(mkF 66 0 [])) (H':=⟨0,[]⟩) [] [] I J trivial trivial I<|gR 8 I<|go_xloopR<|gR 3 I<|go_xloopR<|gR 2 I ?_;subst h;exact qN [.tmp 2];refine gR 2 I ?_;obtain⟨i,w,h⟩:=h;refine qC0 w rfl<|gR 4 rfl<|qXh 64 rfl rfl rfl h bD bC ?_ ?_<;>intro Z h;refine gR 1 I<|go_sub (F':=(mkF 66 0 [])) (H':=⟨0,[]⟩) [] [] I J trivial trivial I<|gR 8 I<|go_xloopR<|gR 3 I<|go_xloopR<|gR 2 I ?_;subst h;exact qN [.tmp 2];exact gR 7 I<|gV 33 (qi ((b+1:Nat):Int)) I (ao (by have :=s;omega)<|by omega) I<|gR 2 I<|go_xloop<|qJ J (h K _ _ J (by omega)<|by omega) [];refine gR 3 I<|go_xloopE<|gR 5 I ?_;obtain⟨hb,h⟩:=h;exact gR 1 I<|gV 22 (qi ((c+1:Nat):Int)) I (ao (by omega)<|by omega) I<|gR 2 I<|go_xloop<|qW J h []
theorem Ln:tbulk pS<=1000000000:=by decide+kernel
theorem Ok:(atK pS [0,1]).isSome=true:=by decide+kernel
theorem Qq:oD pS [0,1] Sm true:=by have h:=Pm pS [0,1] Ln (by decide);rw[Ok]at h;exact h
theorem NO:rh true:=by
 obtain⟨nm,_,U⟩:=(Nx GM).2 FX;have Z:kX [pS] [⟨⟨0,[0,1,1]⟩,6⟩,⟨⟨0,[1,2,2]⟩,3⟩]:=U _ (by
  rw[RU nm];refine Nr (by decide) (λx hx=>?_) (List.Perm.refl _)<|List.pairwise_cons.2 ⟨λy hy=>?_,List.pairwise_singleton _ _⟩
  ·simp only[aah,List.not_mem_nil,or_false]at hx;rcases hx with rfl|rfl<;>decide
  ·simp only[List.mem_singleton]at hy;subst hy;unfold leE;decide)
 obtain⟨G,_,J⟩:=Uy (m:=0) (q:=[0,1]) FX GM rfl Qq RF;have O:=J 0 (FI G).2 (by decide);have e3:ofN (gm [pS] G ((0:Nat):Int) [0,1])=(.node 5 [] [] [],0):=by unfold ofN;rw[show(gm [pS] G ((0:Nat):Int) [0,1]).rs=5 from(FI G).1,show(gm [pS] G ((0:Nat):Int) [0,1]).rl=0 from(FI G).2];rfl
 rw[e3]at O;exact xy 0 _ (⟨pS,0,0,PI QB,_,Z,_,_,O,λ_=>⟨λ_=>⟨λ_=>⟨λ_=>⟨_,rfl,λ_=>⟨_,rfl,_,CD _,λ_=>⟨_,rfl,λ_=>⟨_,rfl,_,CD _,rfl⟩,λh=>absurd rfl h⟩,λh=>(by cases h)⟩,λh=>absurd rfl h⟩,λh=>absurd rfl h⟩,λh=>absurd rfl h⟩,λh=>absurd rfl h⟩,λh=>absurd rfl h⟩)
theorem Ph:nR true:=NO
def Dc(L:YI)(a:Int):Prop:=0<=a∧a<=L.length∧L.length<=1000000000
variable{a:Int}
theorem To{n:Int}(G:0<n)(J:n<=1000000000):∃r,qZ a n r∧0<=r∧r<n:=by
 have h1:=Int.lt_tmod_of_pos a G;have h2:=Int.tmod_lt_of_pos a G;by_cases h:Int.tmod a n<0
 ·exact⟨_,uL 0 _ _ _ ⟨by omega,λ_=>⟨by omega,I⟩,λh'=>absurd h h'⟩,by omega,by omega⟩
 ·exact⟨_,uL 0 _ _ _ ⟨by omega,λh'=>absurd h' h,λ_=>I⟩,by omega,by omega⟩
variable{L:YI}
theorem iD{n:Int}(O:Dc L a)(U:0<n)(G:n<=1000000000):∃r a',aP L a n r L a'∧(0<=r∧r<n)∧Dc L a':=by
 obtain⟨Z,h1,h2⟩:=O;by_cases h:(L.length:Int)<=a
 ·exact⟨0,a,pm 0 _ _ _ _ _ _ ⟨λ_=>⟨I,I,I⟩,λh'=>absurd h h'⟩,by omega,Z,h1,h2⟩
 ·obtain⟨x,hx,_⟩|h':=bd L a.toNat
  ·obtain⟨r,hr,J⟩:=To (a:=x) U G;exact⟨r,a+1,pm 0 _ _ _ _ _ _ ⟨λh'=>absurd h' h,λ_=>⟨by omega,by omega,a.toNat,by omega,x,hx,r,hr,I,I,I⟩⟩,J,by omega,by omega,h2⟩
  ·omega
theorem lP(G:Dc L a)(l:List YB)(U:0<l.length)(J:l.length<=1000000000):∃s a',bI L a l s L a'∧s∈l∧Dc L a':=by
 obtain⟨r,a',h1,h2,O⟩:=iD G (n:=(l.length:Int)) (by omega) (by omega);obtain⟨x,hx,_⟩|h':=bd l r.toNat
 ·exact⟨x,a',AD 0 _ _ _ _ _ _ ⟨_,_,_,h1,r.toNat,by omega,x,hx,I,I,I⟩,List.mem_of_getElem? hx,O⟩
 ·omega
def Gt(L:YI)(C:Tree->Int->Prop)(B:Nat):Prop:=∃t a',C t a'∧Dc L a'∧tbulk t<=B
theorem Gt.map{C C':Tree->Int->Prop}{B B':Nat}(h:Gt L C B)(hb:B<=B')(k:∀t a',C t a'->C' t a'):Gt L C' B':=by obtain⟨t,a',h1,h2,G⟩:=h;exact⟨t,a',k t a' h1,h2,by omega⟩
theorem kS{l:List YB}{s:YB}(h:s∈l)(G:l.all (λx=>decide<|x.length<=5)=true):s.length<=5:=by have :=List.all_eq_true.1 G s h;simpa using this
theorem tb0(k:Int)(s:YB):tbulk (.node k s [] [])=s.length+1:=by simp[tbulk,fH,kbulk]
theorem tb1(k:Int)(s:YB)(t:Tree):tbulk (.node k s [] [t])=s.length+tbulk t+1:=by simp[tbulk,fH,kbulk]
theorem tb2(k:Int)(s:YB)(t u:Tree):tbulk (.node k s [] [t,u])=s.length+tbulk t+tbulk u+1:=by simp[tbulk,fH,kbulk];omega
theorem tb3(k:Int)(s:YB)(t u v:Tree):tbulk (.node k s [] [t,u,v])=s.length+tbulk t+tbulk u+tbulk v+1:=by simp[tbulk,fH,kbulk];omega
theorem tbK(k:Int)(s:YB)(l:YT):tbulk (.node k s [] l)=s.length+kbulk l+1:=by simp[tbulk,fH]
theorem JV:∀(d:Nat) {a:Int},Dc L a->d<=100->Gt L (λt a'=>dx L a d t L a') (6+d):=λd=>by
 induction d with
 | zero=>
  intro a hd _;obtain⟨r,a1,h1,h2,h3⟩:=iD hd (n:=7) (by omega) (by omega);have top:∀{t a'},jd 1 0 r L a1 false t L a'->r≠0->r≠1->dx L a 0 t L a':=λh n0 n1=>lN 1 _ _ _ _ _ _ ⟨_,_,_,h1,λe=>absurd e n0,λ_=>by rw[show(r==1)=false by simpa using n1];exact h⟩;by_cases e0:r=0∨r=1
  ·refine⟨_,a1,lN 1 _ _ _ _ _ _ ⟨_,_,_,h1,λe=>bP 0 _ _ _ _ _ _ _ _ ⟨λ_=>⟨rfl,rfl,rfl⟩,λh=>nomatch h⟩,λe=>bP 0 _ _ _ _ _ _ _ _ ⟨λ_=>⟨rfl,rfl,rfl⟩,λh=>?_⟩⟩,h3,by rw[tb0];simp only[aae];omega⟩;rcases e0 with e0|e0
   ·exact absurd e0 e
   ·rw[e0]at h;cases h
  ·by_cases e2:r=2
   ·exact⟨_,a1,top (bP 0 _ _ _ _ _ _ _ _ ⟨λh=>(nomatch h),λ_=>⟨λ_=>⟨rfl,rfl,rfl⟩,λh=>absurd e2 h⟩⟩) (by omega) (by omega),h3,by rw[tb0];simp only[aae];omega⟩
   ·by_cases e3:r=3
    ·exact⟨_,a1,top (bP 0 _ _ _ _ _ _ _ _ ⟨λh=>(nomatch h),λ_=>⟨λh=>absurd h e2,λ_=>⟨λ_=>⟨rfl,rfl,rfl⟩,λh=>absurd e3 h⟩⟩⟩) (by omega) (by omega),h3,by rw[tb0];simp only[aae];omega⟩
    ·by_cases e4:r=4
     ·obtain⟨s,a2,g1,g2,g3⟩:=lP h3 [[84],[85],[65,46,84],[66,46,85]] (by decide) (by decide);have :=kS g2 (by decide);exact⟨_,a2,top (bP 0 _ _ _ _ _ _ _ _ ⟨λh=>(nomatch h),λ_=>⟨λh=>absurd h e2,λ_=>⟨λh=>absurd h e3,λ_=>⟨λ_=>⟨_,_,_,g1,I,I,I⟩,λh=>absurd e4 h⟩⟩⟩⟩) (by omega) (by omega),g3,by rw[tb0];omega⟩
     ·exact⟨_,a1,top (bP 0 _ _ _ _ _ _ _ _ ⟨λh=>(nomatch h),λ_=>⟨λh=>absurd h e2,λ_=>⟨λh=>absurd h e3,λ_=>⟨λh=>absurd h e4,λ_=>⟨λ_=>⟨rfl,rfl,rfl⟩,λh=>by omega⟩⟩⟩⟩⟩) (by omega) (by omega),h3,by rw[tb0];simp only[aae];omega⟩
 | succ d ih=>
  intro a hd hd100;obtain⟨r,a1,h1,h2,h3⟩:=iD hd (n:=7) (by omega) (by omega);have top:∀{t a'},jd 1 ((d+1:Nat):Int) r L a1 false t L a'->r≠0->r≠1->dx L a ((d+1:Nat):Int) t L a':=λh n0 n1=>lN 1 _ _ _ _ _ _ ⟨_,_,_,h1,λe=>absurd e n0,λ_=>by rw[show(r==1)=false by simpa using n1];exact h⟩;by_cases e0:r=0∨r=1
  ·refine⟨_,a1,lN 1 _ _ _ _ _ _ ⟨_,_,_,h1,λe=>bP 0 _ _ _ _ _ _ _ _ ⟨λ_=>⟨rfl,rfl,rfl⟩,λh=>nomatch h⟩,λe=>bP 0 _ _ _ _ _ _ _ _ ⟨λ_=>⟨rfl,rfl,rfl⟩,λh=>?_⟩⟩,h3,by rw[tb0];simp only[aae];omega⟩;rcases e0 with e0|e0
   ·exact absurd e0 e
   ·rw[e0]at h;cases h
  ·by_cases e2:r=2
   ·exact⟨_,a1,top (bP 0 _ _ _ _ _ _ _ _ ⟨λh=>(nomatch h),λ_=>⟨λ_=>⟨rfl,rfl,rfl⟩,λh=>absurd e2 h⟩⟩) (by omega) (by omega),h3,by rw[tb0];simp only[aae];omega⟩
   ·by_cases e3:r=3
    ·exact⟨_,a1,top (bP 0 _ _ _ _ _ _ _ _ ⟨λh=>(nomatch h),λ_=>⟨λh=>absurd h e2,λ_=>⟨λ_=>⟨rfl,rfl,rfl⟩,λh=>absurd e3 h⟩⟩⟩) (by omega) (by omega),h3,by rw[tb0];simp only[aae];omega⟩
    ·by_cases e4:r=4
     ·obtain⟨s,a2,g1,g2,g3⟩:=lP h3 [[84],[85],[65,46,84],[66,46,85]] (by decide) (by decide);have :=kS g2 (by decide);exact⟨_,a2,top (bP 0 _ _ _ _ _ _ _ _ ⟨λh=>(nomatch h),λ_=>⟨λh=>absurd h e2,λ_=>⟨λh=>absurd h e3,λ_=>⟨λ_=>⟨_,_,_,g1,I,I,I⟩,λh=>absurd e4 h⟩⟩⟩⟩) (by omega) (by omega),g3,by rw[tb0];omega⟩
     ·obtain⟨t,a2,g1,g2,g3⟩:=ih h3 (by omega);have g1':dx L a1 (((d+1:Nat):Int)-1) t L a2:=by rw[show((d+1:Nat):Int)-1=(d:Int) by omega];exact g1
      exact⟨_,a2,top (bP 0 _ _ _ _ _ _ _ _ ⟨λh=>(nomatch h),λ_=>⟨λh=>absurd h e2,λ_=>⟨λh=>absurd h e3,λ_=>⟨λh=>absurd h e4,λ_=>⟨λh=>by omega,λ_=>⟨by omega,_,_,_,g1',rfl,rfl,rfl⟩⟩⟩⟩⟩⟩) (by omega) (by omega),g2,by rw[tb1];simp only[aae];omega⟩
def eB:Nat->Nat
 |0=>6
 |d+1=>3*eB d+20
section
variable{L:YI}{d a z:Int}{t:Tree}{a':Int}{m:Nat}
theorem up2(G:z≠0)(h1:z≠1)(h:kI m d L a z t L a'):dv (m+2) d L a z t L a':=
 rL0_semvcsmake_Expr (m+1) _ _ _ _ _ _ _ ⟨λe=>absurd e G,λ_=>nN m _ _ _ _ _ _ _ _ ⟨λe=>absurd (eq_of_beq e) h1,λ_=>h⟩⟩
theorem up6(h2:z≠2)(G:z≠3)(J:z≠4)(O:z≠5)(h:la m d L a z t L a'):kI (m+4) d L a z t L a':=
 rL2_semvcsmake_Expr (m+3) _ _ _ _ _ _ _ ⟨λe=>absurd e h2,λ_=>ic (m+2) _ _ _ _ _ _ _ ⟨λe=>absurd e G,λ_=>km (m+1) _ _ _ _ _ _ _ ⟨λe=>absurd e J,λ_=>nQ m _ _ _ _ _ _ _ ⟨λe=>absurd e O,λ_=>h⟩⟩⟩⟩
theorem up9(G:z≠6)(J:z≠7)(h:iE m d L a z t L a'):la (m+2) d L a z t L a':=
 rL6_semvcsmake_Expr (m+1) _ _ _ _ _ _ _ ⟨λe=>absurd e G,λ_=>nL m _ _ _ _ _ _ _ _ ⟨λe=>absurd (eq_of_beq e) J,λ_=>h⟩⟩
theorem SN(G:z≠8)(h:kf m d L a z t L a'):iE (m+1) d L a z t L a':=sQ m _ _ _ _ _ _ _ ⟨λe=>absurd e G,λ_=>h⟩
theorem Uo(G:z≠9)(h:ib m d L a z t L a'):kf (m+1) d L a z t L a':=sD m _ _ _ _ _ _ _ ⟨λe=>absurd e G,λ_=>h⟩
theorem UP(G:z≠10)(J:z≠11)(h:ke m d L a z t L a'):ib (m+2) d L a z t L a':=
 rL14_semvcsmake_Expr (m+1) _ _ _ _ _ _ _ ⟨λe=>absurd e G,λ_=>mO m _ _ _ _ _ _ _ _ ⟨λe=>absurd (eq_of_beq e) J,λ_=>h⟩⟩
end
theorem Cu{d z:Int}(M:Nat)(Z:Dc L a)(h0:0<=z)(h5:z<=5):Gt L (λt a'=>dv (M+8) d L a z t L a') 6:=by
 by_cases e0:z=0∨z=1
 ·obtain⟨s,J,G,U,O⟩:=lP Z [[120],[121],[122]] (by decide) (by decide);have :=kS U (by decide);refine⟨_,J,rL0_semvcsmake_Expr (M+7) _ _ _ _ _ _ _ ⟨λe=>nN (M+6) _ _ _ _ _ _ _ _ ⟨λ_=>⟨_,_,_,G,I,I,I⟩,λh=>nomatch h⟩,λe=>nN (M+6) _ _ _ _ _ _ _ _ ⟨λ_=>⟨_,_,_,G,I,I,I⟩,λh=>?_⟩⟩,O,by rw[tb0];omega⟩;rcases e0 with e0|e0
  ·exact absurd e0 e
  ·rw[e0]at h;exact absurd h (by decide)
 have n0:z≠0:=by omega
 have n1:z≠1:=by omega
 by_cases e2:z=2
 ·obtain⟨s,J,G,U,O⟩:=lP Z [[48],[49],[50],[49,48]] (by decide) (by decide);have :=kS U (by decide);exact⟨_,J,up2 n0 n1<|rL2_semvcsmake_Expr (M+5) _ _ _ _ _ _ _ ⟨λ_=>⟨_,_,_,G,I,I,I⟩,λh=>absurd e2 h⟩,O,by rw[tb0];omega⟩
 by_cases e3:z=3
 ·obtain⟨s,J,G,U,O⟩:=lP Z [[34,34],[34,97,34],[34,35,32,98,34]] (by decide) (by decide);have :=kS U (by decide);exact⟨_,J,up2 n0 n1<|rL2_semvcsmake_Expr (M+5) _ _ _ _ _ _ _ ⟨λh=>absurd h e2,λ_=>ic (M+4) _ _ _ _ _ _ _ ⟨λ_=>⟨_,_,_,G,I,I,I⟩,λh=>absurd e3 h⟩⟩,O,by rw[tb0];omega⟩
 by_cases e4:z=4
 ·obtain⟨r,J,G,U,O⟩:=iD Z (n:=2) (by omega) (by omega);exact⟨_,J,up2 n0 n1 (rL2_semvcsmake_Expr (M+5) _ _ _ _ _ _ _ ⟨λh=>absurd h e2,λ_=>ic (M+4) _ _ _ _ _ _ _ ⟨λh=>absurd h e3,λ_=>km (M+3) _ _ _ _ _ _ _ ⟨λ_=>⟨_,_,_,G,by omega,rfl,rfl,rfl⟩,λh=>absurd e4 h⟩⟩⟩),O,by rw[tb0];simp only[aae];omega⟩
 have e5:z=5:=by omega
 obtain⟨r,J,G,U,O⟩:=iD Z (n:=3) (by omega) (by omega);by_cases er:r=0
 ·exact⟨_,J,up2 n0 n1<|rL2_semvcsmake_Expr (M+5) _ _ _ _ _ _ _ ⟨λh=>absurd h e2,λ_=>ic (M+4) _ _ _ _ _ _ _ ⟨λh=>absurd h e3,λ_=>km (M+3) _ _ _ _ _ _ _ ⟨λh=>absurd h e4,λ_=>nQ (M+2) _ _ _ _ _ _ _ ⟨λ_=>⟨_,_,_,G,λ_=>⟨rfl,rfl,rfl⟩,λh=>absurd er h⟩,λh=>absurd e5 h⟩⟩⟩⟩,O,by rw[tb0];simp only[aae];omega⟩
 ·exact⟨_,J,up2 n0 n1<|rL2_semvcsmake_Expr (M+5) _ _ _ _ _ _ _ ⟨λh=>absurd h e2,λ_=>ic (M+4) _ _ _ _ _ _ _ ⟨λh=>absurd h e3,λ_=>km (M+3) _ _ _ _ _ _ _ ⟨λh=>absurd h e4,λ_=>nQ (M+2) _ _ _ _ _ _ _ ⟨λ_=>⟨_,_,_,G,λh=>absurd h er,λ_=>⟨rfl,rfl,rfl⟩⟩,λh=>absurd e5 h⟩⟩⟩⟩,O,by rw[tb0];simp⟩
theorem IV(U:Dc L a):Gt L (λt a'=>ba L a 0 t L a') 6:=by
 obtain⟨r,Z,h1,h2,G⟩:=iD U (n:=14) (by omega) (by omega);by_cases J:5<r
 ·by_cases O:5<r-6
  ·exact(Cu 0 (d:=0) G (z:=0) (by omega)<|by omega).map (aaf _) λt a' h=>ld 8 _ _ _ _ _ _ ⟨_,_,_,h1,λ_=>⟨λ_=>⟨by omega,λ_=>h,λh'=>absurd O h'⟩,λh'=>absurd J h'⟩,λh'=>by omega⟩
  ·exact(Cu 0 (d:=0) G (z:=r-6) (by omega)<|by omega).map (aaf _) λt a' h=>ld 8 _ _ _ _ _ _ ⟨_,_,_,h1,λ_=>⟨λ_=>⟨by omega,λh'=>absurd h' O,λ_=>h⟩,λh'=>absurd J h'⟩,λh'=>by omega⟩
 ·exact(Cu 0 (d:=0) G (z:=r) (by omega)<|by omega).map (aaf _) λt a' h=>ld 8 _ _ _ _ _ _ ⟨_,_,_,h1,λ_=>⟨λh'=>absurd h' J,λ_=>h⟩,λh'=>by omega⟩
theorem CV{k:Int}{B:Nat}(h:Gt L (λt a'=>ba L a k t L a') B):Gt L (λt a'=>gK L a k t L a') (B+1):=by
 obtain⟨t,G,J,O,Z⟩:=h;cases U:yX t.kind with
 |true=>exact⟨t,G,ug 0 _ _ _ _ _ _ ⟨_,_,_,J,_,zS _,λh=>absurd (U.symm.trans h) (by decide),λ_=>⟨rfl,rfl,rfl⟩⟩,O,by omega⟩
 |false=>exact⟨_,G,ug 0 _ _ _ _ _ _ ⟨_,_,_,J,_,zS _,λ_=>⟨rfl,rfl,rfl⟩,λh=>absurd (U.symm.trans h)<|by decide⟩,O,by rw[tb1];simp only[aae];omega⟩
theorem Mr:∀d,6<=eB d
 |0=>aaf _
 |d+1=>by have :=Mr d;simp only[eB];omega
theorem Re:∀(d:Nat) {a:Int},Dc L a->d<=5->Gt L (λt a'=>ba L a d t L a') (eB d):=λd=>by
 induction d with
 |zero=>intro a hd _;exact IV hd
 | succ d ih=>
  intro a hd hd5;obtain⟨z,a1,h1,h2,h3⟩:=iD hd (n:=14) (by omega) (by omega);have top:∀{M t a'},dv M ((d+1:Nat):Int) L a1 z t L a'->ba L a ((d+1:Nat):Int) t L a':=λ{M} {t} {a'} h=>ld M _ _ _ _ _ _ ⟨_,_,_,h1,λh'=>by omega,λ_=>h⟩;have sub:∀{a},Dc L a->Gt L (λt a'=>ba L a (((d+1:Nat):Int)-1) t L a') (eB d):=λ{a} h=>by rw[show((d+1:Nat):Int)-1=(d:Int) by omega];exact ih h (by omega)
  have hB:eB (d+1)=3*eB d+20:=rfl;have hp:=Mr d;by_cases c5:z<=5
  ·exact(Cu 0 (d:=((d+1:Nat):Int)) h3 (by omega) c5).map (by omega) λt a' h=>top h
  have n0:z≠0:=by omega
  have n1:z≠1:=by omega
  have n2:z≠2:=by omega
  have n3:z≠3:=by omega
  have n4:z≠4:=by omega
  have n5:z≠5:=by omega
  by_cases c7:z<=7
  ·
   obtain⟨s,a2,g1,g2,g3⟩:=lP h3 [[102],[103],[104],[65,46,102],[66,46,103],[65,46,104]] (by decide) (by decide);have hs:=kS g2 (by decide);obtain⟨n,a3,g4,g5,g6⟩:=iD g3 (n:=4) (by omega) (by omega);have loop:∀(k:Nat) (a:Int) (l:YT),Dc L a->l.length+k<=100->Gt L (λt a'=>kq (k+1) ((d+1:Nat):Int) s L a l (k:Int) t L a') (s.length+1+kbulk l+k*(eB d+1)):=λk=>by
    induction k with
    |zero=>intro a l hd hl;exact⟨_,a,sh 0 _ _ _ _ _ _ _ _ _ ⟨λh=>by omega,λ_=>⟨rfl,rfl,rfl⟩⟩,hd,by rw[tbK];omega⟩
    |succ k ihk=>
     intro a l hd hl;obtain⟨t,b,q1,q2,q3⟩:=sub hd;refine(ihk b (l++[.node 17 [] [] [t]]) q2 (by simp;omega)).map ?_ λt' a' h=>sh (k+1) _ _ _ _ _ _ _ _ _ ⟨λ_=>⟨by omega,_,_,_,q1,by simp;omega,by omega,by rw[show((k+1:Nat):Int)-1=(k:Int) by omega];exact h⟩,λh=>by omega⟩;rw[iz,Nat.succ_mul];simp only[kbulk,tb1,aae];omega
   refine(loop n.toNat a3 [] g6 (by simp;omega)).map (by
    have :n.toNat*(eB d+1)<=3*(eB d+1):=Nat.mul_le_mul_right _ (by omega);simp only[kbulk];omega) λt a' h=>?_
   have h8:oW (n.toNat+2) ((d+1:Nat):Int) L a1 t L a':=zM (n.toNat+1) _ _ _ _ _ _ ⟨_,_,_,g1,_,_,_,g4,by rw[show n=((n.toNat:Nat):Int) by omega];exact h⟩;refine top<|up2 n0 n1<|up6 n2 n3 n4 n5<|rL6_semvcsmake_Expr (n.toNat+3) _ _ _ _ _ _ _ ⟨λ_=>nL (n.toNat+2) _ _ _ _ _ _ _ _ ⟨λ_=>h8,λh=>nomatch h⟩,λh=>nL (n.toNat+2) _ _ _ _ _ _ _ _ ⟨λ_=>h8,λh'=>?_⟩⟩;have :z≠7:=by simpa using h'
   omega
  have n6:z≠6:=by omega
  have n7:z≠7:=by omega
  have t9:∀{M t a'},iE M ((d+1:Nat):Int) L a1 z t L a'->ba L a ((d+1:Nat):Int) t L a':=λh=>top<|up2 n0 n1<|up6 n2 n3 n4 n5<|up9 n6 n7 h;by_cases c8:z=8
  ·
   obtain⟨n,a3,g4,g5,g6⟩:=iD h3 (n:=3) (by omega) (by omega);have loop:∀(k:Nat) (a:Int) (l:YT),Dc L a->l.length+k<=100->Gt L (λt a'=>kc (k+1) ((d+1:Nat):Int) L a l (k:Int) t L a') (1+kbulk l+k*(eB d)):=λk=>by
    induction k with
    |zero=>intro a l hd hl;exact⟨_,a,sq 0 _ _ _ _ _ _ _ _ ⟨λh=>by omega,λ_=>⟨rfl,rfl,rfl⟩⟩,hd,by rw[tbK];simp only[aae];omega⟩
    |succ k ihk=>
     intro a l hd hl;obtain⟨t,b,q1,q2,q3⟩:=sub hd;refine(ihk b (l++[t]) q2 (by simp;omega)).map ?_ λt' a' h=>sq (k+1) _ _ _ _ _ _ _ _ ⟨λ_=>⟨by omega,_,_,_,q1,by simp;omega,by omega,by rw[show((k+1:Nat):Int)-1=(k:Int) by omega];exact h⟩,λh=>by omega⟩;rw[iz,Nat.succ_mul];simp only[kbulk];omega
   exact(loop (1+n).toNat a3 [] g6 (by simp;omega)).map (by
    have :(1+n).toNat*eB d<=3*eB d:=Nat.mul_le_mul_right _ (by omega);simp only[kbulk];omega) λt a' h=>t9 (sQ ((1+n).toNat+1) _ _ _ _ _ _ _ ⟨λ_=>⟨_,_,_,g4,by omega,by rw[show(((1+n).toNat:Nat):Int)=1+n by omega]at h;exact h⟩,λh'=>absurd c8 h'⟩)
  by_cases c9:z=9
  ·obtain⟨t1,b1,q1,r1,s1⟩:=sub h3;obtain⟨t2,b2,q2,r2,s2⟩:=sub r1;obtain⟨t3,b3,q3,r3,s3⟩:=sub r2;exact⟨_,b3,t9 (SN c8<|sD 1 _ _ _ _ _ _ _ ⟨λ_=>zj 0 _ _ _ _ _ _ ⟨by omega,_,_,_,q1,by omega,_,_,_,q2,by omega,_,_,_,q3,rfl,rfl,rfl⟩,λh=>absurd c9 h⟩),r3,by rw[tb3];simp only[aae];omega⟩
  have t14:∀{M t a'},ib M ((d+1:Nat):Int) L a1 z t L a'->ba L a ((d+1:Nat):Int) t L a':=λh=>t9<|SN c8<|Uo c9 h;by_cases c11:z<=11
  ·obtain⟨s,b0,g1,g2,g3⟩:=lP h3 [[120],[121],[122]] (by decide) (by decide);have hs:=kS g2 (by decide);obtain⟨t1,b1,q1,r1,s1⟩:=sub g3;obtain⟨t2,b2,q2,r2,s2⟩:=sub r1;refine⟨.node 20 s [] [t1,t2],b2,?_,r2,by rw[tb2];omega⟩;have h16:nM 1 ((d+1:Nat):Int) L a1 (.node 20 s [] [t1,t2]) L b2:=yV 0 _ _ _ _ _ _ ⟨_,_,_,g1,by omega,_,_,_,q1,by omega,_,_,_,q2,rfl,rfl,rfl⟩;refine t14<|rL14_semvcsmake_Expr 2 _ _ _ _ _ _ _ ⟨λ_=>mO 1 _ _ _ _ _ _ _ _ ⟨λ_=>h16,λh=>nomatch h⟩,λh=>mO 1 _ _ _ _ _ _ _ _ ⟨λ_=>h16,λh'=>?_⟩⟩;have :z≠11:=by simpa using h'
   omega
  have t17:∀{M t a'},ke M ((d+1:Nat):Int) L a1 z t L a'->ba L a ((d+1:Nat):Int) t L a':=λh=>t14 (UP (by omega) (by omega) h);by_cases c12:z=12
  ·obtain⟨s,b0,g1,g2,g3⟩:=lP h3 [[43],[45],[42],[60],[61,61]] (by decide) (by decide);have hs:=kS g2 (by decide);obtain⟨t1,b1,q1,r1,s1⟩:=CV<|sub g3;obtain⟨n,b2,q2,q3,q4⟩:=iD r1 (n:=3) (by omega) (by omega);by_cases hn:n=0
   ·obtain⟨s',b3,g4,g5,g6⟩:=lP q4 [[43],[42]] (by decide) (by decide);have hs':=kS g5 (by decide);obtain⟨t2,b4,q5,r5,s5⟩:=CV<|IV g6;obtain⟨t3,b5,q6,r6,s6⟩:=CV<|sub r5;exact⟨_,b5,t17 (mR 1 _ _ _ _ _ _ _ ⟨λ_=>sy 0 _ _ _ _ _ _ ⟨_,_,_,g1,by omega,_,_,_,q1,_,_,_,q2,λ_=>⟨_,_,_,g4,_,_,_,q5,by omega,_,_,_,q6,I,I,I⟩,λh=>absurd hn h⟩,λh=>absurd c12 h⟩),r6,by rw[tb2,tb2];omega⟩
   ·obtain⟨t3,b5,q6,r6,s6⟩:=CV<|sub q4;exact⟨_,b5,t17 (mR 1 _ _ _ _ _ _ _ ⟨λ_=>sy 0 _ _ _ _ _ _ ⟨_,_,_,g1,by omega,_,_,_,q1,_,_,_,q2,λh=>absurd h hn,λ_=>⟨by omega,_,_,_,q6,I,I,I⟩⟩,λh=>absurd c12 h⟩),r6,by rw[tb2];omega⟩
  ·obtain⟨t1,b1,q1,r1,s1⟩:=sub h3;exact⟨_,b1,t17 (mR 1 _ _ _ _ _ _ _ ⟨λh=>absurd h c12,λ_=>⟨by omega,_,_,_,q1,rfl,rfl,rfl⟩⟩),r1,by rw[tb1];simp only[aae];omega⟩
open Go.RowKit Lx
def mS:Bool->YB->Bool
 |c,[]=>c
 |c,x::r=>mS (if x.toNat=10 then false else if x.toNat=35 then true else c) r
theorem su:∀(b:Bool) (l:YB) (n m:Nat),aW b l (n+m)=((aW b l n).1+m,(aW b l n).2.map (·+m))
 |b,[],n,m=>by cases b<;>simp[aW]
 | false,c::r,n,m=>by
  have h1:=su false r (n+1) m;have h2:=su true r (n+1) m;unfold aW;split
  ·rw[<-h1];congr 1;omega
  ·split
   ·rw[<-h2];congr 1;omega
   ·simp
 | true,c::r,n,m=>by
  have h1:=su false r (n+1) m;have h2:=su true r (n+1) m;unfold aW;split
  ·rw[<-h1];congr 1;omega
  ·split
   ·simp
   ·rw[<-h2];congr 1;omega
def nv(c:Bool)(l:YB):Bool:=(aW c l 0).2.isNone&&(aW c l 0).1==l.length
theorem tJ{c d:Bool}{x:UInt8}{r:YB}(h:aW c (x::r) 0=aW d r 1):nv c (x::r)=nv d r:=by unfold nv;rw[h,show(1:Nat)=0+1 from rfl,su];simp
theorem CB:∀(l:YB) (c fin:Bool),kB c l fin=(nv c l&&(!mS c l||fin))
 |[],c,fin=>by cases c<;>cases fin<;>rfl
 | x ::r,c,fin=>by
  have ih:=CB r;unfold kB mS;cases c with
  | true=>
   by_cases ha:bo x=false
   ·have h10:¬x.toNat=10:=λh=>by simp[bo,cM,h]at ha
    have :nv true (x::r)=false:=by simp[nv,aW,h10,ha]
    rw[if_pos ha,this];rfl
   ·have ha':bo x=true:=by simpa using ha
    rw[if_neg ha,if_pos rfl,ih];by_cases h10:x.toNat=10
    ·rw[tJ (d:=false)<|by simp[aW,h10]];simp[h10]
    ·have hb:(x.toNat==10)=false:=by simpa using h10
     rw[tJ (d:=true) (by simp[aW,h10,ha']),hb];simp[h10]
  | false=>
   by_cases ha:bo x=false
   ·have hw:cM x=false:=by cases h:cM x<;>simp_all[bo]
    have h35:¬x.toNat=35:=λh=>by simp[bo,fG,h]at ha
    have :nv false (x::r)=false:=by simp[nv,aW,hw,h35]
    rw[if_pos ha,this];rfl
   ·rw[if_neg ha,if_neg<|by simp];by_cases h35:x.toNat=35
    ·have hw:cM x=false:=by simp[cM,h35]
     rw[if_pos h35,ih,tJ (d:=true)<|by simp[aW,h35,hw]];simp[h35]
    ·rw[if_neg h35];by_cases hw:cM x=false
     ·have :nv false (x::r)=false:=by simp[nv,aW,hw,h35]
      rw[if_pos hw,this];rfl
     ·have hw':cM x=true:=by simpa using hw
      rw[if_neg hw,ih,tJ (d:=false)<|by simp[aW,hw']];by_cases h10:x.toNat=10<;>simp[h10,h35]
theorem EF{l:YB}{k:Nat}{x:UInt8}{c:Bool}(h:k<l.length)(G:l[k]=x):mS c (l.drop k)=mS (if x.toNat=10 then false else if x.toNat=35 then true else c) (l.drop<|k+1):=by rw[aan h,G];rfl
theorem Hm{l:YB}{k:Nat}{c:Bool}(h:l.length<=k):mS c (l.drop k)=c:=by rw[List.drop_of_length_le h];rfl
set_option maxHeartbeats 1000000 in
theorem PF (l:List UInt8) (fin:Bool) (w:World) (hl:l.length<=281474976710656):Calls prog 152 #[.string ⟨l.toArray⟩,.bool fin] w λe w'=>e=.returned (.bool<|kB false l fin)∧w=w':=by
  obtain⟨n,b,hLd⟩:∃n b,aW false l 0=(n,b):=⟨_,_,rfl⟩;have hnl:n<=l.length:=by have h:=tu false l 0;rw[hLd]at h;simpa using h
  have HLd:=Lib.hid hLd;have HW:=Lib.hid (show nv false l=(b.isNone&&n==l.length)from by rw[nv,hLd]);have HT:=Lib.hid<|CB l false fin;clear hLd
  go_enter func152,ntmps152
  go_wp2_with fail
  refine(Pg l 0 0 I _ (aao _) hl).mono ?_;rintro e w' ⟨rfl,rfl⟩;rw[List.drop_zero,HLd.out];cases b with
  | some q=>
    have hq2:Cm 0 (some q)=((0+q:Nat):Int):=rfl;rw[hq2,Nat.zero_add];have hq:(0:Int)<=(q:Int):=by omega
    have HF:=Lib.hid (show kB false l fin=false from by rw[HT.out,HW.out];rfl)
    go_wp2
    go_ret
    exact⟨cb HF.out.symm,rfl⟩
  | none=>
    have hq2:Cm 0 none=-1:=rfl;rw[hq2];clear hq2;by_cases hn:n<l.length
    · have HF := Lib.hid (show kB      false l fin = false from by rw[HT.out,HW.out];have :(n==l.length)=false:=by simp;omega
                                                                   rw[this];rfl)
      go_wp2
      go_ret
      exact⟨cb HF.out.symm,rfl⟩
    · have hnb:decide (n<l.length)=false:=by simpa using hn
      have HF:=Lib.hid (show kB false l fin=(!mS false l||fin)from by
        rw[HT.out,HW.out];have :(n==l.length)=true:=by simp;omega
        rw[this];rfl)
      cases fin with
      | true=>
        go_wp2
        go_ret
        exact⟨cb (by rw[HF.out];simp),rfl⟩
      | false=>
        obtain⟨r,hr⟩:∃r,mS false l=r:=⟨_,rfl⟩;have HR:=Lib.hid hr;clear hr
        go_wp2
        go_loopg [7,8] l.length (λg s7 s8 wx=>∃(i:Nat) (c:Bool),g=l.length-i∧wx=w∧i<=l.length∧s7=.bool c∧s8=.int .i64 i∧Hid (mS c (l.drop i)=r))
        case atStart=>exact⟨0,false,rfl,rfl,aao _,rfl,rfl,Lib.hid<|by simpa using HR.out⟩
        case round=>
          obtain⟨i,c,rfl,rfl,hil,rfl,rfl,HC⟩:=hrel;by_cases hit:i<l.length
          rotate_left
          · have HF2:=Lib.hid (show c=r from by rw[<-HC.out,Hm<|by omega])
            go_wp2_with fail
            go_ret
            exact⟨cb (by rw[HF.out,HR.out,HF2.out];simp),rfl⟩
          obtain⟨x,hx⟩:∃c,({data:=l.toArray}:ByteArray)[i]'hit=c:=⟨_,rfl⟩;have HXi:=Lib.hid<|show l[i]=x from hx;have HS:=Lib.hid<|HC.out.symm.trans<|EF hit HXi.out;clear HC;cases h35:((x.toNat:Int)==35)<;>cases h10:((x.toNat:Int)==10)
          · go_wp2
            go_roundg (l.length-(i+1))
            case measure=>omega
            case rel=>exact⟨i+1,c,rfl,rfl,by omega,rfl,by go_num,Lib.hid<|by rw[HS.out,if_neg<|cP (m:=10) h10,if_neg<|cP (m:=35) h35]⟩
          · go_wp2
            go_roundg (l.length-(i+1))
            case measure=>omega
            case rel=>exact⟨i+1,false,rfl,rfl,by omega,rfl,by go_num,Lib.hid<|by rw[HS.out,if_pos<|eZ (m:=10) h10]⟩
          · go_wp2
            go_roundg (l.length-(i+1))
            case measure=>omega
            case rel=>exact⟨i+1,true,rfl,rfl,by omega,rfl,by go_num,Lib.hid<|by rw[HS.out,if_neg<|cP (m:=10) h10,if_pos<|eZ (m:=35) h35]⟩
          · have h1:=eZ (m:=10) h10;have h2:=eZ (m:=35) h35;omega
end Go.Proofs.YtomplbgchbfjpaaGreatDoor
