/- Contracts of the functions that the law reaches, part 5. -/
import Derived.Test.YtomplbgchbfjpaaGreatDoorOf4
set_option linter.unusedVariables false
set_option linter.unusedSimpArgs false
namespace Go.Proofs.YtomplbgchbfjpaaGreatDoor
open _root_.Go.Proofs.Tryz
open Go.RowKit Lx
set_option maxRecDepth 100000
theorem neI{n m:Nat}(h:((n:Int)!=(m:Int))=false):n=m:=by simp at h;omega
theorem neT{n m:Nat}(h:((n:Int)!=(m:Int))=true):¬n=m:=by simp at h;omega
def Cm(k:Nat):Option Nat->Int
 |none=>-1
 |some p=>((k+p:Nat):Int)
def BJ(l:YB)(k:Nat)(w:World)(e:Ending)(w':World):Prop:=
 e=.returned (.tuple #[.int .i64 ((aW false (l.drop k) 0).1:Nat),.int .i64<|Cm k (aW false (l.drop k) 0).2])∧w=w'
variable{k:Nat}
theorem DK{l:YB}{n:Nat}{b:Option Nat}{w:World}{x y:Int}(h:aW false (l.drop k) 0=(n,b))(hx:x=n)(hy:y=Cm k b):BJ l k w (.returned<|.tuple #[.int .i64 x,.int .i64 y]) w:=by subst hx;subst hy;unfold BJ;rw[h];exact⟨rfl,rfl⟩
set_option maxHeartbeats 2000000 in
theorem Pg(l:YB)(x:Int)(k:Nat)(hxk:x=k)(w:World)(hk:k<=l.length)(hl:l.length<=281474976710656):Calls prog 174 #[.string ⟨l.toArray⟩,.int .i64 x] w (BJ l k w):=by
 subst hxk
 go_enter func174,ntmps174
 go_wp2_with (first|(go_at_call 170;refine qmm (mw _ _) ?_)|(go_at_call 185;refine qmm (bF _ _) ?_))
 go_loopg [6] (l.length-k) (λg n wx=>∃i:Nat,g=l.length-i∧wx=w∧k<=i∧i<=l.length∧n=.int .i64 i∧Hid (aW false (l.drop k) 0=aW false (l.drop i) (i-k)))
 case atStart=>exact⟨k,rfl,rfl,aaf _,hk,rfl,Lib.hid (by congr 1;omega)⟩
 case round=>
  obtain⟨i,rfl,rfl,hki,hil,rfl,HL⟩:=hrel;by_cases hit:i<l.length
  rotate_left
  ·go_wp2_with (first|(go_at_call 170;refine qmm (mw _ _) ?_)|(go_at_call 185;refine qmm (bF _ _) ?_))
   go_ret2
   exact DK (n:=i-k) (b:=none) (by rw[HL.out,AA _<|by omega]) (by omega) I
  obtain⟨c,hc⟩:∃c,({data:=l.toArray}:ByteArray)[i]'hit=c:=⟨_,rfl⟩;have HC:=Lib.hid<|show l[i]=c from hc;cases hw:cM c
  rotate_left
  ·go_wp2_with (first|(go_at_call 170;refine qmm (mw _ _) ?_)|(go_at_call 185;refine qmm (bF _ _) ?_))
   go_roundg (l.length-(i+1))
   case measure=>omega
   case rel=>exact⟨i+1,rfl,rfl,by omega,by omega,by go_num,Lib.hid (by rw[HL.out,Ia hit HC.out hw];congr 1;omega)⟩
  cases h35:((c.toNat:Int)==35)
  ·go_wp2_with (first|(go_at_call 170;refine qmm (mw _ _) ?_)|(go_at_call 185;refine qmm (bF _ _) ?_))
   go_ret2
   exact DK (n:=i-k) (b:=none) (by rw[HL.out,Iu hit HC.out hw<|cP (m:=35) h35]) (by omega) I
  have HL2:=Lib.hid<|HL.out.trans<|Ke (n:=i-k) hit HC.out<|eZ (m:=35) h35;have HCI:=Lib.hid<|eZ (m:=35) h35
  go_wp2_with (first|(go_at_call 170;refine qmm (mw _ _) ?_)|(go_at_call 185;refine qmm (bF _ _) ?_))
  clear HL;obtain⟨wo,rfl⟩:∃wo:World,wo=wr:=⟨_,rfl⟩
  go_loopg [6] (l.length-i) (λg n wx=>∃j:Nat,g=l.length-j∧wx=wo∧i<=j∧j<=l.length∧n=.int .i64 j∧Hid (aW false (l.drop k) 0=aW true (l.drop j) (j-k)))
  case atStart=>exact⟨i,rfl,rfl,aaf _,by omega,rfl,HL2⟩
  case round=>
   obtain⟨j,rfl,rfl,hij,hjl,rfl,HL3⟩:=hrel;by_cases hjt:j<l.length
   rotate_left
   ·go_wp2_with (first|(go_at_call 170;refine qmm (mw _ _) ?_)|(go_at_call 185;refine qmm (bF _ _) ?_))
    go_roundg (l.length-j)
    case measure=>omega
    case rel=>exact⟨j,rfl,rfl,by omega,by omega,rfl,Lib.hid<|by rw[HL3.out,AA _ (by omega),AA _<|by omega]⟩
   obtain⟨d,hd⟩:∃c,({data:=l.toArray}:ByteArray)[j]'hjt=c:=⟨_,rfl⟩;have HD:=Lib.hid<|show l[j]=d from hd;cases h10:((d.toNat:Int)!=10)
   ·have hne:i<j:=by
     rcases Nat.lt_or_ge i j with h|h
     ·exact h
     ·have :i=j:=by omega
      subst this;have h2:=HCI.out;have h3:c=d:=by rw[<-HC.out,<-HD.out]
      subst h3;simp[h2]at h10
    go_wp2_with (first|(go_at_call 170;refine qmm (mw _ _) ?_)|(go_at_call 185;refine qmm (bF _ _) ?_))
    go_roundg (l.length-j)
    case measure=>omega
    case rel=>exact⟨j,rfl,rfl,by omega,by omega,rfl,Lib.hid<|by rw[HL3.out,JD hjt HD.out<|neI (m:=10) h10]⟩
   cases ha:bo d
   ·go_wp2_with (first|(go_at_call 170;refine qmm (mw _ _) ?_)|(go_at_call 185;refine qmm (bF _ _) ?_))
    go_ret2
    exact DK (n:=j-k) (b:=some<|j-k) (by rw[HL3.out,LO hjt HD.out (neT (m:=10) h10) ha]) (by omega) (by simp[Cm];omega)
   ·go_wp2_with (first|(go_at_call 170;refine qmm (mw _ _) ?_)|(go_at_call 185;refine qmm (bF _ _) ?_))
    go_roundg (l.length-(j+1))
    case measure=>omega
    case rel=>exact⟨j+1,rfl,rfl,by omega,by omega,by go_num,Lib.hid (by rw[HL3.out,OL hjt HD.out (neT (m:=10) h10) ha];congr 1;omega)⟩
theorem tu:∀(b:Bool) (l:YB) (n:Nat),(aW b l n).1<=n+l.length
 |_,[],n=>by simp[aW]
 | false,c::r,n=>by
  have h1:=tu false r<|n+1;have h2:=tu true r<|n+1;unfold aW;simp only[aac];split
  ·omega
  ·split
   ·omega
   ·simp
 | true,c::r,n=>by
  have h1:=tu false r<|n+1;have h2:=tu true r<|n+1;unfold aW;simp only[aac];split
  ·omega
  ·split
   ·simp
   ·omega
def NN (l:List UInt8) (w:World) (Rs:Scanned) (g:Nat) (s6 s7:Value) (wx:World):Prop:=
  ∃ (p F:Nat) (acc:List TokZ),p<=l.length∧g=l.length-p∧s7=.int .i64 p∧acc.length<=p∧l.length-p<F∧
    scanT F (l.drop p) p acc=Rs∧wx.ownsRow w.heap.size 92 3 s6 acc.length (fJ acc)∧Ext w wx
def ScanPost0(Rs:Scanned)(w:World)(e:Ending)(w':World):Prop:=
 ∃v,e=.returned (.tuple #[v,.string ⟨Rs.tail.toArray⟩,.int .i64 (Rs.place:Nat),.int .i64 (Rs.err:Nat)])∧yt w' v Rs.toks∧Ext w w'
theorem vL{Rs:Scanned}{w w':World}{v:Value}{r:Scanned}{tail:YB}{p e:Int}(h:Rs=r)(ht:r.tail=tail)(G:(r.place:Int)=p)(J:(r.err:Int)=e)(hr:yt w' v r.toks)(hx:Ext w w'):
  ScanPost0 Rs w (.returned<|.tuple #[v,.string ⟨tail.toArray⟩,.int .i64 p,.int .i64 e]) w':=by
 subst h;subst ht;subst G;subst J;exact⟨v,I,hr,hx⟩
set_option maxHeartbeats 4000000 in
theorem Sk(l:YB)(w:World)(hl:l.length<=4096):Calls prog 177 #[.string ⟨l.toArray⟩] w (ScanPost0 (scanT (l.length+1) l 0 []) w):=by
 obtain⟨Rs,hR⟩:∃Rs,scanT (l.length+1) l 0 []=Rs:=⟨_,rfl⟩;rw[hR];have H0:=Lib.hid (show scanT (l.length+1) (l.drop 0) 0 []=Rs from by rw[<-hR];simp);clear hR;have hx:=Ca;have hx2:=uA
 go_enter func177,ntmps177
 go_wp2_with fail
 go_loopg [6,7] l.length (λg s6 s7 wx=>NN l w Rs g s6 s7 wx)
 case atStart=>exact⟨0,l.length+1,[],aao _,by omega,rfl,aaf _,by omega,H0.out,World.ownsRow_nil _ _ _ _,Ext.refl _⟩
 case round=>
  obtain⟨p,F,acc,hpl,rfl,rfl,hacc,hF,hscan,hown,hext⟩:=hrel;have HSc:=Lib.hid hscan;clear hscan;have HO:=Lib.hid hown;clear hown;have HE:=Lib.hid hext;clear hext;obtain⟨F',rfl⟩:∃F',F=F'+1:=⟨F-1,by omega⟩;obtain⟨n,b,hLd⟩:∃n b,aW false (l.drop p) 0=(n,b):=⟨_,_,rfl⟩;have hnl:p+n<=l.length:=by have h:=tu false (l.drop p) 0;rw[hLd]at h;simp at h;omega
  have HLd:=Lib.hid hLd;clear hLd
  go_wp2_with fail
  refine(Pg _ _ p I _ hpl<|by omega).mono ?_;rintro e w' ⟨rfl,rfl⟩;rw[HLd.out];cases b with
  |some q=>
   have hq:(0:Int)<=((p+q:Nat):Int):=by omega
   have hq2:Cm p (some q)=((p+q:Nat):Int):=rfl;rw[hq2];generalize hz:((p+q:Nat):Int)=z at *;have HZ:=Lib.hid hz;clear hz hq2
   go_wp2
   exact bodyPost_ret (v:=.tuple #[.slice none 0 0,.string ⟨([]:YB).toArray⟩,.int .i64 z,.int .i64 1]) (by simp[results,results177,go_sem]) rfl (vL (r:=⟨[],[],p+q,1⟩) (HSc.out.symm.trans<|Mo HLd.out) rfl (by rw[HZ.out]) rfl (zu _) HE.out)
  | none=>
   have hq2:Cm p none=-1:=rfl;rw[hq2];clear hq2;obtain⟨E,hE⟩:∃E,p+n=E:=⟨_,rfl⟩;have hE1:(p:Int)+n=(E:Nat):=by omega
   have hE2:E-p=n:=by omega
   have HEE:=Lib.hid hE;have hpE:p<=E:=by omega
   have hEl:E<=l.length:=by omega
   clear hE hnl;by_cases hend:E=l.length
   ·have hendb:((E:Int)==(l.length:Int))=true:=by simp;omega
    have hb0:(0:Int)<=(p:Int):=by omega
    have hb1:(p:Int)<=(l.length:Int):=by omega
    have HEnd:=Lib.hid hend;clear hend
    go_wp2
    go_quiet (fail)
    go_wp2
    exact bodyPost_ret (v:=.tuple #[u6,.string ⟨(l.drop p).toArray⟩,.int .i64 0,.int .i64 0]) (by simp[results,results177,go_sem]) rfl (vL (r:=⟨acc,l.drop p,0,0⟩) (HSc.out.symm.trans<|MK HLd.out (by have :=HEnd.out;have :=HEE.out;simp;omega)) rfl rfl rfl (Mz HO.out)<|Ext.drewN HE.out _)
   ·have hEt:E<l.length:=by omega
    have hendb:((E:Int)==(l.length:Int))=false:=by simp;omega
    clear hend;obtain⟨kd,m,e,hT⟩:∃kd m e,tokenT (l.drop E)=(kd,m,e):=⟨_,_,_,rfl⟩;have hlen:=Kz (l:=l.drop E) (by simp;omega);rw[hT]at hlen;simp only[aak]at hlen;obtain⟨hm1,hm2⟩:=hlen;have HM:=Lib.hid hm2;clear hm2;have HT:=Lib.hid hT;clear hT;have HDp:=Lib.hid (show(l.drop p).drop n=l.drop E from by rw[List.drop_drop,HEE.out]);have CN:=Lib.hid (λw=>OS l (E:Nat) E rfl w hEt<|by omega);have HnE:=Lib.hid (show¬n=(l.drop p).length from by have :=HEE.out;simp;omega)
    go_wp2_with fail
    refine(CN.out _).mono ?_;rintro e0 w1 ⟨rfl,hext1⟩;rw[HT.out];by_cases he:e=0
    rotate_left
    ·have HI:=Lib.hid (show qK E (kd,m,e)=.agg #[.int .i64 0,.int .i64 0,.int .i64 e,.int .i64 ((E+m:Nat):Int)]from by simp[qK,he]);rw[HI.out];have heb:((e:Int)!=0)=true:=by simp;omega
     have HX1:=Lib.hid<|HE.out.trans hext1;clear hext1;generalize hz:((E+m:Nat):Int)=z at *;have HZ:=Lib.hid hz;clear hz;clear HI
     go_wp2
     go_quiet (fail)
     go_wp2
     exact bodyPost_ret (v:=.tuple #[.slice none 0 0,.string ⟨([]:YB).toArray⟩,.int .i64 z,.int .i64 e]) (by simp[results,results177,go_sem]) rfl (vL (r:=⟨[],[],p+n+m,e⟩) (HSc.out.symm.trans<|Nm HLd.out HnE.out (by rw[HDp.out];exact HT.out) he) rfl (by rw[<-HZ.out];have :=HEE.out;simp;omega) rfl (zu _)<|Ext.drewN (HX1.out.alloc _) _)
    ·subst he;have HI:=Lib.hid (show qK E (kd,m,0)=.agg #[.int .i64 m,.int .i64 kd,.int .i64 0,.int .i64 0]from by simp[qK]);rw[HI.out];have hmp:0<m:=HM.out rfl;have hown:=QA HO.out hext1;have hx1:=hext1.size;have hsz:=HE.out.size;have HX1:=Lib.hid<|HE.out.trans hext1;have hne:∀k,u6.ownBlock=some k->k<wr.heap.size:=λk hk=>(HO.out.lt k hk).2;have hneB:u6.ownBlock≠some w1.heap.size:=λh=>by have :=hne _ h;omega
     clear hext1 HI CN HM
     go_wp2
     obtain⟨W2,hW2⟩:∃W2,w1.alloc (.cells #[.int .i64 m,.int .i64 kd,.int .i64 0,.int .i64 0] 189)=W2:=⟨_,rfl⟩;rw[hW2];have hc0:W2.cell? ⟨w1.heap.size,0,none⟩=some (.int .i64 m):=by rw[<-hW2];simp
     have hc1:W2.cell? ⟨w1.heap.size,1,none⟩=some (.int .i64 kd):=by rw[<-hW2];simp
     have hown2:W2.ownsRow w.heap.size 92 3 u6 acc.length (fJ acc):=by rw[<-hW2];exact hown.alloc _
     have hBW:w1.heap.size<W2.heap.size:=by rw[<-hW2];simp
     have HX2:=Lib.hid (show Ext w W2 from by rw[<-hW2];exact HX1.out.alloc _);obtain⟨B,hB⟩:∃B,w1.heap.size=B:=⟨_,rfl⟩;have hwB:w.heap.size<=B:=by omega
     rw[hB]at hc0 hc1 hBW hneB;rw[hB];clear hW2 hB hown hne hx1 hsz HX1 HE HO;have hb0:(0:Int)<=(p:Int):=by omega
     have hb1:(p:Int)<=(E:Int):=by omega
     have hb2:(E:Int)<=(l.length:Int):=by omega
     have hb3:(E:Int)+m<=(l.length:Int):=by omega
     have hb4:(E:Int)<=(E:Int)+m:=by omega
     have hwr0:IntKind.i64.wrap (E:Int)=(E:Int):=IntWalk.i64_in _ (by omega);have hwr:IntKind.i64.wrap ((E:Int)+m)=(E:Int)+m:=IntWalk.i64_in _ (by omega);have hb5:(0:Int)<=(E:Int)+m:=by omega
     have hb6:((E:Int)+m).toNat=E+m:=by omega
     have hsz2:(acc.length+1)*40<=140737488355328:=by omega
     have hsz3:acc.length+1<=maxLen:=by unfold maxLen;omega
     have hbs:w.heap.size<=W2.heap.size:=by omega
     obtain⟨i0,hi0,hz0,hz1,hz2⟩:=Ii PU
     go_region_held3 (λw'=>w'.cell? ⟨B,0,none⟩=some (.int .i64 m)∧w'.cell? ⟨B,1,none⟩=some (.int .i64 kd))
      (first|go_keep|(go_split_ands;refine⟨?_,?_⟩<;>(rw[hgrow.cell_far _ (by simp;omega)<|Ne.symm hneB];simp[*])))
      ((refine step_append_lies _ (by rfl) _ _ _ (by rfl) w.heap.size 92 i0 _ 3 40 underlying85 hi0 hz0 hz1 hz2 rfl (by omega) u6 acc.length (fJ acc) (by rfl) ((hown2.alloc _).drew) ⟨W2.heap.size,0,none⟩ 1 1 [.int .i64 kd,.string ⟨((l.drop p).take n).toArray⟩,.string ⟨((l.drop E).take m).toArray⟩] (by rfl) (by rfl) (World.news_of_block (cs:=#[.int .i64 kd,.string ⟨((l.drop p).take n).toArray⟩,.string ⟨((l.drop E).take m).toArray⟩]) (t:=92) (fr:=(0,0))<|heap_alloc_new W2 _) (by simp[Value.oneCell']) (by omega) hsz3 hsz2 (by simp;omega) (W2.heap.size+1) (by simp) ?_;intro gg cap w3 hown3 hgrow hat hlt3))
     have hc03:w3.cell? ⟨B,0,none⟩=some (.int .i64 m):=by rename_i hh;exact hh.1
     have HX:=Lib.hid (((HX2.out.alloc _).drew).grown hgrow (λk hk=>(hown2.lt k hk).1));have HO1:=Lib.hid (show w3.ownsRow w.heap.size 92 3 (.slice (some ⟨gg,0,none⟩) (acc.length+1) cap) (acc++[TokZ.mk kd ((l.drop p).take n) ((l.drop E).take m)]).length (fJ (acc++[TokZ.mk kd ((l.drop p).take n) ((l.drop E).take m)]))from by
      rw[EK,aab];exact hown3)
     clear hown3 hgrow hat hown2 hsz2 hsz3 hi0 hz0 hz1 hz2 hwr hwr0 hb6 hc0 hc1
     go_wp2
     go_roundg (l.length-(E+m))
     case measure=>omega
     case rel=>
      refine⟨E+m,F',acc++[TokZ.mk kd ((l.drop p).take n)<|(l.drop E).take m],by omega,rfl,by go_num,by simp;omega,by omega,?_,HO1.out,HX.out⟩;rw[<-HSc.out,Ng HLd.out HnE.out (by rw[HDp.out];exact HT.out),HDp.out,List.drop_drop,<-HEE.out]
      congr 2<;>omega
theorem TQ(l:YB)(w:World)(hl:l.length<=281474976710656):Calls prog 154 #[.string ⟨l.toArray⟩] w (ScanPost l w):=by
 by_cases h4:4096<l.length
 ·have HS:=Lib.hid (show ky l=⟨[],[],4096,3⟩from by simp[ky,h4])
  go_enter func154,ntmps154
  go_wp2
  exact bodyPost_ret (v:=.tuple #[.slice none 0 0,.string ⟨([]:YB).toArray⟩,.int .i64 4096,.int .i64 3]) (by simp[results,results154,go_sem]) rfl<|Iq HS.out rfl rfl rfl (zu _)<|Ext.refl _
 ·have HS:=Lib.hid (show ky l=scanT (l.length+1) l 0 []from by simp[ky,h4])
  go_enter func154,ntmps154
  go_wp2_with fail
  refine(Sk _ _<|by omega).mono ?_;rintro e w' ⟨v,rfl,U,G⟩;obtain⟨A,c,rfl,O,Z,J⟩:=U;have HR:=Lib.hid J;clear J;have HX:=Lib.hid G;clear G;rw[<-HS.out]at HR O⊢
  go_wp2
  exact bodyPost_ret (v:=.tuple #[.slice A (ky l).toks.length c,.string ⟨(ky l).tail.toArray⟩,.int .i64 ((ky l).place:Nat),.int .i64 ((ky l).err:Nat)]) (by simp[results,results154,go_sem]) rfl ⟨_,rfl,⟨A,c,rfl,O,Z,HR.out⟩,HX.out⟩
theorem Bu:∀(l:List TokZ) (k:Nat) (h:k<l.length),(fJ l)[k*3]?=some (.int .i64 l[k].kind)∧(fJ l)[k*3+1]?=some (.string ⟨l[k].lead.toArray⟩)∧(fJ l)[k*3+2]?=some (.string ⟨l[k].text.toArray⟩)
 |t::l,0,_=>⟨rfl,rfl,rfl⟩
 | t::l,k+1,h=>by
  have ih:=Bu l k (by simpa using h);have e:fJ (t::l)=[.int .i64 t.kind,.string ⟨t.lead.toArray⟩,.string ⟨t.text.toArray⟩]++fJ l:=rfl;rw[e];refine⟨?_,?_,?_⟩
  ·rw[List.getElem?_append_right (by simp;omega)];simpa[Nat.succ_mul]using ih.1
  ·rw[List.getElem?_append_right (by simp;omega)];have :(k+1)*3+1-3=k*3+1:=by omega
   simpa[this]using ih.2.1
  ·rw[List.getElem?_append_right (by simp;omega)];have :(k+1)*3+2-3=k*3+2:=by omega
   simpa[this]using ih.2.2
theorem Ec{w:World}{A:Option Addr}{l:List TokZ}(h:Row w 3 A l.length<|fJ l)(J:k<l.length):
  ∃b off,A=some ⟨b,off,none⟩∧b<w.heap.size∧w.cell? ⟨b,off+k*3,none⟩=some (.int .i64 l[k].kind)∧w.cell? ⟨b,off+k*3+1,none⟩=some (.string ⟨l[k].lead.toArray⟩)∧w.cell? ⟨b,off+k*3+2,none⟩=some (.string ⟨l[k].text.toArray⟩):=by
 obtain⟨b,off,rfl,hb,G⟩:=h.2 (by omega);obtain⟨O,h1,h2⟩:=Bu l k J;refine⟨b,off,I,hb,?_,?_,?_⟩
 ·rw[G _ (by omega),O]
 ·rw[aat,G _ (by omega),h1]
 ·rw[aat,G _ (by omega),h2]
set_option maxHeartbeats 1000000 in
theorem SA(l:YB)(w:World)(hl:l.length<=281474976710656):Calls prog 126 #[.string ⟨l.toArray⟩] w λe w'=>e=.returned (.int .i64 (bJ l:Nat))∧w=w':=by
 by_cases G:l=[]
 ·subst G
  go_enter func126,ntmps126
  go_wp2
  go_ret
  exact⟨I,I⟩
 ·have hb1:(l==[])=false:=by simpa using G
  have hb2:l.isEmpty=false:=by simpa using G
  have J:0<l.length:=List.length_pos_iff.2 G;obtain⟨k,n,e,U⟩:∃k n e,tokenT l=(k,n,e):=⟨_,_,_,rfl⟩;have HT:=Lib.hid U;have HC:=Lib.hid (show bJ l=if e=0∧n=l.length then k else 0 from by simp only[bJ,if_neg G,U]);clear U G
  go_enter func126,ntmps126
  go_wp2_with fail
  refine(SO _ _ J hl).mono ?_;rintro e0 w' ⟨rfl,rfl⟩;rw[HT.out];by_cases he:e=0
  ·subst he;by_cases O:n=l.length
   ·have Z:((n:Int)!=(l.length:Int))=false:=by simp;omega
    have HR:=Lib.hid<|HC.out.trans<|if_pos ⟨rfl,O⟩;clear O
    go_wp2
    go_ret
    exact⟨bZ (by rw[HR.out]),I⟩
   ·have Z:((n:Int)!=(l.length:Int))=true:=by simp;omega
    have HR:=Lib.hid<|HC.out.trans<|if_neg λh=>O h.2;clear O
    go_wp2
    go_ret
    exact⟨bZ (by rw[HR.out];rfl),I⟩
  ·have heb:((e:Int)!=0)=true:=by simp;omega
   have HR:=Lib.hid<|HC.out.trans<|if_neg λh=>he h.1
   go_wp2
   go_ret
   exact⟨bZ (by rw[HR.out];rfl),I⟩
theorem Ae{l:YB}{c:UInt8}(G:0<l.length)(J:l[0]=c)(h:cM c=true∨c.toNat=35):tokenT l=(0,0,2):=by
 have hv:c.toNat=9∨c.toNat=10∨c.toNat=13∨c.toNat=32∨c.toNat=35:=by
  rcases h with h|h
  ·simp[cM]at h;omega
  ·omega
 have O:bo c=true:=by
  rcases hv with h|h|h|h|h<;>simp[bo,cM,fG,h]
 have hs:tO.contains c=false:=by
  have h:∀n:UInt8,(c==n)=(c.toNat==n.toNat):=λn=>by rw[Bool.eq_iff_iff];simp[UInt8.toNat_inj]
  simp only[tO,List.contains_cons,List.contains_nil,Bool.or_false,h];rcases hv with h|h|h|h|h<;>rw[h]<;>rfl
 rw[Au G J,if_neg (by simp[O]),if_neg (by simp[bO,di,upperB];omega),if_neg (by simp[ci];omega),if_neg (by omega),if_neg (by omega),if_neg (by rw[hs];simp)]
set_option maxHeartbeats 1000000 in
theorem GK(l:YB)(w:World)(hl:l.length<=281474976710656):Calls prog 139 #[.string ⟨l.toArray⟩] w λe w'=>e=.returned (.int .i64 (bJ l:Nat))∧Ext w w':=by
 by_cases J:l=[]
 ·subst J
  go_enter func139,ntmps139
  go_wp2
  go_ret
  exact⟨I,Ext.refl _⟩
 ·have hb1:(l==[])=false:=by simpa using J
  have hb2:l.isEmpty=false:=by simpa using J
  have hpos:0<l.length:=List.length_pos_iff.2 J;obtain⟨k,n,e,Z⟩:∃k n e,tokenT l=(k,n,e):=⟨_,_,_,rfl⟩;have HT:=Lib.hid Z;have HC:=Lib.hid (show bJ l=if e=0∧n=l.length then k else 0 from by simp only[bJ,if_neg J,Z]);clear Z J;obtain⟨c,hc⟩:∃c,({data:=l.toArray}:ByteArray)[0]'hpos=c:=⟨_,rfl⟩;have HC0:=Lib.hid<|show l[0]=c from hc;cases hw:cM c
  rotate_left
  ·have O:(k,n,e)=(0,0,2):=HT.out.symm.trans<|Ae hpos HC0.out<|.inl hw;have HR:=Lib.hid (show bJ l=0 from by simp only[Prod.mk.injEq]at O;rw[HC.out,if_neg<|by omega]);clear O
   go_enter func139,ntmps139
   go_wp2_with (first|(go_at_call 170;refine qmm (mw _ _) ?_))
   go_ret
   exact⟨bZ (by rw[HR.out];rfl),Ext.refl _⟩
  cases h35:((c.toNat:Int)==35)
  rotate_left
  ·have O:(k,n,e)=(0,0,2):=HT.out.symm.trans<|Ae hpos HC0.out<|.inr<|eZ (m:=35) h35;have HR:=Lib.hid (show bJ l=0 from by simp only[Prod.mk.injEq]at O;rw[HC.out,if_neg<|by omega]);clear O
   go_enter func139,ntmps139
   go_wp2_with (first|(go_at_call 170;refine qmm (mw _ _) ?_))
   go_ret
   exact⟨bZ (by rw[HR.out];rfl),Ext.refl _⟩
  have CN:=Lib.hid λw=>OS l 0 0 rfl w hpos hl
  go_enter func139,ntmps139
  go_wp2_with (first|(go_at_call 170;refine qmm (mw _ _) ?_))
  refine(CN.out _).mono ?_;rintro e0 w1 ⟨rfl,G⟩;rw[List.drop_zero,HT.out];have HX:=Lib.hid G;clear G CN;by_cases he:e=0
  ·subst he;have HI:=Lib.hid (show qK 0 (k,n,0)=.agg #[.int .i64 n,.int .i64 k,.int .i64 0,.int .i64 0]from by simp[qK]);rw[HI.out];clear HI;by_cases U:n=l.length
   ·have hnb:((n:Int)!=(l.length:Int))=false:=by simp;omega
    have HR:=Lib.hid<|HC.out.trans<|if_pos ⟨rfl,U⟩;clear U
    go_wp2
    go_ret
    exact⟨bZ (by rw[HR.out]),HX.out.alloc _⟩
   ·have hnb:((n:Int)!=(l.length:Int))=true:=by simp;omega
    have HR:=Lib.hid<|HC.out.trans<|if_neg λh=>U h.2;clear U
    go_wp2
    go_ret
    exact⟨bZ (by rw[HR.out];rfl),HX.out.alloc _⟩
  ·have HI:=Lib.hid (show qK 0 (k,n,e)=.agg #[.int .i64 0,.int .i64 0,.int .i64 e,.int .i64 ((0+n:Nat):Int)]from by simp[qK,he]);rw[HI.out];clear HI;have heb:((e:Int)!=0)=true:=by simp;omega
   have HR:=Lib.hid<|HC.out.trans<|if_neg λh=>he h.1
   go_wp2
   go_ret
   exact⟨bZ (by rw[HR.out];rfl),HX.out.alloc _⟩
open Go.RowKit Lx Sx
theorem sum0_calls{fid:FuncId}{us:List V}{v:V}(G:pureL us=true)(J:v.pure=true)(h:∀(S:Nat->Prop) w ρ xs,LRel S w ρ us xs->Calls prog fid xs.toArray w λe w'=>∃x,e=.returned x∧VRel S w' ρ v x∧Chg [] w w'):ut prog fid us v:=
 ⟨G,J,λS w ρ xs hr hx=>(h S w ρ xs hx).mono λe w' ⟨x,h1,h2,O⟩=>
  ⟨x,S,ρ,v,_,h1,rfl,hr.chg0 O,⟨ChgP.of0 O,λ_ h=>h,λ_ h=>.inl h,λid b hb=>.inl ⟨id,hb⟩,λid x h=>by
   simp only[xt]at h;split at h
   ·exact h
   ·cases h⟩,h2⟩⟩
theorem IR{w w':World}(h:Ext w w'):Chg [] w w':=Chg.of_ext h []
theorem Qg(l:YB)(G:l.length<=281474976710656):ut prog 126 [.str l] (.int .i64 (bJ l:Nat)):=
 sum0_calls rfl rfl λS w ρ xs hx=>by simp only[LRel]at hx;obtain⟨x,ys,rfl,h1,rfl⟩:=hx;simp only[VRel]at h1;subst h1;exact(SA l w G).mono λe w' ⟨h1,h2⟩=>⟨_,h1,by simp only[VRel],h2▸Chg.refl _ _⟩
theorem NC(l:YB)(G:l.length<=281474976710656):ut prog 139 [.str l] (.int .i64 (bJ l:Nat)):=
 sum0_calls rfl rfl λS w ρ xs hx=>by simp only[LRel]at hx;obtain⟨x,ys,rfl,h1,rfl⟩:=hx;simp only[VRel]at h1;subst h1;exact(GK l w G).mono λe w' ⟨h1,h2⟩=>⟨_,h1,by simp only[VRel],IR h2⟩
def fH:List YB->Nat
 |[]=>0
 |l::r=>l.length+1+fH r
mutual
def tbulk:Tree->Nat
 |.node _ s ls ks=>s.length+fH ls+kbulk ks+1
def kbulk:YT->Nat
 |[]=>0
 |t::r=>tbulk t+kbulk r
end
theorem bS(t:Tree):0<tbulk t:=by cases t;simp only[tbulk];omega
theorem fe:∀(ks:YT),ks.length<=kbulk ks
 |[]=>aaf _
 |t::r=>by have :=fe r;have :=bS t;simp only[kbulk,aac];omega
theorem bn:∀{ks:YT} {i:Nat} {t:Tree},ks[i]?=some t->tbulk t<=kbulk ks
 |[],i,t,h=>by simp at h
 |u::r,0,t,h=>by simp only[List.getElem?_cons_zero,aad]at h;subst h;simp only[kbulk];omega
 |u::r,i+1,t,h=>by have :=bn (ks:=r) (i:=i) (by simpa using h);simp only[kbulk];omega
theorem iz:∀(a b:YT),kbulk (a++b)=kbulk a+kbulk b
 |[],b=>by simp[kbulk]
 |t::r,b=>by simp only[aav,kbulk,iz r b];omega
theorem zl:∀(l:List YB),l.length<=fH l
 |[]=>aaf _
 |x::r=>by have :=zl r;simp only[fH,aac];omega
theorem BE:∀{l:List YB} {i:Nat} {x:YB},l[i]?=some x->x.length+1<=fH l
 |[],i,x,h=>by simp at h
 |u::r,0,x,h=>by simp only[List.getElem?_cons_zero,aad]at h;subst h;simp only[fH];omega
 |u::r,i+1,x,h=>by have :=BE (l:=r) (i:=i) (by simpa using h);simp only[fH];omega
theorem aQ(t:Tree):tbulk t=t.text.length+fH t.leads+kbulk t.kids+1:=by cases t;simp[tbulk,Tree.text,Tree.leads,Tree.kids]
variable{t u:Tree}{i:Nat}
theorem aE(h:t.kids[i]?=some u):tbulk u<tbulk t:=by have :=bn h;rw[aQ t];omega
theorem bt(t:Tree):t.kids.length<tbulk t:=by have :=fe t.kids;rw[aQ t];omega
theorem cH(t:Tree):t.text.length<tbulk t:=by rw[aQ t];omega
theorem Eg(t:Tree):t.leads.length<tbulk t:=by have :=zl t.leads;rw[aQ t];omega
theorem dp{C:Tree->Prop}(h:∀t:Tree,(∀(i:Nat) (u:Tree),t.kids[i]?=some u->C u)->C t):∀t,C t:=λt=>by
 have :∀n t,tbulk t<=n->C t:=λn=>by
  induction n with
  |zero=>intro t ht;have :=bS t;omega
  |succ n ih=>intro t ht;exact h t λi u G=>ih u (by have :=aE G;omega)
 exact this _ t<|aaf _
theorem bd{α:Type}(l:List α)(i:Nat):(∃x,l[i]?=some x∧i<l.length)∨(¬i<l.length):=by
 by_cases h:i<l.length
 ·exact .inl ⟨l[i],by simp[h],h⟩
 ·exact .inr h
theorem aK{α:Type}{l:List α}{x:α}(h:l[i]?=some x):l.drop i=x::l.drop (i+1):=by obtain⟨G,rfl⟩:=List.getElem?_eq_some_iff.1 h;exact aan G
set_option maxHeartbeats 1000000
def f0(n:Int)(least leads list:Nat)(most:Int):Int:=if 0<=most∧most<n then-1 else if n<least then-1 else if most<0∧(list:Int)<n then leads+(n-list-1)else leads
def fb(k n:Int):Int:=if k=1 then(if n<0 then-1 else 3)else if k=2 then f0 n 2 6 2 (-1)else if k=16 then f0 n 0 3 0 (-1)else if k=18 then f0 n 1 2 0 (-1)else if k=3 then f0 n 1 3 0 1 else if k=4 then f0 n 1 2 0 1 else if k=8 then f0 n 1 2 0 1 else if k=22 then f0 n 1 2 0 1 else if k=17 then f0 n 1 0 0 1 else if k=19 then f0 n 3 3 0 3 else if k=20 then f0 n 2 4 0 2 else if k=21 then f0 n 2 1 0 2 else if k=5∨k=6∨k=7∨k=9∨k=10∨k=11∨k=12∨k=13∨k=14∨k=15 then f0 n 0 1 0 0 else-1
theorem wZ(a b c:Int):io a b c (if a<b then-1 else c):=Bl 0 _ _ _ _ ⟨λh=>by rw[if_pos h],λh=>by rw[if_neg h]⟩
theorem QV(a b c:Int):cV a b c (if a=b then c else-1):=zJ 0 _ _ _ _ ⟨λh=>by rw[if_pos h],λh=>by rw[if_neg h]⟩
variable{n:Int}
theorem RH(m:Nat)(J:0<=n)(h1:n<=1000000000)(a b c:Nat)(z:Int)(hb:b<=10)(O:c<=2)(G:¬(0<=z∧z<n)):nT (m+1) n a b c z (f0 n a b c z):=by
 refine BO m _ _ _ _ _ _ ⟨λh=>⟨λh'=>⟨by omega,by omega,by omega,_,wZ _ _ _,?_⟩,λh'=>⟨_,wZ _ _ _,?_⟩⟩,λh=>⟨_,wZ _ _ _,?_⟩⟩
 ·simp only[f0,if_neg G,h,h',true_and,if_true]
 ·simp only[f0,if_neg G,h,h',true_and,if_false]
 ·simp only[f0,if_neg G,h,false_and,if_false]
theorem Sn(m:Nat)(G:0<=n)(h1:n<=1000000000)(a b c:Nat)(z:Int)(hb:b<=10)(J:c<=2):aV (m+2) n a b c z (f0 n a b c z):=by
 refine BA (m+1) _ _ _ _ _ _ ⟨λh=>⟨λh'=>?_,λh'=>RH m G h1 _ _ _ _ hb J<|by omega⟩,λh=>RH m G h1 _ _ _ _ hb J<|by omega⟩;simp[f0,h,h']
theorem PC{k:Int}(O:0<=n)(h1:n<=1000000000):tA k n (fb k n):=by
 have U:∀{r:Int} (a b c:Nat) (z:Int),b<=10->c<=2->r=f0 n a b c z->aV 3 n a b c z r:=λa b c z hb G e=>by rw[e];exact Sn 1 O h1 a b c z hb G
 have J:∀{r:Int} (a b c:Nat) (z:Int),b<=10->c<=2->r=f0 n a b c z->aV 4 n a b c z r:=λa b c z hb G e=>by rw[e];exact Sn 2 O h1 a b c z hb G
 refine CI 4 _ _ _ ?_
 repeat' first|(refine⟨_,wZ _ _ _,?_⟩)|(refine And.intro (λ_=>?_) λ_=>?_)|(refine Cj 3 _ _ _ _ ?_)
 all_goals first|(refine J _ _ _ _ (by decide) (by decide) ?_)|(refine U _ _ _ _ (by decide) (by decide) ?_)|skip
 all_goals simp_all[fb]
theorem ze{k:Int}(G:0<=n)(h1:n<=1000000000):ig k n (fb k n):=by
 refine zq 2 _ _ _ ?_
 repeat' first|(refine⟨_,QV _ _ _,?_⟩)|(refine And.intro (λ_=>?_) λ_=>?_)|(refine yj 1 _ _ _ _ ?_)|(refine xW 0 _ _ _ _ ?_)|(refine And.intro (by omega) ?_)
 all_goals simp_all[fb]
 all_goals (try unfold f0)
 all_goals (repeat' split)
 all_goals omega
def Cy(x:YB):Bool:=x==[43]||x==[45]||x==[42]||x==[60]||x==[61,61]
def oZ(k:Int)(x:YB):Bool:=if k=1∨k=3 then(bJ x:Int)==2 else if k=2∨k=4∨k=12∨k=20 then(bJ x:Int)==1 else if k=9 then(bJ x:Int)==2||(bJ x:Int)==4 else if k=16 then(bJ x:Int)==1||(bJ x:Int)==3 else if k=10 then(bJ x:Int)==5 else if k=11 then(bJ x:Int)==6 else if k=21 then Cy x else x==[]
theorem JB(x:YB):pM x (Cy x):=by
 refine Ay 0 _ _ ?_
 repeat' (refine And.intro (λ_=>?_) λ_=>?_)
 all_goals simp_all[Cy]
theorem Io(x:YB):jD x (Cy x):=by
 refine vg 0 _ _ ?_
 repeat' (refine And.intro (λ_=>?_) λ_=>?_)
 all_goals simp_all[Cy]
theorem Nw(k:Int)(x:YB)(hx:x.length<=281474976710656):sO k x (oZ k x):=by
 refine Cg 2 _ _ _ ?_;refine⟨_,Qg x hx,?_⟩
 repeat' first|(refine⟨_,JB _,?_⟩)|(refine And.intro (λ_=>?_) λ_=>?_)|(refine Bp 1 _ _ _ _ _ ?_)|(refine Bm 0 _ _ _ _ _ ?_)
 all_goals simp_all[oZ]
theorem MA(k:Int)(x:YB)(hx:x.length<=281474976710656):li k x (oZ k x):=by
 refine wv 2 _ _ _ ?_;refine⟨_,NC x hx,?_⟩
 repeat' first|(refine⟨_,Io _,?_⟩)|(refine And.intro (λ_=>?_) λ_=>?_)|(refine wb 1 _ _ _ _ _ ?_)|(refine vT 0 _ _ _ _ _ ?_)
 all_goals simp_all[oZ]
def gU(k:Int):Bool:=decide<|5<=k∧k<=9
def dT(k:Int):Bool:=decide<|10<=k∧k<=22∧k≠17
def yX(k:Int):Bool:=dT k&&decide (k≠19∧k≠20∧k≠21)
theorem NP(k:Int):nV k (gU k):=BL 0 _ _ ⟨λh=>by simp[gU,h],λh=>by simp[gU,h]⟩
theorem LP(k:Int):jf k (gU k):=yg 0 _ _ ⟨λh=>by simp[gU,h],λh=>by simp[gU,h]⟩
theorem AX(a b:Int):(a !=b)=decide (a≠b):=by by_cases h:a=b<;>simp[h]
theorem Hh(k:Int):fL k (dT k):=xh 0 _ _ ⟨λh=>⟨λh'=>by simp[dT,h,h',AX],λh'=>by simp[dT,h,h']⟩,λh=>by simp[dT,h]⟩
theorem wP(k:Int):eL k (dT k):=yw 0 _ _ ⟨λh=>⟨λh'=>by simp[dT,h,h',AX],λh'=>by simp[dT,h,h']⟩,λh=>by simp[dT,h]⟩
theorem NX(k:Int):sG k (yX k):=by
 refine BB 0 _ _ ⟨_,Hh k,?_⟩
 repeat' (refine And.intro (λ_=>?_) λ_=>?_)
 all_goals simp_all[yX,AX]
theorem zS(k:Int):jm k (yX k):=by
 refine yb 0 _ _ ⟨_,wP k,?_⟩
 repeat' (refine And.intro (λ_=>?_) λ_=>?_)
 all_goals simp_all[yX,AX]
def jo(k n:Int)(i:Int)(kk:Int):Bool:=if k=1 then kk==2||kk==3 else if k=2 then(if i=n-1 then dT kk else if i=n-2 then gU kk else kk==4)else if k=3∨k=4∨k=8 then gU kk else if k=16 then kk==17 else if k=21 then yX kk||(decide (i=0)&&kk==21)else dT kk
theorem Qf(G:t.kids[i]?=some u):tw t i (jo t.kind t.kids.length i u.kind):=by
 refine CR 1 _ _ _ ⟨i,I,u,G,?_⟩
 repeat' first|(refine⟨_,Hh _,?_⟩)|(refine⟨_,NP _,?_⟩)|(refine⟨_,NX _,?_⟩)|(refine And.intro (λ_=>?_) λ_=>?_)|(refine BZ 0 _ _ _ _ _ ?_)
 all_goals simp_all[jo]
theorem TV(t:Tree)(i:Nat)(kk:Int):pT t i kk (jo t.kind t.kids.length i kk):=by
 refine AI 1 _ _ _ _ ?_
 repeat' first|(refine⟨_,wP _,?_⟩)|(refine⟨_,LP _,?_⟩)|(refine⟨_,zS _,?_⟩)|(refine And.intro (λ_=>?_) λ_=>?_)|(refine zK 0 _ _ _ _ _ ?_)
 all_goals simp_all[jo]
mutual
def shapeK:Tree->Bool
 |.node k s _ ks=>decide (0<=fb k ks.length)&&oZ k s&&shapeKs k ks.length 0 ks
def shapeKs(k n:Int):Nat->YT->Bool
 |_,[]=>true
 |i,t::r=>jo k n i t.kind&&shapeK t&&shapeKs k n (i+1) r
end
theorem cc(t:Tree):shapeK t=(decide (0<=fb t.kind t.kids.length)&&oZ t.kind t.text&&shapeKs t.kind t.kids.length 0 t.kids):=by cases t;simp only[shapeK];rfl
theorem tq:∀t:Tree,tbulk t<=1000000000->gs t (shapeK t):=dp λt ih hb=>by
 have hk:=bt t;have ht:=cH t;have loop:∀m i,t.kids.length-i<=m->(0<=fb t.kind t.kids.length∧oZ t.kind t.text=true)->mN (m+1) t i (shapeKs t.kind t.kids.length i<|t.kids.drop i):=λm=>by
  induction m with
  |zero=>
   intro i hi hw;refine uG 0 _ _ _ ⟨λh=>by omega,λh=>?_⟩;rw[List.drop_of_length_le (by omega),shapeKs]
  | succ m ihm=>
   intro i hi hw;refine uG (m+1) _ _ _ ⟨λh=>?_,λh=>?_⟩
   ·obtain⟨u,hu,_⟩|h':=bd t.kids i
    ·rw[aK hu,shapeKs];have hbu:=aE hu;refine⟨u,hu,_,Qf hu,λh1=>by simp[h1],λh1=>⟨_,ih i u hu (by omega),λh2=>by simp[h1,h2],λh2=>⟨by omega,?_⟩⟩⟩;simp only[h1,h2,Bool.true_and];exact ihm (i+1) (by omega) hw
    ·exact absurd h h'
   ·rw[List.drop_of_length_le (by omega),shapeKs]
 rw[cc];refine BY (t.kids.length+1) _ _ ⟨_,PC (by omega) (by omega),λh=>?_,λh=>⟨_,Nw _ _ (by omega),λh1=>by simp[h1],λh1=>?_⟩⟩
 ·rw[decide_eq_false<|by omega];rfl
 ·rw[decide_eq_true (by omega),h1];exact loop _ 0 (by omega) ⟨by omega,h1⟩
theorem Aq:∀t:Tree,tbulk t<=1000000000->eO t (shapeK t):=dp λt ih hb=>by
 have hk:=bt t;have ht:=cH t;have loop:∀m i,t.kids.length-i<=m->iK (m+1) t i (shapeKs t.kind t.kids.length i<|t.kids.drop i):=λm=>by
  induction m with
  |zero=>
   intro i hi;refine qe 0 _ _ _ ⟨λh=>by omega,λh=>?_⟩;rw[List.drop_of_length_le (by omega),shapeKs]
  | succ m ihm=>
   intro i hi;refine qe (m+1) _ _ _ ⟨λh=>?_,λh=>?_⟩
   ·obtain⟨u,hu,_⟩|h':=bd t.kids i
    ·rw[aK hu,shapeKs];have hbu:=aE hu;refine⟨u,hu,_,TV _ _ _,λh1=>by simp[h1],λh1=>⟨u,hu,_,ih i u hu (by omega),λh2=>by simp[h1,h2],λh2=>?_⟩⟩;simp only[h1,h2,Bool.true_and];exact ihm (i+1) (by omega)
    ·exact absurd h h'
   ·rw[List.drop_of_length_le (by omega),shapeKs]
 rw[cc];refine xX (t.kids.length+1) _ _ ⟨_,ze (by omega) (by omega),λh=>?_,λh=>⟨_,MA _ _ (by omega),λh1=>by simp[h1],λh1=>?_⟩⟩
 ·rw[decide_eq_false<|by omega];rfl
 ·rw[decide_eq_true (by omega),h1];exact loop _ 0 (by omega)
open Go.RowKit
set_option maxHeartbeats 1000000 in
theorem IY(s:ByteArray)(c:Int)(w:World):Calls prog 159 #[.string s,.int .u8 c] w λe w'=>e=.returned (.int .i64<|Lib.indexByte s.data.toList c.toNat.toUInt8)∧w=w':=by
 go_enter func159,ntmps159
 go_wp2
 rw[run_callFunc_extern func178 (by kernel_rfl) (by kernel_rfl) (by kernel_rfl) (e:=Extern.BytealgIndexByte.indexByte) (by kernel_rfl),Lib.run_indexByteString];simp only[Result.andThen];rw[Oper.upon_value]
 go_wp2
 go_ret
 exact⟨I,I⟩
theorem KL(s:ByteArray)(c:Int)(w:World):Calls prog 120 #[.string s,.int .u8 c] w λe w'=>e=.returned (.int .i64<|Lib.indexByte s.data.toList c.toNat.toUInt8)∧w=w':=by
 go_enter func120,ntmps120
 go_wp2_with (go_at_call 159;refine qmm (IY _ _ _) ?_)
 go_ret
 exact⟨I,I⟩
def ch(s:YB):YT->Nat->Int
 |[],_=>-1
 |t::r,i=>if t.text=s then(i:Int)else ch s r (i+1)
theorem vz(s:YB):∀(l:YT) (i:Nat),ch s l i=-1∨∃k t,ch s l i=((i+k:Nat):Int)∧l[k]?=some t∧t.text=s∧∀j u,j<k->l[j]?=some u->u.text≠s
 |[],i=>.inl rfl
 | t::r,i=>by
  simp only[ch];split
  ·rename_i h;exact .inr ⟨0,t,I,I,h,λj u hj _=>by omega⟩
  ·rename_i h;rcases vz s r (i+1)with h1|⟨k,u,h1,h2,h3,h4⟩
   ·exact .inl h1
   ·refine .inr ⟨k+1,u,by rw[h1];congr 1;omega,by simpa using h2,h3,λj x hj hx=>?_⟩;cases j with
    |zero=>simp at hx;subst hx;exact h
    |succ j=>exact h4 j x (by omega) (by simpa using hx)
theorem Om(t:Tree)(s:YB):tD t s (t.text==s):=Dl 0 _ _ _ rfl
theorem Ir(l:YT)(s:YB)(hl:l.length<=1000000000):oz l s (ch s l 0):=by
 have loop:∀m i,l.length-i<=m->kh (m+1) l s i (ch s (l.drop i) i):=λm=>by
  induction m with
  |zero=>
   intro i hi;refine rU 0 _ _ _ _ ⟨λh=>by omega,λh=>?_⟩;rw[List.drop_of_length_le (by omega),ch]
  | succ m ihm=>
   intro i hi;refine rU (m+1) _ _ _ _ ⟨λh=>?_,λh=>?_⟩
   ·obtain⟨u,hu,_⟩|h':=bd l i
    ·rw[aK hu,ch];refine⟨u,hu,_,Om u s,λh1=>?_,λh1=>⟨by omega,?_⟩⟩
     ·rw[if_pos<|by simpa using h1]
     ·rw[if_neg<|by simpa using h1];exact ihm (i+1) (by omega)
    ·exact absurd h h'
   ·rw[List.drop_of_length_le (by omega),ch]
 exact zI _ _ _ _ (loop l.length 0<|by omega)
theorem IQ(l:YT)(s:YB)(G:l.length<=1000000000):sH l s (ch s l 0):=EJ 0 _ _ _ ⟨_,Ir l s G,rfl⟩
def dB:YB->Nat->Int
 |[],_=>-1
 |c::r,i=>if c=46 then(i:Int)else dB r (i+1)
theorem zg:∀(l:YB) (i:Nat),dB l i=-1∨∃k,dB l i=((i+k:Nat):Int)∧k<l.length
 |[],i=>.inl rfl
 | c::r,i=>by
  simp only[dB];split
  ·exact .inr ⟨0,rfl,by simp⟩
  ·rcases zg r (i+1)with h1|⟨k,h1,h2⟩
   ·exact .inl h1
   ·exact .inr ⟨k+1,by rw[h1];congr 1;omega,by simp;omega⟩
theorem OW(c:UInt8):∀(l:YB),-1<=Lib.indexByte l c
 |[]=>by simp[Lib.indexByte]
 |b::r=>by
  have :=OW c r;simp only[Lib.indexByte];split
  ·omega
  ·split<;>omega
theorem zB:∀(l:YB) (i:Nat),dB l i=if Lib.indexByte l 46=-1 then-1 else Lib.indexByte l 46+(i:Int)
 |[],i=>by simp[dB,Lib.indexByte]
 | c::r,i=>by
  have ih:=zB r<|i+1;have :=OW 46 r;simp only[dB,Lib.indexByte,ih];by_cases h:c=46
  ·simp[h]
  ·have h':(c==46)=false:=by simpa using h
   simp only[if_neg h,h'];by_cases h2:Lib.indexByte r 46=-1
   ·simp[h2]
   ·have h3:(Lib.indexByte r 46==-1)=false:=by simpa using h2
    simp only[if_neg h2,h3,aay,if_false];rw[if_neg<|by omega];omega
theorem Ih(l:YB):jT l 46 (dB l 0):=sum0_calls rfl rfl λS w ρ xs hx=>by
 simp only[LRel]at hx;obtain⟨x,ys,rfl,h1,y,zs,rfl,h2,rfl⟩:=hx;simp only[VRel]at h1 h2;subst h1 h2;refine(IY _ _ w).mono λe w' ⟨h1,h2⟩=>⟨_,h1,?_,h2▸Chg.refl _ _⟩;simp only[VRel];have e:dB l 0=Lib.indexByte l 46:=by
  rw[zB];split
  ·rename_i h;rw[h]
  ·simp
 rw[e];rfl
theorem PQ(l:YB):fK l (dB l 0):=by
 refine qm 1 _ _ ⟨λh=>?_,λh=>pU 0 _ _ ?_⟩
 ·subst h;rfl
 ·exact⟨_,Ih l,I⟩
theorem SF(l:YB)(G:l.length<=1000000000):pR l (if 0<=dB l 0 then l.take (dB l 0).toNat else l) (if 0<=dB l 0 then l.drop ((dB l 0).toNat+1)else[]) (decide<|0<=dB l 0):=by
 refine zU 0 _ _ _ _ ⟨_,_,_,?_,I,I,I⟩;refine rH 0 _ _ _ _ ⟨_,PQ l,λh=>?_,λh=>?_⟩
 ·rcases zg l 0 with h1|⟨k,h1,h2⟩
  ·rw[h1]at h;omega
  ·rw[h1];exact⟨k,by simp,by omega,by omega,k+1,by simp,by omega,by simp,by simp,by simp⟩
 ·simp[h]
def inK(p:YT)(m:Int)(w:YB):Int×Int×Bool:=if m<0 then(0,0,false)else match p[m.toNat]? with
 |none=>(0,0,false)
 |some t=>if ch w t.kids 0<0 then(0,0,false)else(m,ch w t.kids 0,true)
def be(p:YT)(m:Int)(w:YB):Int×Int×Bool:=if 0<=dB w 0 then inK p (ch (w.take (dB w 0).toNat) p 0) (w.drop<|(dB w 0).toNat+1)else inK p m w
variable{p:YT}{m:Int}
theorem IF{w:YB}(G:m<p.length)(J:kbulk p<=1000000000):oY 1 p m w (inK p m w).1 (inK p m w).2.1 (inK p m w).2.2:=by
 refine Dk 0 _ _ _ _ _ _ ⟨λh=>by simp[inK,h],λh=>?_⟩;obtain⟨t,ht,_⟩|h':=bd p m.toNat
 ·have :=bn ht;have :=bt t;refine⟨m.toNat,by omega,t,ht,_,IQ _ _ (by omega),λh1=>?_,λh1=>?_⟩
  ·simp[inK,h,ht,h1]
  ·simp[inK,h,ht,h1]
 ·omega
theorem FA{w:YB}(h0:0<=m)(J:m<p.length)(G:kbulk p<=1000000000)(O:w.length<=1000000000):qM p m w (be p m w).1 (be p m w).2.1 (be p m w).2.2:=by
 have U:=fe p;refine DN 1 _ _ _ _ _ _ ⟨λh=>by omega,λh=>⟨λh=>by omega,λh=>⟨_,_,_,SF w O,λh1=>?_,λh1=>?_⟩⟩⟩
 ·have h1:0<=dB w 0:=by simpa using h1
  simp only[if_pos h1,be];refine⟨_,IQ _ _ (by omega),?_⟩;refine IF ?_ G;rcases vz (w.take (dB w 0).toNat) p 0 with h2|⟨k,t,h2,Z,_⟩
  ·rw[h2];omega
  ·have :=(List.getElem?_eq_some_iff.1 Z).1;rw[h2];omega
 ·have h1:¬0<=dB w 0:=by simpa using h1
  simp only[be,if_neg h1];exact IF J G
theorem OY(l:YB)(hl:l.length<=1000000000):pL l (dB l 0):=by
 have loop:∀m i,l.length-i<=m->kZ (m+1) l i (dB (l.drop i) i):=λm=>by
  induction m with
  |zero=>
   intro i hi;refine sX 0 _ _ _ ⟨λh=>by omega,λh=>?_⟩;rw[List.drop_of_length_le (by omega),dB]
  | succ m ihm=>
   intro i hi;refine sX (m+1) _ _ _ ⟨λh=>?_,λh=>?_⟩
   ·obtain⟨u,hu,_⟩|h':=bd l i
    ·rw[aK hu,dB];refine⟨u,hu,λh1=>?_,λh1=>⟨by omega,?_⟩⟩
     ·rw[if_pos<|UInt8.toNat_inj.1 (by show u.toNat=46;omega)]
     ·rw[if_neg λe=>h1 (by subst e;rfl)];exact ihm (i+1) (by omega)
    ·exact absurd h h'
   ·rw[List.drop_of_length_le (by omega),dB]
 exact AB _ _ _ (loop l.length 0<|by omega)
theorem PD{m:Nat}{w:YB}(ht:p[k]?=some t):∀i,t.kids.length-i<=m->fj (m+1) p i (k:Int) w (if ch w (t.kids.drop i) i<0 then 0 else(k:Int)) (if ch w (t.kids.drop i) i<0 then 0 else ch w (t.kids.drop i) i) (decide<|¬ch w (t.kids.drop i) i<0):=by
 induction m with
 |zero=>
  intro i hi;refine rW 0 _ _ _ _ _ _ _ ⟨k,I,t,ht,λh=>by omega,λh=>?_⟩;rw[List.drop_of_length_le (by omega),ch];simp
 | succ m ihm=>
  intro i hi;refine rW (m+1) _ _ _ _ _ _ _ ⟨k,I,t,ht,λh=>?_,λh=>?_⟩
  ·obtain⟨u,hu,_⟩|h':=bd t.kids i
   ·rw[aK hu,ch];refine⟨k,I,t,ht,u,hu,λh1=>?_,λh1=>?_⟩
    ·have h2:¬((i:Int)<0):=by omega
     simp only[if_pos h1,if_neg h2];simp[h2]
    ·simp only[if_neg h1];exact ihm (i+1) (by omega)
   ·exact absurd h h'
  ·rw[List.drop_of_length_le (by omega),ch];simp
theorem Gh{w:YB}(h0:0<=m)(hm:m<p.length)(hp:kbulk p<=1000000000)(hw:w.length<=1000000000):ix p m w (be p m w).1 (be p m w).2.1 (be p m w).2.2:=by
 have hpl:=fe p;have one:∀(k:Nat) (x:YB) t,p[k]?=some t->∃M,∀m',M<=m'->fj m' p 0 (k:Int) x (inK p k x).1 (inK p k x).2.1 (inK p k x).2.2:=λk x t ht=>by
  refine⟨t.kids.length+1,λm' hm'=>?_⟩;obtain⟨q,rfl⟩:∃q,m'=q+1:=⟨m'-1,by omega⟩;have :=PD (w:=x) (m:=q) ht 0 (by omega);have e:inK p k x=(if ch x (t.kids.drop 0) 0<0 then 0 else(k:Int),if ch x (t.kids.drop 0) 0<0 then 0 else ch x (t.kids.drop 0) 0,decide<|¬ch x (t.kids.drop 0) 0<0):=by simp only[inK,show¬((k:Int)<0) by omega,if_false,Int.toNat_natCast,ht,List.drop_zero];split<;>simp_all
  rw[e];exact this
 by_cases hd:0<=dB w 0
 ·rcases zg w 0 with h1|⟨k,h1,h2⟩
  ·rw[h1]at hd;omega
  have hk:(dB w 0).toNat=k:=by rw[h1];simp
  simp only[be,if_pos hd,hk];have loop:∀n i,p.length-i<=n->i<=p.length->∃M,∀m',M<=m'->hZ m' p w (dB w 0) i (inK p (ch (w.take k) (p.drop i) i)<|w.drop<|k+1).1 (inK p (ch (w.take k) (p.drop i) i)<|w.drop<|k+1).2.1 (inK p (ch (w.take k) (p.drop i) i)<|w.drop<|k+1).2.2:=λn=>by
   have last:∀i,i=p.length->∃M,∀m',M<=m'->hZ m' p w (dB w 0) i (inK p (ch (w.take k) (p.drop i) i)<|w.drop<|k+1).1 (inK p (ch (w.take k) (p.drop i) i)<|w.drop<|k+1).2.1 (inK p (ch (w.take k) (p.drop i) i)<|w.drop<|k+1).2.2:=λi hi=>by refine⟨2,λm' hm'=>?_⟩;obtain⟨q,rfl⟩:∃q,m'=q+2:=⟨m'-2,by omega⟩;refine ni (q+1) _ _ _ _ _ _ _ ⟨λh=>by omega,λ_=>rQ q _ _ _ _ _ _ _ ⟨λ_=>?_,λh=>absurd hi h⟩⟩;rw[List.drop_of_length_le (by omega),ch];simp[inK]
   induction n with
   |zero=>intro i hi hle;exact last i (by omega)
   | succ n ih=>
    intro i hi hle;obtain⟨u,hu,hlt⟩|h':=bd p i
    ·by_cases ht:u.text=w.take k
     ·obtain⟨M,hM⟩:=one i (w.drop<|k+1) u hu;refine⟨M+2,λm' hm'=>?_⟩;obtain⟨q,rfl⟩:∃q,m'=q+2:=⟨m'-2,by omega⟩;rw[aK hu,ch,if_pos ht];refine ni (q+1) _ _ _ _ _ _ _ ⟨λ_=>⟨u,hu,k,by rw[h1];simp,by omega,λh=>absurd ht h,λ_=>?_⟩,λh=>absurd hlt h⟩;refine rQ q _ _ _ _ _ _ _ ⟨λh=>by omega,λ_=>⟨by rw[h1];omega,k+1,by rw[h1];omega,by omega,hM q<|by omega⟩⟩
     ·obtain⟨M,hM⟩:=ih (i+1) (by omega) (by omega);refine⟨M+1,λm' hm'=>?_⟩;obtain⟨q,rfl⟩:∃q,m'=q+1:=⟨m'-1,by omega⟩;rw[aK hu,ch,if_neg ht];exact ni q _ _ _ _ _ _ _ ⟨λ_=>⟨u,hu,k,by rw[h1];simp,by omega,λ_=>hM q (by omega),λh=>absurd h ht⟩,λh=>absurd hlt h⟩
    ·exact last i (by omega)
  obtain⟨M,hM⟩:=loop p.length 0 (by omega) (by omega);exact sY M _ _ _ _ _ _ ⟨_,OY w hw,λ_=>hM M<|aaf _,λh=>absurd hd h⟩
 ·simp only[be,if_neg hd];obtain⟨t,ht,_⟩|h':=bd p m.toNat
  ·obtain⟨M,hM⟩:=one m.toNat w t ht;have :=hM M<|aaf _;rw[show((m.toNat:Nat):Int)=m by omega]at this;exact sY M _ _ _ _ _ _ ⟨_,OY w hw,λh=>absurd h hd,λ_=>this⟩
  ·omega
mutual
def nodK:Tree->YI->List (YI×Tree)
 |.node k s ls ks,q=>(q,.node k s ls ks)::nodKs ks q 0
def nodKs:YT->YI->Nat->List (YI×Tree)
 |[],_,_=>[]
 |t::r,q,i=>nodK t (q++[(i:Int)])++nodKs r q (i+1)
end
theorem dH(t:Tree)(q:YI):nodK t q=(q,t)::nodKs t.kids q 0:=by cases t;simp only[nodK];rfl
mutual
theorem nodK_len:∀(t:Tree) (q:YI),(nodK t q).length<=tbulk t
 |.node k s ls ks,q=>by have :=nodKs_len ks q 0;simp only[nodK,tbulk,aac];omega
theorem nodKs_len:∀(l:YT) (q:YI) (i:Nat),(nodKs l q i).length<=kbulk l
 |[],_,_=>by simp[nodKs,kbulk]
 |t::r,q,i=>by have :=nodK_len t<|q++[(i:Int)];have :=nodKs_len r q<|i+1;simp only[nodKs,kbulk,aab];omega
end
def atK:Tree->YI->Option Tree
 |t,[]=>some t
 |t,i::r=>if i<0 then none else match t.kids[i.toNat]? with
  |none=>none
  |some u=>atK u r
theorem AN:∀(t:Tree) (q r:YI),atK t (q++r)=(atK t q).bind λu=>atK u r
 |t,[],r=>rfl
 | t,i::q,r=>by
  simp only[aav,atK];split
  ·rfl
  ·split
   ·rfl
   ·rename_i u hu;exact AN u q r
theorem vl(h:t.kids[i]?=some u):atK t [(i:Int)]=some u:=by simp[atK,h,show¬((i:Int)<0) by omega]
mutual
theorem nodK_at(root:Tree):∀(t:Tree) (q:YI),atK root q=some t->∀x∈nodK t q,atK root x.1=some x.2
 |.node k s ls ks,q,h,x,hx=>by
  simp only[nodK,aah]at hx;rcases hx with rfl|hx
  ·exact h
  ·exact nodKs_at root (.node k s ls ks) q h ks 0 rfl x hx
theorem nodKs_at(root t:Tree)(q:YI)(h:atK root q=some t):∀(l:YT) (i:Nat),t.kids.drop i=l->∀x∈nodKs l q i,atK root x.1=some x.2
 |[],_,_,x,hx=>by simp[nodKs]at hx
 | u::r,i,hd,x,hx=>by
  simp only[nodKs,aai]at hx;have hu:t.kids[i]?=some u:=by have :=congrArg (·[0]?) hd;simpa using this
  rcases hx with hx|hx
  ·exact nodK_at root u (q++[(i:Int)]) (by rw[AN,h];exact vl hu) x hx
  ·exact nodKs_at root t q h r (i+1) (by rw[<-List.tail_drop,hd];rfl) x hx
end
def mX(l:List<|YI×Tree):List YI:=l.map (·.1)
theorem Oa(l:YI)(G:l.length<=1000000000):qP l l:=Bk 0 _ _ λb hb=>⟨λh=>(List.length_eq_zero_iff.1 (hb h)).symm,λ_=>⟨G,rfl⟩⟩
theorem SY(t:Tree)(q:YI)(hq:q.length<=1000000000):jM t q ((atK t q).getD<|.node 0 [] [] []) (atK t q).isSome:=by
 have loop:∀m i (u:Tree),q.length-i<=m->lF (m+1) q u i ((atK u<|q.drop i).getD<|.node 0 [] [] []) (atK u<|q.drop i).isSome:=λm=>by
  induction m with
  |zero=>
   intro i u hi;refine tX 0 _ _ _ _ _ ⟨λh=>by omega,λh=>?_⟩;rw[List.drop_of_length_le<|by omega];exact⟨rfl,rfl⟩
  | succ m ihm=>
   intro i u hi;refine tX (m+1) _ _ _ _ _ ⟨λh=>?_,λh=>?_⟩
   ·obtain⟨x,hx,_⟩|h':=bd q i
    ·rw[aK hx,atK];refine⟨x,hx,λh1=>by simp[h1],λh1=>⟨x,hx,λh2=>?_,λh2=>?_⟩⟩
     ·have :u.kids[x.toNat]?=none:=List.getElem?_eq_none (by omega);simp[h1,this]
     ·obtain⟨y,hy,_⟩|h3:=bd u.kids x.toNat
      ·refine⟨x,hx,x.toNat,by omega,y,hy,?_⟩;simp only[if_neg h1,hy];exact ihm (i+1) y (by omega)
      ·omega
    ·exact absurd h h'
   ·rw[List.drop_of_length_le<|by omega];exact⟨rfl,rfl⟩
 have :=loop q.length 0 t (by omega);exact Bi _ _ _ _ _ (by simpa using this)
theorem PN:∀(t:Tree) (q:YI) (l:List YI),q.length+tbulk t<=1000000000->l.length+tbulk t<=1000000000->kg l t q (l++mX (nodK t q)):=dp λt ih q l hq hf=>by
 have hk:=bt t;have hb:=aQ t;have loop:∀k i l,t.kids.length-i<=k->l.length+kbulk (t.kids.drop i)<=1000000000->ji (2*k+1) t q l i (l++mX (nodKs (t.kids.drop i) q i)):=λk=>by
  induction k with
  |zero=>
   intro i l hi hf;refine rp _ _ _ _ _ _ ⟨λh=>by omega,λh=>?_⟩;rw[List.drop_of_length_le<|by omega];simp[nodKs,mX]
  | succ k ihk=>
   intro i l hi hf;refine rp (2*k+2) _ _ _ _ _ ⟨λh=>?_,λh=>?_⟩
   ·obtain⟨u,hu,_⟩|h':=bd t.kids i
    ·have hd:=aK hu;rw[hd,kbulk]at hf;have hbu:=aE hu;have hl:=nodK_len u<|q++[(i:Int)];refine⟨u,hu,by omega,by simp;omega,_,ih i u hu (q++[(i:Int)]) l (by simp;omega) (by omega),yz (2*k+1) _ _ _ _ _ ⟨by omega,?_⟩⟩;have :=ihk (i+1) (l++mX (nodK u<|q++[(i:Int)])) (by omega) (by simp[mX];omega);rw[hd,nodKs];simpa[mX]using this
    ·exact absurd h h'
   ·rw[List.drop_of_length_le<|by omega];simp[nodKs,mX]
 refine zr (2*t.kids.length+1) _ _ _ _ ⟨by have :=bS t;simp;omega,?_⟩;have :=loop t.kids.length 0 (l++[q]) (by omega) (by simp;omega);rw[dH];simpa[mX]using this
theorem QJ(t:Tree)(ht:tbulk t<=1000000000):nP t (mX<|nodK t []):=zd 0 _ _ ⟨_,by simpa using PN t [] [] (by simpa using ht) (by simpa using ht),rfl⟩
theorem CD(l:YI):dI l l true:=by
 have loop:∀m i,l.length-i<=m->eU (m+1) l l i true:=λm=>by
  induction m with
  |zero=>intro i hi;exact gv 0 _ _ _ _ ⟨λh=>by omega,λh=>rfl⟩
  |succ m G=>
   intro i hi;refine gv (m+1) _ _ _ _ ⟨λh=>?_,λh=>I⟩;obtain⟨u,J,_⟩|h':=bd l i
   ·exact⟨u,J,u,J,λh=>absurd I h,λ_=>G (i+1)<|by omega⟩
   ·exact absurd h h'
 exact kx (l.length+1) _ _ _ ⟨λh=>absurd I h,λ_=>loop l.length 0<|by omega⟩
theorem Bs(l:List YB):kz l l true:=by
 have loop:∀m i,l.length-i<=m->gH (m+1) l l i true:=λm=>by
  induction m with
  |zero=>intro i hi;exact nZ 0 _ _ _ _ ⟨λh=>by omega,λh=>rfl⟩
  |succ m G=>
   intro i hi;refine nZ (m+1) _ _ _ _ ⟨λh=>?_,λh=>I⟩;obtain⟨u,J,_⟩|h':=bd l i
   ·exact⟨u,J,u,J,λh=>absurd I h,λ_=>G (i+1)<|by omega⟩
   ·exact absurd h h'
 exact vr (l.length+1) _ _ _ ⟨λh=>absurd I h,λ_=>loop l.length 0<|by omega⟩
def dt(u:Tree):Bool:=u.kind==16||u.kind==9
def tgK(p:YT)(m:Int)(q:YI)(u:Tree):ay:=⟨⟨m,q⟩,(be p m u.text).1,(be p m u.text).2.1,!(be p m u.text).2.2⟩
def aY(p:YT)(m:Int):List (YI×Tree)->List ay
 |[]=>[]
 |x::r=>(if dt x.2 then[tgK p m x.1 x.2]else[])++aY p m r
theorem oA(p:YT)(m:Int):∀a b,aY p m (a++b)=aY p m a++aY p m b
 |[],b=>rfl
 |x::r,b=>by simp only[aav,aY,oA p m r b,aaj]
theorem yP(p:YT)(m:Int):∀a,(aY p m a).length<=a.length
 |[]=>aaf _
 |x::r=>by have :=yP p m r;simp only[aY,aab,aac];split<;>simp <;>omega
variable{M:Int}
theorem Qr(h0:0<=M)(hM:M<p.length)(hp:kbulk p<=1000000000):∀(t:Tree) (q:YI) (fd:List ay),q.length+tbulk t<=1000000000->fd.length+tbulk t<=1000000000->iu p M q fd t p M q (fd++aY p M (nodK t q)):=dp λt ih q fd hq hf=>by
 have hk:=bt t;have ht:=cH t;have hb:=aQ t;have loop:∀k i fd,t.kids.length-i<=k->fd.length+kbulk (t.kids.drop i)<=1000000000->eY (k+1) t fd p M q i p M q (fd++aY p M (nodKs (t.kids.drop i) q i)):=λk=>by
  induction k with
  |zero=>
   intro i fd hi hf;refine oG 0 _ _ _ _ _ _ _ _ _ _ ⟨λh=>by omega,λh=>⟨I,I,I,?_⟩⟩;rw[List.drop_of_length_le<|by omega];simp[nodKs,aY]
  | succ k ihk=>
   intro i fd hi hf;refine oG (k+1) _ _ _ _ _ _ _ _ _ _ ⟨λh=>?_,λh=>⟨I,I,I,?_⟩⟩
   ·obtain⟨u,hu,_⟩|h':=bd t.kids i
    ·have hd:=aK hu;rw[hd,kbulk]at hf;have hbu:=aE hu;have hl:=nodK_len u<|q++[(i:Int)];have hl2:=yP p M<|nodK u<|q++[(i:Int)];refine⟨u,hu,by simp;omega,_,_,_,_,ih i u hu (q++[(i:Int)]) fd (by simp;omega) (by omega),q.length,by simp,by simp,by omega,?_⟩;have :=ihk (i+1) (fd++aY p M (nodK u<|q++[(i:Int)])) (by omega) (by simp;omega);rw[hd,nodKs,oA,<-aaj];simpa using this
    ·exact absurd h h'
   ·rw[List.drop_of_length_le<|by omega];simp[nodKs,aY]
 have key:∀b,b=dt t->gO (t.kids.length+3) p M q fd t b p M q (fd++aY p M (nodK t q)):=λb hbb=>by
  rw[dH,aY];refine vR (t.kids.length+2) _ _ _ _ _ _ _ _ _ _ ⟨λh=>?_,λh=>?_⟩
  ·rw[if_pos (by rw[<-hbb];exact h)];refine⟨_,_,_,FA h0 hM hp (by omega),_,Oa q (by omega),vO (t.kids.length+1) _ _ _ _ _ _ _ _ _ _ _ _ _ ⟨by simp;omega,?_⟩⟩;have :=loop t.kids.length 0 (fd++[tgK p M q t]) (by omega) (by simp;omega);rw[<-aaj];exact this
  ·rw[if_neg (by rw[<-hbb,h];simp)];have :=loop (t.kids.length+1) 0 fd (by omega) (by simp;omega);simpa using this
 refine wn (t.kids.length+3) _ _ _ _ _ _ _ _ _ ⟨λh=>key _ (by simp[dt,h]),λh=>key _<|by simp[dt,h]⟩
def bk:YT->Bool
 |[]=>true
 |t::r=>t.kind==1&&shapeK t&&bk r
theorem DZ(p:YT)(hp:kbulk p<=1000000000):pe p (bk p):=by
 have hl:=fe p;have loop:∀m i,p.length-i<=m->oh (m+1) p i (bk<|p.drop i):=λm=>by
  induction m with
  |zero=>
   intro i hi;refine wa 0 _ _ _ ⟨λh=>by omega,λh=>?_⟩;rw[List.drop_of_length_le (by omega),bk]
  | succ m ihm=>
   intro i hi;refine wa (m+1) _ _ _ ⟨λh=>?_,λh=>?_⟩
   ·obtain⟨u,hu,_⟩|h':=bd p i
    ·rw[aK hu,bk];have :=bn hu;refine⟨u,hu,λh1=>by simp[h1],λh1=>⟨_,tq u (by omega),λh2=>by simp[h1,h2],λh2=>⟨by omega,?_⟩⟩⟩;simp only[h1,h2,beq_self_eq_true,Bool.true_and];exact ihm (i+1) (by omega)
    ·exact absurd h h'
   ·rw[List.drop_of_length_le (by omega),bk]
 exact CZ _ _ _ (loop p.length 0<|by omega)
theorem Jz(p:YT)(hp:kbulk p<=1000000000):lW p (bk p):=by
 have hl:=fe p;have loop:∀m i,p.length-i<=m->iq (m+1) p i (bk<|p.drop i):=λm=>by
  induction m with
  |zero=>
   intro i hi;refine px 0 _ _ _ ⟨λh=>by omega,λh=>?_⟩;rw[List.drop_of_length_le (by omega),bk]
  | succ m ihm=>
   intro i hi;refine px (m+1) _ _ _ ⟨λh=>?_,λh=>?_⟩
   ·obtain⟨u,hu,_⟩|h':=bd p i
    ·rw[aK hu,bk];have :=bn hu;refine⟨u,hu,λh1=>by simp[h1],λh1=>⟨u,hu,_,Aq u (by omega),λh2=>by simp[h1,h2],λh2=>?_⟩⟩;simp only[h1,h2,beq_self_eq_true,Bool.true_and];exact ihm (i+1) (by omega)
    ·exact absurd h h'
   ·rw[List.drop_of_length_le (by omega),bk]
 exact xS _ _ _ (loop p.length 0<|by omega)
def iv(p:YT):Nat->YT->List ay
 |_,[]=>[]
 |i,t::r=>aY p i (nodK t [])++iv p (i+1) r
theorem Ep(p:YT):∀(i:Nat) (l:YT),(iv p i l).length<=kbulk l
 |_,[]=>aaf _
 |i,t::r=>by
  have :=Ep p (i+1) r;have :=yP p i<|nodK t [];have :=nodK_len t [];simp only[iv,kbulk,aab];omega
def bL(p:YT):List ay:=if bk p then iv p 0 p else[]
theorem Ed(p:YT)(hp:kbulk p<=100000000):pc p (bL p):=by
 have hl:=fe p;have loop:∀m i z fd,p.length-i<=m->fd.length+kbulk (p.drop i)<=1000000000->om (m+1) p p z [] fd i (fd++iv p i (p.drop i)):=λm=>by
  induction m with
  |zero=>
   intro i z fd hi hf;refine vt 0 _ _ _ _ _ _ _ ⟨λh=>by omega,λh=>?_⟩;rw[List.drop_of_length_le<|by omega];simp[iv]
  | succ m ihm=>
   intro i z fd hi hf;refine vt (m+1) _ _ _ _ _ _ _ ⟨λh=>?_,λh=>?_⟩
   ·obtain⟨u,hu,_⟩|h':=bd p i
    ·have :=bn hu;have hd:=aK hu;rw[hd,kbulk]at hf;have :=yP p i<|nodK u [];have :=nodK_len u [];refine⟨u,hu,_,_,_,_,Qr (p:=p) (M:=(i:Int)) (by omega) (by omega) (by omega) u [] fd (by simp;omega) (by omega),by omega,?_⟩;rw[hd,iv,<-aaj];exact ihm (i+1) _ _ (by omega) (by simp;omega)
    ·exact absurd h h'
   ·rw[List.drop_of_length_le<|by omega];simp[iv]
 refine CE (p.length+1) _ _ ⟨_,DZ p (by omega),λh=>by simp[bL,h],λh=>?_⟩;have :=loop p.length 0 0 [] (by omega) (by simp;omega);simpa[bL,h]using this
theorem xZ{w:YB}(h:(inK p M w).2.2=true):∃(i d:Nat) (t u:Tree),M=(i:Int)∧(inK p M w).1=(i:Int)∧(inK p M w).2.1=(d:Int)∧p[i]?=some t∧t.kids[d]?=some u∧u.text=w∧∀j v,j<d->t.kids[j]?=some v->v.text≠w:=by
 unfold inK at h⊢;by_cases hM:M<0
 ·rw[if_pos hM]at h;cases h
 ·rw[if_neg hM]at h⊢;cases ht:p[M.toNat]? with
  |none=>rw[ht]at h;cases h
  | some t=>
   rw[ht]at h;simp only at h⊢;rcases vz w t.kids 0 with e|⟨k,u,e1,e2,e3,e4⟩
   ·simp[e]at h
   ·have hn:¬ch w t.kids 0<0:=by omega
    rw[if_neg hn];exact⟨M.toNat,k,t,u,by omega,by simp only[];omega,by simp only[];omega,ht,e2,e3,e4⟩
theorem Ns{w:YB}(h:(be p M w).2.2=true):∃(i d:Nat) (t u:Tree),(be p M w).1=(i:Int)∧(be p M w).2.1=(d:Int)∧p[i]?=some t∧t.kids[d]?=some u:=by
 unfold be at h⊢;split at h
 ·rename_i G;rw[if_pos G];obtain⟨i,d,t,u,_,J,O,U,Z,_⟩:=xZ h;exact⟨i,d,t,u,J,O,U,Z⟩
 ·rename_i G;rw[if_neg G];obtain⟨i,d,t,u,_,J,O,U,Z,_⟩:=xZ h;exact⟨i,d,t,u,J,O,U,Z⟩
theorem DY{w:YB}(h:bJ w=k)(J:0<k∧k<5):(ce w).2.1=w.length∧(ce w).1=k:=by
 unfold bJ at h;split at h
 ·omega
 ·split at h
  ·rename_i G;have e:tokenT w=ce w:=by
    unfold tokenT at h⊢;simp only[]at h⊢
    repeat' split at h
    all_goals simp_all
    all_goals omega
   rw[e]at G h;exact⟨G.2,h⟩
  ·omega
theorem EU{w:YB}(h:bJ w=k)(Z:k=1∨k=2):spanN bi w=w.length∧(k=1↔di (w.getD 0 0)=true):=by
 obtain⟨h1,h2⟩:=DY h (by omega);unfold ce at h1 h2;split at h1
 ·rename_i J;rw[if_pos J]at h2;unfold fI at h2
  repeat' split at h2
  all_goals simp only at h2
  all_goals omega
 ·rename_i J;rw[if_neg J]at h2;unfold cg at h1 h2;split at h2
  ·simp only at h2;omega
  ·rename_i O;rw[if_neg O]at h1;split at h2
   ·simp only at h2;omega
   ·rename_i U;rw[if_neg U]at h1;split at h2
    ·rename_i G;rw[if_pos G]at h1;simp only at h1 h2;exact⟨h1,λ_=>G,λ_=>h2.symm⟩
    ·rename_i G;rw[if_neg G]at h1;simp only at h1 h2;exact⟨h1,λh=>by omega,λh=>absurd h G⟩
theorem JY{w:YB}(h:bJ w=k)(U:k=3∨k=4):spanN bi w<w.length∧w.getD (spanN bi w) 0=46∧(k=3↔di (w.getD (spanN bi w+1) 0)=true):=by
 obtain⟨h1,h2⟩:=DY h (by omega);unfold ce at h1 h2;split at h1
 ·rename_i J;rw[if_pos J]at h2;have G:=J;simp only[eu,aaa,aas,aaq]at G;refine⟨by omega,?_,?_⟩
  ·have :=G.1.2;exact UInt8.toNat_inj.1 (by rw[this];rfl)
  ·unfold fI at h2
   repeat' split at h2
   all_goals simp only at h2
   all_goals first
    |omega
    |(rename_i O;exact⟨λ_=>O,λ_=>h2.symm⟩)
    |(rename_i O;exact⟨λh=>by omega,λh=>absurd h O⟩)
 ·rename_i J;rw[if_neg J]at h2;unfold cg at h2
  repeat' split at h2
  all_goals simp only at h2
  all_goals omega
theorem Dd(c:UInt8)(r:YB):spanN bi (c::r)=if bi c=true then spanN bi r+1 else 0:=by unfold spanN;rw[List.takeWhile_cons];split<;>simp
theorem BD:∀(w:YB) (i:Nat),spanN bi w=w.length->dB w i=-1
 |[],i,h=>rfl
 | c::r,i,h=>by
  rw[Dd]at h;split at h
  ·rename_i hc;have :c≠46:=λe=>by subst e;revert hc;decide
   rw[dB,if_neg this];exact BD r (i+1) (by simpa using h)
  ·simp at h
theorem MJ:∀(w:YB) (i:Nat),spanN bi w<w.length->w.getD (spanN bi w) 0=46->dB w i=((i+spanN bi w:Nat):Int)
 |[],i,h,_=>by simp at h
 | c::r,i,h,h2=>by
  rw[Dd]at h h2⊢;split at h
  ·rename_i hc;rw[if_pos hc]at h2⊢;have :c≠46:=λe=>by subst e;revert hc;decide
   rw[dB,if_neg this,MJ r (i+1) (by simpa using h)<|by simpa using h2]
   congr 1;omega
  ·rename_i hc;rw[if_neg hc]at h2⊢;have :c=46:=by simpa using h2
   rw[dB,if_pos this];rfl
theorem dP{k n:Int}:∀{l:YT} {i j:Nat} {u:Tree},shapeKs k n i l=true->l[j]?=some u->jo k n ((i+j:Nat):Int) u.kind=true∧shapeK u=true
 |[],i,j,u,_,h=>by simp at h
 |t::r,i,0,u,h,G=>by simp only[shapeKs,aaa]at h;simp only[List.getElem?_cons_zero,aad]at G;subst G;exact⟨by simpa using h.1.1,h.1.2⟩
 |t::r,i,j+1,u,h,G=>by simp only[shapeKs,aaa]at h;have :=dP (i:=i+1) (j:=j) h.2 (by simpa using G);exact⟨by rw[show i+(j+1)=i+1+j by omega];exact this.1,this.2⟩
theorem eK:∀{p:YT} {i:Nat} {t:Tree},bk p=true->p[i]?=some t->t.kind=1∧shapeK t=true
 |[],i,t,_,h=>by simp at h
 |v::r,0,t,h,hi=>by simp only[bk,aaa,aaq]at h;simp only[List.getElem?_cons_zero,aad]at hi;subst hi;exact h.1
 |v::r,i+1,t,h,hi=>by simp only[bk,aaa]at h;exact eK h.2 (by simpa using hi)
abbrev Kn:=ac
abbrev Env:=List az
structure Cx where
 p:List Tree
 nm:List ((Int×List UInt8)×ac)
 sg:List ((Int×Int)×am)
 mo:Int
 pa:List Int
 wm:Int
 wp:List Int
structure Sv where
 tg:List ay
 fa:List ai
 rs:Int
 rl:Int
def Cx.go(x:Cx)(i:Int):Cx:={x with pa:=x.pa++[i]}
def faP(x:Cx)(k:Int)(b:YI)(s:Sv):Sv:={s with fa:=s.fa++[⟨⟨x.mo,x.pa++b⟩,k⟩]}
def aZ(a b:Kn):Bool:=a.simple !=0&&b.simple !=0&&!(a.simple==b.simple&&a.lists==b.lists)
def jI(w:YB):Env->Option Kn
 |[]=>none
 |b::r=>if b.name=w then some b.typ else jI w r
abbrev Ev:=Cx->Tree->Env->Sv->Kn×Sv
def cC(t:Tree)(i:Nat):Tree:=t.kids.getD i<|.node 0 [] [] []
def knS(x:Cx)(i:Nat)(k:Kn)(s:Sv):Sv:=if x.mo=x.wm∧x.pa++[(i:Int)]=x.wp then{s with rs:=k.simple,rl:=k.lists}else s
def AH(x:Cx)(i:Nat):Kn×Sv->Kn×Sv
 |(k,s)=>(k,knS x i k s)
def aR(E:Ev)(x:Cx)(t:Tree)(i:Nat)(env:Env)(s:Sv):Kn×Sv:=AH x i<|E (x.go i) (cC t i) env s
def noT:ay:=⟨⟨0,[]⟩,0,0,true⟩
def cd(s:Sv):Sv:={s with tg:=s.tg.drop 1}
def qz(x:Cx)(g:ay):am:=if g.Free then⟨[],⟨0,0⟩⟩else(aI (g.Module,g.Def) x.sg).getD ⟨[],⟨0,0⟩⟩
def vd(x:Cx)(t:Tree)(g:ay)(q:am)(s:Sv):Sv:=if g.Free then faP x 1 [] s else if q.params.length=t.kids.length then s else faP x 3 [] s
def uC(x:Cx)(ps:List Kn)(i:Nat):Kn×Sv->Sv
 |(k,s)=>match ps[i]? with
  |some q=>if aZ k q then faP x 4 [(i:Int),0] s else s
  |none=>s
def jW(E:Ev)(x:Cx)(ps:List Kn)(env:Env):YT->Nat->Sv->Sv
 |[],_,s=>s
 |a::r,i,s=>jW E x ps env r (i+1)<|uC x ps i<|aR E (x.go i) a 0 env s
def qy(E:Ev)(x:Cx)(t:Tree)(env:Env)(s:Sv):Kn×Sv:=((qz x<|s.tg.headD noT).result,jW E x (qz x<|s.tg.headD noT).params env t.kids 0<|vd x t (s.tg.headD noT) (qz x<|s.tg.headD noT)<|cd s)
def DE(x:Cx)(i:Nat)(f:Kn):Kn×Sv->Kn×Sv
 |(k,s)=>(if f.simple=0 then k else f,if aZ k (if f.simple=0 then k else f)then faP x 6 [(i:Int)] s else s)
def jS(E:Ev)(x:Cx)(t:Tree)(env:Env):Nat->Nat->Kn×Sv->Kn×Sv
 |0,_,r=>r
 |n+1,i,(f,s)=>jS E x t env n (i+1)<|DE x i f<|aR E x t i env s
def jE:Kn×Sv->Kn×Sv
 |(f,s)=>(if f.simple=0 then f else⟨f.simple,f.lists+1⟩,s)
def ifQ(x:Cx)(a:Kn):Kn×Sv->Kn×Sv
 |(b,s)=>(if a.simple=0 then b else a,if aZ a b then faP x 6 [2] s else s)
def ifR(E:Ev)(x:Cx)(t:Tree)(env:Env):Kn×Sv->Kn×Sv
 |(a,s)=>ifQ x a<|aR E x t 2 env s
def ifS(x:Cx):Kn×Sv->Sv
 |(c,s)=>if aZ c ⟨7,0⟩then faP x 4 [0] s else s
def ifP(E:Ev)(x:Cx)(t:Tree)(env:Env)(s:Sv):Kn×Sv:=ifR E x t env<|aR E x t 1 env<|ifS x<|aR E x t 0 env s
def okB(k:Kn):Bool:=(k.simple==5&&k.lists==0)||(k.simple==6&&k.lists==0)
def bad(k:Kn):Bool:=!okB k&&k.simple !=0
def uZ(a:Kn):Kn:=if okB a then a else⟨0,0⟩
def ur(a b:Kn):Kn:=if okB b then(if(uZ a).simple=0 then b else uZ a)else uZ a
def sF(x:Cx)(a b:Kn)(s:Sv):Sv:=
 if bad a then(if bad b then faP x 4 [1] (faP x 4 [0] s)else faP x 4 [0] s)
 else if bad b then faP x 4 [1] s else if aZ a b then faP x 6 [1] s else s
def zt(x:Cx)(a b:Kn)(s:Sv):Sv:=if aZ b ⟨5,0⟩then faP x 4 [1] (if aZ a ⟨5,0⟩then faP x 4 [0] s else s)else(if aZ a ⟨5,0⟩then faP x 4 [0] s else s)
def opQ(x:Cx)(w:YB)(a:Kn):Kn×Sv->Kn×Sv
 |(b,s)=>if w=[43]then(ur a b,sF x a b s)else if w=[61,61]then(⟨7,0⟩,if aZ a b then faP x 6 [1] s else s)else(if w=[60]then⟨7,0⟩else⟨5,0⟩,zt x a b s)
def zy(E:Ev)(x:Cx)(t:Tree)(env:Env):Kn×Sv->Kn×Sv
 |(a,s)=>opQ x t.text a<|aR E x t 1 env s
def GT(E:Ev)(x:Cx)(t:Tree)(env:Env):Kn×Sv->Kn×Sv
 |(a,s)=>aR E x t 1 (⟨t.text,a⟩::env) s
def uu(x:Cx)(s:Sv):Option Kn->Kn×Sv
 |some k=>(k,s)
 |none=>(⟨0,0⟩,faP x 1 [] s)
def bH(E:Ev):Ev:=λx t env s=>
 if t.kind=10 then(⟨5,0⟩,s)else if t.kind=11 then(⟨6,0⟩,s)else if t.kind=13 then(⟨7,0⟩,s)else if t.kind=14 then(⟨7,0⟩,s)
 else if t.kind=12 then uu x s (jI t.text env)else if t.kind=16 then qy E x t env s
 else if t.kind=18 then jE (jS E x t env t.kids.length 0 (⟨0,0⟩,s))else if t.kind=19 then ifP E x t env s
 else if t.kind=20 then GT E x t env (aR E x t 0 env s)else if t.kind=21 then zy E x t env (aR E x t 0 env s)
 else if t.kind=22 then aR E x t 0 env s else(⟨0,0⟩,s)
def dE:Nat->Ev
 |0=>λ_ _ _ s=>(⟨0,0⟩,s)
 |n+1=>bH<|dE n
def mkC(x:Cx)(s:Sv):CKr:=⟨x.p,s.tg,x.nm,x.sg,x.mo,x.pa,s.fa,x.wm,x.wp,s.rs,s.rl⟩
section
variable(x:Cx)(s:Sv)
abbrev ckF(k:Int)(b:YI)(s':Sv):Prop:=aH (mkC x s) k b (mkC x s')
abbrev ckE(t:Tree)(env:Env)(k:Kn)(s':Sv):Prop:=iA (mkC x s) t env k (mkC x s')
abbrev ckK(t:Tree)(i:Int)(env:Env)(k:Kn)(s':Sv):Prop:=bu (mkC x s) t i env k (mkC x s')
abbrev ckV(t:Tree)(env:Env)(k:Kn)(s':Sv):Prop:=ju (mkC x s) t env k (mkC x s')
abbrev ckC(t:Tree)(env:Env)(k:Kn)(s':Sv):Prop:=mr (mkC x s) t env k (mkC x s')
abbrev ckB(t:Tree)(env:Env)(k:Kn)(s':Sv):Prop:=jr (mkC x s) t env k (mkC x s')
abbrev ckO(t:Tree)(env:Env)(k:Kn)(s':Sv):Prop:=ja (mkC x s) t env k (mkC x s')
abbrev ckS(ab:Kn×Kn)(k:Kn)(s':Sv):Prop:=mJ (mkC x s) ab k (mkC x s')
abbrev ckN(i:Int):Prop:=cZ (mkC x s) i (mkC (x.go i) s)
abbrev ckD(i:Int):Prop:=bc (mkC (x.go i) s) (mkC x s)
end
theorem NV(a b:YI)(h:a.length+b.length<=1000000000):sj [a,b] (a++b):=by
 refine BI 6 _ _<|?_;refine pQ 5 _ _ _ _ (⟨λ_=>⟨a,rfl,by omega,λh=>absurd h (by omega),λ_=>⟨by omega,?_⟩⟩,λh=>absurd (show 0<2 by decide) h⟩);refine pQ 4 _ _ _ _ (⟨λ_=>⟨b,rfl,by omega,λh=>absurd h (by omega),λ_=>⟨by omega,?_⟩⟩,λh=>absurd (show 1<2 by decide) h⟩);refine pQ 3 _ _ _ _ (⟨λh=>absurd h (show¬2<2 by decide),λ_=>⟨[],SE _ (by omega),?_⟩⟩);refine pO 2 _ _ _ _ (⟨λ_=>⟨a,rfl,by simp;omega,by omega,?_⟩,λh=>absurd (show 0<2 by decide) h⟩);refine pO 1 _ _ _ _ (⟨λ_=>⟨b,rfl,by simp;omega,by omega,?_⟩,λh=>absurd (show 1<2 by decide) h⟩);exact pO 0 _ _ _ _ (⟨λh=>absurd h (show¬2<2 by decide),λ_=>rfl⟩)
variable{x:Cx}{s:Sv}
theorem fu(k:Int)(b:YI)(h1:x.pa.length+b.length<=1000000000)(h2:s.fa.length+1<=1000000000):ckF x s k b (faP x k b s):=
 rS_typing_checker_fault 0 _ _ _ _ (⟨_,NV x.pa b h1,by simp[mkC];omega,rfl⟩)
theorem lZ(i:Int)(h:x.pa.length+1<=1000000000):ckN x s i:=wq 0 _ _ _ (⟨by simp[mkC];omega,rfl⟩)
theorem kA(i:Int):ckD x s i:=wh 0 _ _ (⟨x.pa.length,by simp[mkC,Cx.go],by simp[mkC,Cx.go],by simp[mkC,Cx.go]⟩)
theorem Po(h:0<s.tg.length):jk (mkC x s) (s.tg.headD noT) (mkC x<|cd s):=by
 obtain⟨tg,fa,rs,rl⟩:=s;cases tg with
 |nil=>simp at h
 |cons g r=>exact yB 0 _ _ _ (⟨g,rfl,by simp[mkC],rfl,rfl⟩)
theorem lr(a b:Kn):cD a b (aZ a b):=Ci 0 _ _ _ (⟨λh1=>⟨λh2=>by simp[aZ,h1,h2],λh2=>by simp[aZ,h1,h2]⟩,λh1=>by simp[aZ,h1]⟩)
theorem TE(a b:YI)(ha:a.length<=1000000000):qQ a b (decide<|a=b):=by
 by_cases hl:a.length=b.length
 ·have key:∀k i,a.length-i<=k->a.take i=b.take i->lM (k+1) a b i (decide<|a=b):=by
   intro k
   induction k with
   |zero=>
    intro i hi ht;refine tW 0 _ _ _ _ (⟨λh=>by omega,λ_=>?_⟩);rw[List.take_of_length_le (by omega),List.take_of_length_le<|by omega]at ht;simp[ht]
   | succ k ih=>
    intro i hi ht;refine tW (k+1) _ _ _ _ (⟨λh=>?_,λh=>?_⟩)
    ·have h':i<b.length:=by omega
     refine⟨a[i],List.getElem?_eq_getElem h,b[i],List.getElem?_eq_getElem h',λhn=>?_,λhe=>⟨by omega,ih (i+1) (by omega) ?_⟩⟩
     ·have :a≠b:=λe=>hn (by subst e;rfl);simp[this]
     ·rw[List.take_add_one,List.take_add_one,ht,List.getElem?_eq_getElem h,List.getElem?_eq_getElem h',he]
    ·rw[List.take_of_length_le (by omega),List.take_of_length_le<|by omega]at ht;simp[ht]
  exact uF (a.length+1) _ _ _ (⟨λh=>absurd hl h,λ_=>key a.length 0 (by omega) I⟩)
 ·exact uF 0 _ _ _ (⟨λ_=>by have :a≠b:=λe=>hl (by rw[e]);simp[this],λh=>absurd h hl⟩)
variable{env:Env}
theorem RL{s':Sv}{k:Kn}(J:t.kids[i]?=some u)(O:x.pa.length+1<=1000000000)(h:ckE (x.go i) s u env k s'):ckK x s t i env k (knS x i k s'):=by
 have U:(x.pa++[(i:Int)]).length<=1000000000:=by simp;omega
 have Z:=TE (x.pa++[(i:Int)]) x.wp U;unfold knS;by_cases h1:x.mo=x.wm
 ·by_cases h2:x.pa++[(i:Int)]=x.wp
  ·rw[if_pos ⟨h1,h2⟩];refine lR 0 _ _ _ _ _ _ (⟨_,lZ (i:Int) O,i,I,u,J,_,_,h,λ_=>⟨_,Z,λ_=>⟨_,kA (x:=x) (s:={s' with rs:=k.simple,rl:=k.lists}) i,I,I⟩,λhb=>?_⟩,λG=>absurd h1 G⟩);rw[decide_eq_true h2]at hb;cases hb
  ·rw[if_neg λh=>h2 h.2];refine lR 0 _ _ _ _ _ _<|⟨_,lZ (i:Int) O,i,I,u,J,_,_,h,λ_=>⟨_,Z,λhb=>?_,λ_=>⟨_,kA (x:=x) (s:=s') i,I,I⟩⟩,λG=>absurd h1 G⟩;rw[decide_eq_false h2]at hb;cases hb
 ·rw[if_neg λh=>h1 h.1];exact lR 0 _ _ _ _ _ _<|⟨_,lZ (i:Int) O,i,I,u,J,_,_,h,λG=>absurd G h1,λ_=>⟨_,kA (x:=x) (s:=s') i,I,I⟩⟩
theorem Lt{x:Cx}{s:Sv}(t:Tree)(h1:x.pa.length<=1000000000)(h2:s.fa.length+1<=1000000000):∀env:Env,fC (env.length+1) (mkC x s) t env (uu x s<|jI t.text env).1 (mkC x (uu x s<|jI t.text env).2)
 |[]=>mC 0 _ _ _ _ _ (⟨λ_=>⟨_,fu (x:=x) (s:=s) 1 [] (by simpa using h1) h2,rfl,rfl⟩,λy r h=>(by cases h)⟩)
 | b::r=>by
  refine mC (r.length+1) _ _ _ _ _ (⟨λh=>(by cases h),λy r' h=>?_⟩);injection h with e1 e2;subst e1 e2
  refine⟨λhb=>?_,λhb=>?_⟩
  ·rw[show jI t.text (b::r)=some b.typ from if_pos hb];exact⟨I,I⟩
  ·rw[show jI t.text (b::r)=jI t.text r from if_neg hb];exact Lt t h1 h2 r
theorem Tn(t:Tree)(env:Env)(h1:x.pa.length<=1000000000)(h2:s.fa.length+1<=1000000000):ckV x s t env (uu x s<|jI t.text env).1 (uu x s<|jI t.text env).2:=
 rS_typing_checker_variable (env.length+1) _ _ _ _ _ (Lt t h1 h2 env)
theorem fV(h:i<t.kids.length):t.kids[i]?=some (cC t i):=by simp only[cC,List.getD_eq_getElem?_getD];rw[List.getElem?_eq_getElem h];rfl
theorem dF(h:t.kids[i]?=some u):cC t i=u:=by simp only[cC,List.getD_eq_getElem?_getD,h];rfl
def exT(t:Tree):Prop:=shapeK t=true∧dT t.kind=true
theorem uo{a b c:Nat}{z:Int}(h:0<=f0 n a b c z):(a:Int)<=n∧(0<=z->n<=z):=by
 unfold f0 at h;split at h
 ·omega
 ·split at h
  ·omega
  ·exact⟨by omega,λG=>by omega⟩
theorem ro(h:exT t):(t.kind=22->t.kids.length=1)∧(t.kind=20->t.kids.length=2)∧(t.kind=19->t.kids.length=3)∧(t.kind=21->t.kids.length=2):=by
 obtain⟨hs,J⟩:=h;rw[cc]at hs;simp only[aaa,aas]at hs;have G:=hs.1.1;refine⟨λe=>?_,λe=>?_,λe=>?_,λe=>?_⟩
 ·rw[e]at G;have :=uo<|show 0<=f0 t.kids.length 1 2 0 1 from G;omega
 ·rw[e]at G;have :=uo<|show 0<=f0 t.kids.length 2 4 0 2 from G;omega
 ·rw[e]at G;have :=uo<|show 0<=f0 t.kids.length 3 3 0 3 from G;omega
 ·rw[e]at G;have :=uo<|show 0<=f0 t.kids.length 2 1 0 2 from G;omega
theorem cS(h:exT t)(hu:t.kids[i]?=some u)(h16:t.kind≠16):exT u∧u.kind≠17:=by
  obtain⟨hs,hk⟩:=h;rw[cc]at hs;simp only[aaa,aas]at hs;obtain⟨g1,g2⟩:=dP hs.2 hu;have hk':10<=t.kind∧t.kind<=22∧t.kind≠17:=by simpa[dT]using hk
  have e:dT u.kind=true:=by
    simp only[jo]at g1;rw[if_neg (by omega),if_neg (by omega),if_neg (by omega),if_neg h16]at g1;split at g1
    · simp only[Bool.or_eq_true,Bool.and_eq_true,beq_iff_eq,yX]at g1;rcases g1 with g|⟨_,g⟩
      ·exact g.1
      ·rw[g];rfl
    ·exact g1
  exact ⟨⟨g2, e⟩, by have :10<=u.kind∧u.kind<=22∧u.kind≠17:=by simpa[dT   ]using e
                     exact this.2.2⟩
theorem DH(h:exT t)(hu:t.kids[i]?=some u)(J:t.kind=16):u.kind=17∧u.kids.length=1∧exT (cC u 0):=by
 obtain⟨hs,hk⟩:=h;rw[cc]at hs;simp only[aaa,aas]at hs;obtain⟨O,G⟩:=dP hs.2 hu;have e:u.kind=17:=by rw[J]at O;simpa[jo]using O
 rw[cc]at G;simp only[aaa,aas]at G;have U:=G.1.1;rw[e]at U;have :=uo<|show 0<=f0 u.kids.length 1 0 0 1 from U;have h1:u.kids.length=1:=by omega
 obtain⟨Z,g4⟩:=dP G.2 (fV (t:=u) (i:=0)<|by omega);rw[e]at Z;exact⟨e,h1,g4,by simpa[jo]using Z⟩
mutual
def uN:Tree->Nat
 |.node k w ls ks=>(if k=16∨k=9 then 1 else 0)+uNs ks
def uNs:YT->Nat
 |[]=>0
 |t::r=>uN t+uNs r
end
theorem hJ(t:Tree):uN t=(if t.kind=16∨t.kind=9 then 1 else 0)+uNs t.kids:=by cases t;simp only[uN];rfl
def KOk(L:Nat)(k:Kn):Prop:=0<=k.lists∧k.lists<=(L:Int)
variable{L:Nat}
theorem KOk.mono{M:Nat}{k:Kn}(h:KOk L k)(G:L<=M):KOk M k:=⟨h.1,by have :=h.2;omega⟩
theorem ux(z:Int):KOk L ⟨z,0⟩:=⟨Int.le_refl _,by simp⟩
structure Hyp (x:Cx) (env:Env) (s:Sv) (L B u:Nat):Prop where
 pa:x.pa.length+B<=100000000
 fa:s.fa.length+4*B<=900000000
 tg:u<=s.tg.length
 lb:L+B<=900000000
 env:∀b∈env,KOk L b.typ
 sg:∀k g,aI k x.sg=some g->KOk L g.result
structure Pst (L B u:Nat) (s:Sv) (r:Kn×Sv):Prop where
 k:KOk (L+B) r.1
 tg:r.2.tg=s.tg.drop u
 fa:r.2.fa.length+1<=s.fa.length+4*B
variable{B:Nat}
theorem Hyp.to{s1:Sv}{u B' u':Nat}(h:Hyp x env s L B u)(G:B'<=B)(hf:s1.fa.length+4*B'<=s.fa.length+4*B)(ht:u'<=s1.tg.length):Hyp x env s1 L B' u':=
 ⟨by have :=h.pa;omega,by have :=h.fa;omega,ht,by have :=h.lb;omega,h.env,h.sg⟩
def nH(E:Ev)(N:Nat):Prop:=∀t,tbulk t<=N->exT t->∀x env s L,Hyp x env s L (tbulk t) (uN t)->ckE x s t env (E x t env s).1 (E x t env s).2∧Pst L (tbulk t) (uN t) s (E x t env s)
theorem Sg(x:Cx)(i:Nat)(k:Kn)(s:Sv):(knS x i k s).tg=s.tg:=by unfold knS;split<;>rfl
theorem LZ(x:Cx)(i:Nat)(k:Kn)(s:Sv):(knS x i k s).fa=s.fa:=by unfold knS;split<;>rfl
variable{E:Ev}{N:Nat}
theorem dm(J:nH E N)(G:t.kids[i]?=some u)(hb:tbulk u<=N)(hx:exT u)(hy:Hyp x env s L (tbulk u+1)<|uN u):
  ckK x s t i env (aR E x t i env s).1 (aR E x t i env s).2∧Pst L (tbulk u) (uN u) s (aR E x t i env s):=by
 have O:=hy.pa;obtain⟨h1,h2⟩:=J u hb hx (x.go i) env s L ⟨by simp[Cx.go];omega,by have :=hy.fa;omega,hy.tg,by have :=hy.lb;omega,hy.env,hy.sg⟩;have e:aR E x t i env s=AH x i (E (x.go i) u env s):=by unfold aR;rw[dF G]
 rw[e];generalize E (x.go i) u env s=r at h1 h2⊢;obtain⟨k,s'⟩:=r;exact⟨RL G (by omega) h1,h2.k,(Sg _ _ _ _).trans h2.tg,by show(knS x i k s').fa.length+1<=_;rw[LZ];exact h2.fa⟩
theorem fq(x:Cx)(k:Int)(b:YI)(s:Sv):(faP x k b s).fa.length=s.fa.length+1:=by simp[faP]
theorem Tx(a b:Kn)(h1:x.pa.length+1<=1000000000)(h2:s.fa.length+3<=1000000000):ckS x s (a,b) (ur a b) (sF x a b s):=by
 have L4:∀s0:Sv,s0.fa.length+1<=1000000000->∀(w:Bool) (f:Kn),ee 1 (a,b) f.simple f.lists (mkC x s0) w f (mkC x<|if w=false∧aZ a b=true then faP x 6 [1] s0 else s0):=λs0 h0 w f=>by
  refine xc 0 _ _ _ _ _ _ _<|⟨λU=>⟨_,lr a b,λhd=>?_,λhd=>?_⟩,λU=>?_⟩
  ·rw[if_pos ⟨U,hd⟩];exact⟨_,fu (x:=x) (s:=s0) 6 [1] h1 h0,I,I⟩
  ·rw[if_neg (λh=>by rw[hd]at h;cases h.2)];exact⟨I,I⟩
  ·rw[if_neg (λh=>by rw[U]at h;cases h.1)];exact⟨I,I⟩
 have L3:∀s0:Sv,s0.fa.length+2<=1000000000->∀(w:Bool) (f:Kn) (v:Bool),v=okB b->iJ 2 (a,b) (mkC x s0) w f.simple f.lists v (if okB b then(if f.simple=0 then b else f)else f) (mkC x<|if bad b then faP x 4 [1] s0 else if w=false∧aZ a b=true then faP x 6 [1] s0 else s0):=λs0 h0 w f v hv=>by
  refine xn 1 _ _ _ _ _ _ _ _<|⟨λU=>?_,λU=>⟨λZ=>?_,λZ=>?_⟩⟩
  ·have G:okB b=true:=hv▸U;have J:¬(bad b=true):=by simp[bad,G]
   rw[if_neg J,if_pos G];refine⟨λhz=>?_,λhz=>?_⟩
   ·rw[if_pos hz];exact L4 s0 (by omega) w b
   ·rw[if_neg hz];exact L4 s0 (by omega) w f
  ·have O:=Z;simp only at O;have G:okB b=false:=hv▸U;have J:bad b=true:=by simp[bad,G,O]
   rw[if_pos J,if_neg (by rw[G];decide)];have :=L4 (faP x 4 [1] s0) (by rw[fq];omega) true f;rw[if_neg λh=>by cases h.1]at this;exact⟨_,fu (x:=x) (s:=s0) 4 [1] h1 (by omega),this⟩
  ·have O:=Z;simp only at O;have G:okB b=false:=hv▸U;have J:¬(bad b=true):=by simp[bad,G,O]
   rw[if_neg J,if_neg (by rw[G];decide)];exact L4 s0 (by omega) w f
 have L2:∀s0:Sv,s0.fa.length+2<=1000000000->∀(w:Bool) (f:Kn),fU 3 (a,b) (mkC x s0) w f.simple f.lists (if okB b then(if f.simple=0 then b else f)else f) (mkC x<|if bad b then faP x 4 [1] s0 else if w=false∧aZ a b=true then faP x 6 [1] s0 else s0):=λs0 h0 w f=>
  rL2_typing_checker_sum 2 _ _ _ _ _ _ _ (⟨λh=>L3 s0 h0 w f true (by have h':b.simple=5∧b.lists=0:=h;simp[okB,h'.1,h'.2]),λh=>L3 s0 h0 w f _ (by
   by_cases e1:b.simple=5
   ·by_cases e2:b.lists=0
    ·exact absurd ⟨e1,e2⟩ h
    ·simp[okB,e1,e2]
   ·simp[okB,e1])⟩)
 have L1:∀v:Bool,v=okB a->iO 4 (mkC x s) (a,b) v (ur a b) (mkC x<|sF x a b s):=λv hv=>by
  refine xd 3 _ _ _ _ _<|⟨λU=>?_,λU=>⟨λZ=>?_,λZ=>?_⟩⟩
  ·have G:okB a=true:=hv▸U;have J:¬(bad a=true):=by simp[bad,G]
   have :=L2 s (by omega) false a;simp only[true_and]at this;unfold ur sF uZ;rw[if_neg J,if_pos G];exact this
  ·have O:=Z;simp only at O;have G:okB a=false:=hv▸U;have J:bad a=true:=by simp[bad,G,O]
   have :=L2 (faP x 4 [0] s) (by rw[fq];omega) true ⟨0,0⟩;rw[show(if bad b then faP x 4 [1] (faP x 4 [0] s)else if true=false∧aZ a b=true then faP x 6 [1] (faP x 4 [0] s)else faP x 4 [0] s)=(if bad b then faP x 4 [1] (faP x 4 [0] s)else faP x 4 [0] s) by rw[if_neg (c:=true=false∧aZ a b=true) λh=>by cases h.1]]at this;unfold ur sF uZ;rw[if_pos J,if_neg (c:=okB a=true) (by rw[G];decide)];exact⟨_,fu (x:=x) (s:=s) 4 [0] h1 (by omega),this⟩
  ·have O:=Z;simp only at O;have G:okB a=false:=hv▸U;have J:¬(bad a=true):=by simp[bad,G,O]
   have :=L2 s (by omega) false ⟨0,0⟩;simp only[true_and]at this;unfold ur sF uZ;rw[if_neg J,if_neg (c:=okB a=true) (by rw[G];decide)];exact this
 refine yc 5 _ _ _ _ (?_);exact xg 4 _ _ _ _ (⟨λh=>L1 true (by have h':a.simple=5∧a.lists=0:=h;simp[okB,h'.1,h'.2]),λh=>L1 _ (by
  by_cases e1:a.simple=5
  ·by_cases e2:a.lists=0
   ·exact absurd ⟨e1,e2⟩ h
   ·simp[okB,e1,e2]
  ·simp[okB,e1])⟩)
theorem Ur(t:Tree)(a b:Kn)(h1:x.pa.length+1<=1000000000)(h2:s.fa.length+3<=1000000000):iG 4 t a b (mkC x s) (opQ x t.text a (b,s)).1 (mkC x (opQ x t.text a (b,s)).2):=by
 have L3:∀s0:Sv,t.text≠[43]->t.text≠[61,61]->ff 1 t a b (mkC x s0) (if t.text=[60]then⟨7,0⟩else⟨5,0⟩) (mkC x s0):=λs0 _ _=>
  rL3_typing_checker_operation 0 _ _ _ _ _ _ (⟨λh=>by rw[if_pos h];exact⟨rfl,rfl⟩,λh=>by rw[if_neg h];exact⟨rfl,rfl⟩⟩)
 have L2:∀s0:Sv,s0.fa.length+1<=1000000000->t.text≠[43]->t.text≠[61,61]->fh 2 t a b (mkC x s0) (if t.text=[60]then⟨7,0⟩else⟨5,0⟩) (mkC x<|if aZ b ⟨5,0⟩then faP x 4 [1] s0 else s0):=λs0 J n1 G=>
  rL2_typing_checker_operation 1 _ _ _ _ _ _ (⟨_,lr b ⟨5,0⟩,λh=>by rw[if_pos h];exact⟨_,fu (x:=x) (s:=s0) 4 [1] h1 J,L3 _ n1 G⟩,λh=>by rw[if_neg (c:=aZ b ⟨5,0⟩=true) (by rw[h];decide)];exact L3 _ n1 G⟩)
 refine tm 3 _ _ _ _ _ _<|⟨λh=>?_,λn1=>⟨λh=>?_,λG=>?_⟩⟩
 ·rw[show opQ x t.text a (b,s)=(ur a b,sF x a b s)from if_pos h];exact⟨_,_,Tx (x:=x) (s:=s) a b h1 h2,I,I⟩
 ·rw[show opQ x t.text a (b,s)=(⟨7,0⟩,if aZ a b then faP x 6 [1] s else s)from(if_neg n1).trans (if_pos h)];refine⟨_,lr a b,λh=>?_,λh=>?_⟩
  ·rw[if_pos h];exact⟨_,fu (x:=x) (s:=s) 6 [1] h1 (by omega),rfl,rfl⟩
  ·rw[if_neg (by rw[h];decide)];exact⟨rfl,rfl⟩
 ·rw[show opQ x t.text a (b,s)=(if t.text=[60]then⟨7,0⟩else⟨5,0⟩,zt x a b s)from(if_neg n1).trans (if_neg G)];refine tj 2 _ _ _ _ _ _ (⟨_,lr a ⟨5,0⟩,λh=>?_,λh=>?_⟩)
  ·have :=L2 (faP x 4 [0] s) (by rw[fq];omega) n1 G;unfold zt;rw[if_pos (c:=aZ a ⟨5,0⟩=true) h];exact⟨_,fu (x:=x) (s:=s) 4 [0] h1 (by omega),this⟩
  ·have :=L2 s (by omega) n1 G;unfold zt;rw[if_neg (c:=aZ a ⟨5,0⟩=true) (by rw[h];decide)];exact this
variable{a:Kn}
theorem Ss{b:Kn}(G:KOk L a)(hb:KOk L b):KOk L (ur a b):=by
 have h1:KOk L (uZ a):=by unfold uZ;split;exact G;exact ux 0
 unfold ur;split
 ·split
  ·exact hb
  ·exact h1
 ·exact h1
theorem PK(x:Cx)(a b:Kn)(s:Sv):(sF x a b s).tg=s.tg∧(sF x a b s).fa.length<=s.fa.length+2:=by
 unfold sF
 repeat' split
 all_goals exact⟨rfl,by first|(simp only[fq];omega)|omega⟩
theorem QQ(x:Cx)(a b:Kn)(s:Sv):(zt x a b s).tg=s.tg∧(zt x a b s).fa.length<=s.fa.length+2:=by
 unfold zt
 repeat' split
 all_goals exact⟨rfl,by first|(simp only[fq];omega)|omega⟩
theorem Rl{w:YB}{b:Kn}(G:KOk L a)(hb:KOk L b):KOk L (opQ x w a (b,s)).1∧(opQ x w a (b,s)).2.tg=s.tg∧(opQ x w a (b,s)).2.fa.length<=s.fa.length+2:=by
 by_cases h1:w=[43]
 ·rw[show opQ x w a (b,s)=(ur a b,sF x a b s)from if_pos h1];exact⟨Ss G hb,PK x a b s⟩
 ·by_cases h2:w=[61,61]
  ·rw[show opQ x w a (b,s)=(⟨7,0⟩,if aZ a b then faP x 6 [1] s else s)from(if_neg h1).trans (if_pos h2)];refine⟨ux _,?_⟩;simp only[];split
   ·exact⟨I,by rw[fq];omega⟩
   ·exact⟨I,by omega⟩
  ·rw[show opQ x w a (b,s)=(if w=[60]then⟨7,0⟩else⟨5,0⟩,zt x a b s)from(if_neg h1).trans (if_neg h2)];refine⟨?_,QQ x a b s⟩;simp only[];split<;>exact ux _
theorem EQ(h:t.kids.length=2):∃a b,t.kids=[a,b]:=by
 match e:t.kids,h with
 |[a,b],_=>exact⟨a,b,rfl⟩
theorem Pl(h:t.kids.length=3):∃a b c,t.kids=[a,b,c]:=by
 match e:t.kids,h with
 |[a,b,c],_=>exact⟨a,b,c,rfl⟩
theorem Ba(h:t.kids.length=1):∃a,t.kids=[a]:=by
 match e:t.kids,h with
 |[a],_=>exact⟨a,rfl⟩
theorem tl{s1:Sv}{u u' v:Nat}(h:s1.tg=s.tg.drop u)(G:u+u'<=v)(hv:v<=s.tg.length):u'<=s1.tg.length:=by rw[h,aak];omega
theorem NI(J:nH E N)(hb:tbulk t<=N+1)(hx:exT t)(O:t.kind=21)(hy:Hyp x env s L (tbulk t)<|uN t):
  ckO x s t env (zy E x t env<|aR E x t 0 env s).1 (zy E x t env<|aR E x t 0 env s).2∧Pst L (tbulk t) (uN t) s (zy E x t env<|aR E x t 0 env s):=by
 obtain⟨a,b,e⟩:=EQ<|(ro hx).2.2.2 O;have U:t.kids[0]?=some a:=by rw[e];rfl
 have G:t.kids[1]?=some b:=by rw[e];rfl
 have Z:=aQ t;rw[e]at Z;simp only[kbulk]at Z;have hU:uN t=uN a+uN b:=by rw[hJ,e,O];simp[uNs]
 have p0:=hy.pa;have p1:=hy.fa;have p2:=hy.tg;have p3:=hy.lb;obtain⟨A1,A2⟩:=dm J (s:=s) (env:=env) (x:=x) (L:=L) U (by omega) (cS hx U<|by omega).1 (hy.to (by omega) (by omega)<|by omega);generalize aR E x t 0 env s=r at A1 A2⊢;obtain⟨k1,s1⟩:=r;have q1:=A2.fa;simp only at q1;obtain⟨B1,B2⟩:=dm J (s:=s1) (env:=env) (x:=x) (L:=L) G (by omega) (cS hx G<|by omega).1 (hy.to (by omega) (by omega)<|tl (v:=uN t) A2.tg (by omega) p2);show ckO x s t env (opQ x t.text k1<|aR E x t 1 env s1).1 (opQ x t.text k1<|aR E x t 1 env s1).2∧Pst L (tbulk t) (uN t) s (opQ x t.text k1<|aR E x t 1 env s1);generalize aR E x t 1 env s1=r at B1 B2⊢;obtain⟨k2,s2⟩:=r;have q2:=B2.fa;simp only at q2;refine⟨um 4 _ _ _ _ _ (⟨_,_,A1,_,_,B1,Ur (x:=x) (s:=s2) t k1 k2 (by omega)<|by omega⟩),?_⟩;obtain⟨g1,g2,g3⟩:=Rl (x:=x) (w:=t.text) (s:=s2) (a:=k1) (b:=k2) (L:=L+tbulk t) (A2.k.mono<|by omega) (B2.k.mono<|by omega);exact⟨g1,by rw[g2,B2.tg,A2.tg,List.drop_drop,hU],by omega⟩
theorem QF(hE:nH E N)(hb:tbulk t<=N+1)(hx:exT t)(hk:t.kind=19)(hy:Hyp x env s L (tbulk t)<|uN t):
  ckB x s t env (ifP E x t env s).1 (ifP E x t env s).2∧Pst L (tbulk t) (uN t) s (ifP E x t env s):=by
 obtain⟨a,b,c,e⟩:=Pl<|(ro hx).2.2.1 hk;have ha:t.kids[0]?=some a:=by rw[e];rfl
 have hb':t.kids[1]?=some b:=by rw[e];rfl
 have hc:t.kids[2]?=some c:=by rw[e];rfl
 have hB:=aQ t;rw[e]at hB;simp only[kbulk]at hB;have hU:uN t=uN a+uN b+uN c:=by rw[hJ,e,hk];simp[uNs];omega
 have p0:=hy.pa;have p1:=hy.fa;have p2:=hy.tg;have p3:=hy.lb;obtain⟨A1,A2⟩:=dm hE (s:=s) (env:=env) (x:=x) (L:=L) ha (by omega) (cS hx ha<|by omega).1 (hy.to (by omega) (by omega)<|by omega);unfold ifP;generalize aR E x t 0 env s=r at A1 A2⊢;obtain⟨k1,s1⟩:=r;have q1:=A2.fa;simp only at q1;obtain⟨G,Z⟩:∃G,G=ifS x (k1,s1):=⟨_,rfl⟩;have f1:G.tg=s1.tg∧G.fa.length<=s1.fa.length+1:=by
  rw[Z];unfold ifS;simp only[];split
  ·exact⟨I,by rw[fq];omega⟩
  ·exact⟨I,by omega⟩
 rw[<-Z];obtain⟨B1,B2⟩:=dm hE (s:=G) (env:=env) (x:=x) (L:=L) hb' (by omega) (cS hx hb'<|by omega).1 (hy.to (by omega) (by omega)<|tl (v:=uN t) (f1.1.trans A2.tg) (by omega) p2);generalize aR E x t 1 env G=r at B1 B2⊢;obtain⟨J,s2⟩:=r;have q2:=B2.fa;simp only at q2;have hd2:s2.tg=s.tg.drop (uN a+uN b):=by have :=B2.tg;simp only at this;rw[this,f1.1,A2.tg,List.drop_drop]
 obtain⟨C1,C2⟩:=dm hE (s:=s2) (env:=env) (x:=x) (L:=L) hc (by omega) (cS hx hc<|by omega).1 (hy.to (by omega) (by omega)<|tl (v:=uN t) hd2 (by omega) p2);show ckB x s t env (ifQ x J<|aR E x t 2 env s2).1 (ifQ x J<|aR E x t 2 env s2).2∧Pst L (tbulk t) (uN t) s (ifQ x J<|aR E x t 2 env s2);generalize aR E x t 2 env s2=r at C1 C2⊢;obtain⟨O,U⟩:=r;have q3:=C2.fa;simp only at q3;have hd3:U.tg=s.tg.drop (uN t):=by have :=C2.tg;simp only at this;rw[this,hd2,List.drop_drop,hU]
 have fin:fD 1 t env (mkC x G) (ifQ x J (O,U)).1 (mkC x (ifQ x J (O,U)).2):=by
  refine uf 0 _ _ _ _ _<|⟨_,_,B1,_,_,C1,_,lr J O,λh=>?_,λh=>?_⟩
  ·rw[show ifQ x J (O,U)=(if J.simple=0 then O else J,if aZ J O then faP x 6 [2] U else U)from rfl];rw[if_pos (c:=aZ J O=true) h];refine⟨_,fu (x:=x) (s:=U) 6 [2] (by simp;omega) (by omega),λhz=>?_,λhz=>?_⟩
   ·rw[if_pos hz];exact⟨rfl,rfl⟩
   ·rw[if_neg hz];exact⟨rfl,rfl⟩
  ·rw[show ifQ x J (O,U)=(if J.simple=0 then O else J,if aZ J O then faP x 6 [2] U else U)from rfl];rw[if_neg (c:=aZ J O=true) (by rw[h];decide)];refine⟨λhz=>?_,λhz=>?_⟩
   ·rw[if_pos hz];exact⟨rfl,rfl⟩
   ·rw[if_neg hz];exact⟨rfl,rfl⟩
 refine⟨uy 1 _ _ _ _ _<|⟨_,_,A1,_,lr k1 ⟨7,0⟩,λh=>?_,λh=>?_⟩,?_⟩
 ·have e1:G=faP x 4 [0] s1:=Z.trans<|if_pos h;rw[e1]at fin;exact⟨_,fu (x:=x) (s:=s1) 4 [0] (by simp;omega) (by omega),fin⟩
 ·have e1:G=s1:=Z.trans (if_neg (by rw[h];decide));rw[e1]at fin;exact fin
 ·refine⟨?_,?_,?_⟩<;>unfold ifQ<;>simp only[]
  ·split
   ·exact C2.k.mono (by omega)
   ·exact B2.k.mono (by omega)
  ·split<;>exact hd3
  ·split
   ·rw[fq];omega
   ·omega
theorem JW{E:Ev}{N:Nat}(hE:nH E N){x:Cx}{env:Env}{L M:Nat}{t:Tree}(hkl:t.kids.length<=1000000000)(ht:∀(i:Nat) (u:Tree),t.kids[i]?=some u->tbulk u<=N∧tbulk u<=M∧exT u):∀(n i:Nat) (f:Kn) (s:Sv),n+i=t.kids.length->KOk (L+M) f->Hyp x env s L (kbulk (t.kids.drop i)+1) (uNs<|t.kids.drop i)->L+M<=900000000->
  L0_typing_checker_list (n+1) t env (mkC x s) f.simple f.lists i (jE<|jS E x t env n i (f,s)).1 (mkC x (jE<|jS E x t env n i (f,s)).2)∧
  KOk (L+M+1) (jE<|jS E x t env n i (f,s)).1∧(jE<|jS E x t env n i (f,s)).2.tg=s.tg.drop (uNs<|t.kids.drop i)∧(jE<|jS E x t env n i (f,s)).2.fa.length<=s.fa.length+4*kbulk (t.kids.drop i)
 | 0,i,f,s,hn,hf,hy,hl=>by
  have h0:=hf.1;have h1:=hf.2;have hd:t.kids.drop i=[]:=List.drop_of_length_le (by omega);rw[show jS E x t env 0 i (f,s)=(f,s)from rfl];refine⟨pz 0 _ _ _ _ _ _ _ _ (⟨λh=>absurd h (by omega),λ_=>⟨λhz=>?_,λhz=>?_⟩⟩),?_,?_,?_⟩
  ·rw[show jE (f,s)=(⟨f.simple,f.lists+1⟩,s) by unfold jE;simp only[if_neg hz]];exact⟨⟨by omega,by omega⟩,I,I⟩
  ·rw[show jE (f,s)=(f,s) by unfold jE;simp only[if_pos hz]];exact⟨I,I⟩
  ·show KOk (L+M+1) (if f.simple=0 then f else⟨f.simple,f.lists+1⟩);split
   ·exact hf.mono (by omega)
   ·exact⟨by simp only[];omega,by simp only[];omega⟩
  ·rw[hd];simp[uNs,jE]
  ·rw[hd];simp[jE]
 | n+1,i,f,s,hn,hf,hy,hl=>by
  have hlt:i<t.kids.length:=by omega
  obtain⟨u,hu⟩:∃u,t.kids[i]?=some u:=⟨_,fV hlt⟩;have hd:=aK hu;obtain⟨b1,b2,b3⟩:=ht i u hu;have p1:=hy.pa;have p2:=hy.fa;have p3:=hy.tg;have p4:=hy.lb;rw[hd]at p1 p2 p3 p4 hy⊢;simp only[kbulk,uNs]at p1 p2 p3 p4 hy⊢;obtain⟨A1,A2⟩:=dm hE (s:=s) (env:=env) (x:=x) (L:=L) hu b1 b3 (hy.to (by omega) (by omega)<|by omega);rw[show jS E x t env (n+1) i (f,s)=jS E x t env n (i+1) (DE x i f<|aR E x t i env s)from rfl];generalize aR E x t i env s=r at A1 A2⊢;obtain⟨k,s1⟩:=r;have q1:=A2.fa;have q2:=A2.tg;have q3:=A2.k;simp only at q1 q2 q3;obtain⟨f1,hf1⟩:∃f1,f1=if f.simple=0 then k else f:=⟨_,rfl⟩
  have hk1:KOk (L+M) f1:=by
   rw[hf1];split
   ·exact q3.mono (by omega)
   ·exact hf
  have next:∀s2:Sv,s2.tg=s1.tg->s2.fa.length<=s1.fa.length+1->Hyp x env s2 L (kbulk (t.kids.drop<|i+1)+1) (uNs<|t.kids.drop<|i+1):=λs2 e1 e2=>
   hy.to (by omega) (by omega) (by rw[e1,q2,aak];omega)
  rw[show DE x i f (k,s1)=(if f.simple=0 then k else f,if aZ k (if f.simple=0 then k else f)then faP x 6 [(i:Int)] s1 else s1)from rfl,<-hf1];have fin:∀s2:Sv,s2.tg=s1.tg->s2.fa.length<=s1.fa.length+1->KOk (L+M+1) (jE<|jS E x t env n (i+1) (f1,s2)).1∧(jE<|jS E x t env n (i+1) (f1,s2)).2.tg=s.tg.drop (uN u+uNs (t.kids.drop<|i+1))∧(jE<|jS E x t env n (i+1) (f1,s2)).2.fa.length<=s.fa.length+4*(tbulk u+kbulk (t.kids.drop<|i+1)):=λs2 e1 e2=>by obtain⟨_,g2,g3,g4⟩:=JW hE hkl ht n (i+1) f1 s2 (by omega) hk1 (next s2 e1 e2) hl;exact⟨g2,by rw[g3,e1,q2,List.drop_drop],by omega⟩
  have run:∀s2:Sv,s2.tg=s1.tg->s2.fa.length<=s1.fa.length+1->_:=λs2 e1 e2=>(JW hE hkl ht n (i+1) f1 s2 (by omega) hk1 (next s2 e1 e2) hl).1;refine⟨pz (n+1) _ _ _ _ _ _ _ _<|⟨λ_=>⟨_,_,A1,λhz=>⟨_,lr k k,λh=>?_,λh=>?_⟩,λhz=>⟨_,lr k f,λh=>?_,λh=>?_⟩⟩,λh=>absurd hlt h⟩,?_⟩
  ·have e:f1=k:=hf1.trans<|if_pos hz;rw[e]at run⊢;rw[if_pos (c:=aZ k k=true) h];exact⟨_,fu (x:=x) (s:=s1) 6 [(i:Int)] (by simp;omega) (by omega),by omega,run _ rfl (by rw[fq];omega)⟩
  ·have e:f1=k:=hf1.trans<|if_pos hz;rw[e]at run⊢;rw[if_neg (c:=aZ k k=true) (by rw[h];decide)];exact⟨by omega,run s1 I<|by omega⟩
  ·have e:f1=f:=hf1.trans<|if_neg hz;rw[e]at run⊢;rw[if_pos (c:=aZ k f=true) h];exact⟨_,fu (x:=x) (s:=s1) 6 [(i:Int)] (by simp;omega) (by omega),by omega,run _ rfl (by rw[fq];omega)⟩
  ·have e:f1=f:=hf1.trans<|if_neg hz;rw[e]at run⊢;rw[if_neg (c:=aZ k f=true) (by rw[h];decide)];exact⟨by omega,run s1 I<|by omega⟩
  ·split
   ·exact fin _ I (by rw[fq];omega)
   ·exact fin _ I (by omega)
theorem FC{E:Ev}{N:Nat}(hE:nH E N){x:Cx}{env:Env}{L:Nat}{t:Tree}(ps:List Kn)(z1 z2:Int)(hkl:t.kids.length<=1000000000)(ht:∀(i:Nat) (a:Tree),t.kids[i]?=some a->∃u,a.kids[0]?=some u∧tbulk u<tbulk a∧tbulk u<=N∧exT u∧uN a=uN u):∀(n i:Nat) (s:Sv),n+i=t.kids.length->x.pa.length+kbulk (t.kids.drop i)+1<=100000000->Hyp x env s L (kbulk<|t.kids.drop i) (uNs<|t.kids.drop i)->
  L0_typing_checker_call (n+1) t env (mkC x s) ps z1 z2 i ⟨z1,z2⟩ (mkC x<|jW E x ps env (t.kids.drop i) i s)∧
  (jW E x ps env (t.kids.drop i) i s).tg=s.tg.drop (uNs<|t.kids.drop i)∧(jW E x ps env (t.kids.drop i) i s).fa.length<=s.fa.length+4*kbulk (t.kids.drop i)
 |0,i,s,hn,hpa,hy=>by have hd:t.kids.drop i=[]:=List.drop_of_length_le (by omega);rw[hd];exact⟨pr 0 _ _ _ _ _ _ _ _ _ (⟨λh=>absurd h (by omega),λ_=>⟨rfl,rfl⟩⟩),by simp[uNs,jW],by simp[jW]⟩
 | n +1,i,s,hn,hpa,hy=>by
  have hlt:i<t.kids.length:=by omega
  obtain⟨a,ha⟩:∃a,t.kids[i]?=some a:=⟨_,fV hlt⟩;have hd:=aK ha;obtain⟨u,hu,b1,b2,b3,b4⟩:=ht i a ha;have p1:=hy.pa;have p2:=hy.fa;have p3:=hy.tg;have p4:=hy.lb;rw[hd]at p1 p2 p3 p4 hy hpa⊢;simp only[kbulk,uNs]at p1 p2 p3 p4 hy hpa⊢;obtain⟨A1,A2⟩:=dm hE (s:=s) (env:=env) (x:=x.go i) (L:=L) hu b2 b3 ⟨by simp[Cx.go];omega,by omega,by omega,by omega,hy.env,hy.sg⟩;rw[show jW E x ps env (a::t.kids.drop (i+1)) i s=jW E x ps env (t.kids.drop<|i+1) (i+1) (uC x ps i<|aR E (x.go i) a 0 env s)from rfl];generalize aR E (x.go i) a 0 env s=r at A1 A2⊢;obtain⟨k,s1⟩:=r;have q1:=A2.fa;have q2:=A2.tg;simp only at q1 q2;have next:∀s2:Sv,s2.tg=s1.tg->s2.fa.length<=s1.fa.length+1->Hyp x env s2 L (kbulk<|t.kids.drop<|i+1) (uNs<|t.kids.drop<|i+1):=λs2 e1 e2=>
   hy.to (by omega) (by omega) (by rw[e1,q2,aak];omega)
  have fin:∀s2:Sv,s2.tg=s1.tg->s2.fa.length<=s1.fa.length+1->(jW E x ps env (t.kids.drop<|i+1) (i+1) s2).tg=s.tg.drop (uN a+uNs (t.kids.drop<|i+1))∧(jW E x ps env (t.kids.drop<|i+1) (i+1) s2).fa.length<=s.fa.length+4*(tbulk a+kbulk (t.kids.drop<|i+1)):=λs2 e1 e2=>by
   obtain⟨_,g3,g4⟩:=FC hE ps z1 z2 hkl ht n (i+1) s2 (by omega) (by omega)<|next s2 e1 e2;exact⟨by rw[g3,e1,q2,List.drop_drop,b4],by omega⟩
  have run:∀s2:Sv,s2.tg=s1.tg->s2.fa.length<=s1.fa.length+1->_:=λs2 e1 e2=>(FC hE ps z1 z2 hkl ht n (i+1) s2 (by omega) (by omega)<|next s2 e1 e2).1;refine⟨pr (n+1) _ _ _ _ _ _ _ _ _ (⟨λ_=>⟨a,ha,_,lZ (x:=x) (s:=s) (i:Int) (by omega),_,_,A1,_,kA (x:=x) (s:=s1) (i:Int),λhi=>?_,λhi=>⟨by omega,?_⟩⟩,λh=>absurd hlt h⟩),?_⟩
  ·obtain⟨q,hq⟩:∃q,ps[i]?=some q:=⟨ps[i],List.getElem?_eq_getElem hi⟩;rw[show uC x ps i (k,s1)=if aZ k q then faP x 4 [(i:Int),0] s1 else s1 by unfold uC;simp only[hq]];refine⟨q,hq,_,lr k q,λh=>?_,λh=>?_⟩
   ·rw[if_pos h];exact⟨_,fu (x:=x) (s:=s1) 4 [(i:Int),0] (by simp;omega) (by omega),run _ rfl (by rw[fq];omega)⟩
   ·rw[if_neg (by rw[h];decide)];exact run s1 I (by omega)
  ·have hq:ps[i]?=none:=List.getElem?_eq_none (by omega);rw[show uC x ps i (k,s1)=s1 by unfold uC;simp only[hq]];exact run s1 I (by omega)
  ·have e:∀r,uC x ps i (k,s1)=r->r.tg=s1.tg∧r.fa.length<=s1.fa.length+1:=λr hr=>by
    subst hr;unfold uC;simp only[];split
    ·split
     ·exact⟨I,by rw[fq];omega⟩
     ·exact⟨I,by omega⟩
    ·exact⟨I,by omega⟩
   exact fin _ (e _ I).1 (e _ I).2
theorem ML(hE:nH E N)(hb:tbulk t<=N+1)(hx:exT t)(hk:t.kind=16)(hy:Hyp x env s L (tbulk t)<|uN t):
  ckC x s t env (qy E x t env s).1 (qy E x t env s).2∧Pst L (tbulk t) (uN t) s (qy E x t env s):=by
 have hB:=aQ t;have hU:uN t=1+uNs t.kids:=by rw[hJ,hk];simp
 have p1:=hy.pa;have p2:=hy.fa;have p3:=hy.tg;have p4:=hy.lb;have hkl:=bt t;have ht:∀(i:Nat) (a:Tree),t.kids[i]?=some a->∃u,a.kids[0]?=some u∧tbulk u<tbulk a∧tbulk u<=N∧exT u∧uN a=uN u:=λi a ha=>by
  obtain⟨h1,h2,h3⟩:=DH hx ha hk;obtain⟨u,e⟩:=Ba h2;have hu:a.kids[0]?=some u:=by rw[e];rfl
  have h4:=aE hu;have h5:=aE ha;rw[dF hu]at h3;exact⟨u,hu,h4,by omega,h3,by rw[hJ a,h1,e];simp[uNs]⟩
 obtain⟨g,hg⟩:∃g,g=s.tg.headD noT:=⟨_,rfl⟩;have O:=Po (x:=x) (s:=s) (by omega);rw[<-hg]at O;obtain⟨q,U⟩:∃q,q=qz x g:=⟨_,rfl⟩;have hqr:KOk L q.result:=by
  rw[U];unfold qz;split
  ·exact ux 0
  ·cases Z:aI (g.Module,g.Def) x.sg with
   |none=>exact ux 0
   |some d=>exact hy.sg _ d Z
 obtain⟨s1,J⟩:∃s1,s1=vd x t g q (cd s):=⟨_,rfl⟩;have f1:s1.tg=s.tg.drop 1∧s1.fa.length<=s.fa.length+1:=by
  rw[J];unfold vd;split
  ·exact⟨rfl,by rw[fq];simp[cd]⟩
  ·split
   ·exact⟨rfl,by simp[cd]⟩
   ·exact⟨rfl,by rw[fq];simp[cd]⟩
 have e0:qy E x t env s=(q.result,jW E x q.params env t.kids 0 s1):=by rw[J,U,hg];rfl
 obtain⟨A1,A2,A3⟩:=FC hE (x:=x) (env:=env) (L:=L) (t:=t) q.params q.result.simple q.result.lists (by omega) ht t.kids.length 0 s1 (by omega) (by simp;omega) (hy.to (by simp;omega) (by simp;omega) (by rw[f1.1,aak];simp;omega));simp only[List.drop_zero]at A1 A2 A3;rw[e0];refine⟨xO (t.kids.length+1) _ _ _ _ _<|⟨_,_,O,λh=>?_,λh=>⟨λZ=>⟨λhn=>?_,λhn=>?_⟩,λd Z=>⟨λhn=>?_,λhn=>?_⟩⟩⟩,?_⟩
 ·have eq:q=⟨[],⟨0,0⟩⟩:=U.trans<|if_pos h;have es:s1=faP x 1 [] (cd s):=J.trans<|if_pos h;rw[es,eq]at A1;rw[es,eq];exact⟨_,fu (x:=x) (s:=cd s) 1 [] (by simp;omega) (by simp[cd];omega),A1⟩
 ·have eq:q=⟨[],⟨0,0⟩⟩:=U.trans ((if_neg (by rw[h];decide)).trans (by have G:=Z;simp only[mkC]at G;rw[G];rfl));have es:s1=faP x 3 [] (cd s):=J.trans ((if_neg (by rw[h];decide)).trans<|if_neg (by rw[eq];intro e;have e':0=t.kids.length:=e;exact hn<|by omega));rw[es,eq]at A1;rw[es,eq];exact⟨_,fu (x:=x) (s:=cd s) 3 [] (by simp;omega) (by simp[cd];omega),A1⟩
 ·have eq:q=⟨[],⟨0,0⟩⟩:=U.trans ((if_neg (by rw[h];decide)).trans (by have G:=Z;simp only[mkC]at G;rw[G];rfl));have es:s1=cd s:=J.trans ((if_neg (by rw[h];decide)).trans<|if_pos (by rw[eq];show 0=t.kids.length;omega));rw[es,eq]at A1;rw[es,eq];exact A1
 ·have eq:q=d:=U.trans ((if_neg (by rw[h];decide)).trans (by have G:=Z;simp only[mkC]at G;rw[G];rfl));have es:s1=faP x 3 [] (cd s):=J.trans ((if_neg (by rw[h];decide)).trans<|if_neg (by rw[eq];exact hn));rw[es,eq]at A1;rw[es,eq];exact⟨_,fu (x:=x) (s:=cd s) 3 [] (by simp;omega) (by simp[cd];omega),A1⟩
 ·have eq:q=d:=U.trans ((if_neg (by rw[h];decide)).trans (by have G:=Z;simp only[mkC]at G;rw[G];rfl));have es:s1=cd s:=J.trans ((if_neg (by rw[h];decide)).trans<|if_pos (by rw[eq];exact hn));rw[es,eq]at A1;rw[es,eq];exact A1
 ·exact⟨hqr.mono (by omega),by simp only[];rw[A2,f1.1,List.drop_drop,hU],by simp only[];omega⟩
theorem Mj(hE:nH E N):nH (bH E) (N+1):=λt hb hx x env s L hy=>by
 have p1:=hy.pa;have p2:=hy.fa;have p3:=hy.tg;have p4:=hy.lb;have hB:=aQ t;have leaf:∀z:Int,uN t=uN t->Pst L (tbulk t) 0 s (⟨z,0⟩,s):=λz _=>⟨ux _,by simp,by simp only[];omega⟩;have hkl:=bt t;have run:∀(b:Bool) (k:Kn) (s':Sv),eP 1 (mkC x s) t env b k (mkC x s')->t.kind≠10->t.kind≠11->(b=true↔t.kind=13∨t.kind=14)->ckE x s t env k s':=λb k s' h n1 n2 hb=>by
  refine il 1 _ _ _ _ _<|⟨λh=>absurd h n1,λ_=>⟨λh=>absurd h n2,λ_=>⟨λh13=>?_,λh13=>?_⟩⟩⟩
  ·have :b=true:=hb.2 (.inl h13);subst this;exact h
  ·have :b=(t.kind==14):=by
    by_cases h14:t.kind=14
    ·rw[hb.2 (.inr h14)];simp[h14]
    ·have :b≠true:=λe=>(hb.1 e).elim h13 h14;simp[this,h14]
   subst this;exact h
 have hk:=hx.2;have hk':10<=t.kind∧t.kind<=22∧t.kind≠17:=by simpa[dT]using hk
 have leafU:10<=t.kind->t.kind<=15->uN t=0:=λh1 h2=>by
  have hs:=hx.1;rw[cc]at hs;simp only[aaa,aas]at hs;have hl:=hs.1.1;have h0:(t.kids.length:Int)<=0:=by
   have :t.kind=10∨t.kind=11∨t.kind=12∨t.kind=13∨t.kind=14∨t.kind=15:=by omega
   rcases this with e|e|e|e|e|e<;>(rw[e]at hl;exact(uo (show 0<=f0 t.kids.length 0 1 0 0 from hl)).2 (by omega))
  have h3:t.kids=[]:=List.length_eq_zero_iff.1 (by omega);rw[hJ,h3,if_neg<|by omega];simp[uNs]
 have drp:∀k,KOk (L+tbulk t) k->bH E x t env s=(k,s)->uN t=0->Pst L (tbulk t) (uN t) s (bH E x t env s):=λk h1 h2 h3=>by rw[h2,h3];exact⟨h1,by simp,by simp only[];omega⟩
 by_cases h:t.kind=10
 ·have e:bH E x t env s=(⟨5,0⟩,s):=by simp[bH,h]
  refine⟨?_,drp _ (ux _) e<|leafU (by omega)<|by omega⟩;rw[e];exact il 0 _ _ _ _ _<|⟨λ_=>⟨I,I⟩,λh'=>absurd h h'⟩
 by_cases h:t.kind=11
 ·have e:bH E x t env s=(⟨6,0⟩,s):=by simp[bH,h]
  refine⟨?_,drp _ (ux _) e<|leafU (by omega)<|by omega⟩;rw[e];exact il 0 _ _ _ _ _ (⟨λh'=>absurd h' (by omega),λ_=>⟨λ_=>⟨I,I⟩,λh'=>absurd h h'⟩⟩)
 by_cases h:t.kind=13∨t.kind=14
 ·have e:bH E x t env s=(⟨7,0⟩,s):=by rcases h with h|h<;>simp[bH,h]
  refine⟨?_,drp _ (ux _) e<|leafU (by omega)<|by omega⟩;rw[e];exact run true _ _ (bp 0 _ _ _ _ _ _<|⟨λ_=>⟨rfl,rfl⟩,λh'=>(by cases h')⟩) (by omega) (by omega) ⟨λ_=>h,λ_=>rfl⟩
 by_cases h:t.kind=12
 ·have e:bH E x t env s=uu x s (jI t.text env):=by simp[bH,h]
  have h0:=leafU (by omega) (by omega);have v:=Tn (x:=x) (s:=s) t env (by omega) (by omega);rw[e];refine⟨run false _ _ (bp 0 _ _ _ _ _ _<|⟨λh'=>(by cases h'),λ_=>⟨λ_=>⟨_,_,v,rfl,rfl⟩,λh'=>absurd h h'⟩⟩) (by omega) (by omega) (by constructor<;>intro h'<;>first|(cases h';done)|omega),?_⟩;cases hv:jI t.text env with
  |none=>exact⟨ux _,by rw[h0];simp[uu,faP],by show(faP x 1 [] s).fa.length+1<=_;rw[fq];omega⟩
  | some k=>
   have :∀l:Env,jI t.text l=some k->∃b∈l,b.typ=k:=λl=>by
    induction l with
    |nil=>intro h;cases h
    |cons b r ih=>
     intro hh;unfold jI at hh;split at hh
     ·injection hh with hh;exact⟨b,List.mem_cons_self,hh⟩
     ·obtain⟨c,c1,c2⟩:=ih hh;exact⟨c,List.mem_cons_of_mem _ c1,c2⟩
   obtain⟨b,hb1,hb2⟩:=this env hv;exact⟨by show KOk _ k;rw[<-hb2];exact(hy.env b hb1).mono (by omega),by rw[h0];simp[uu],by simp only[uu];omega⟩
 by_cases h:t.kind=16
 ·have e:bH E x t env s=qy E x t env s:=by simp[bH,h]
  obtain⟨c1,c2⟩:=ML hE hb hx h hy;rw[e];exact⟨run false _ _ (bp 0 _ _ _ _ _ _<|⟨λh'=>(by cases h'),λ_=>⟨λh'=>absurd h' (by omega),λ_=>⟨λ_=>⟨_,_,c1,rfl,rfl⟩,λh'=>absurd h h'⟩⟩⟩) (by omega) (by omega) (by constructor<;>intro h'<;>first|(cases h';done)|omega),c2⟩
 by_cases h:t.kind=18
 ·have e:bH E x t env s=jE (jS E x t env t.kids.length 0 (⟨0,0⟩,s)):=by simp[bH,h]
  have hU:uN t=uNs t.kids:=by rw[hJ,h];simp
  obtain⟨c1,c2,c3,c4⟩:=JW hE (x:=x) (env:=env) (L:=L) (M:=kbulk t.kids) (t:=t) (by omega) (λi u hu=>by have h1:=aE hu;exact⟨by omega,bn hu,(cS hx hu (by omega)).1⟩) t.kids.length 0 ⟨0,0⟩ s (by omega) (ux _) (hy.to (by simp;omega) (by simp;omega) (by simp;omega)) (by omega)
  simp only[List.drop_zero]at c3 c4;rw[e];refine⟨run false _ _ (bp 0 _ _ _ _ _ _<|⟨λh'=>(by cases h'),λ_=>⟨λh'=>absurd h' (by omega),λ_=>⟨λh'=>absurd h' (by omega),λ_=>⟨λ_=>⟨_,_,xf (t.kids.length+1) _ _ _ _ _<|c1,rfl,rfl⟩,λh'=>absurd h h'⟩⟩⟩⟩) (by omega) (by omega) (by constructor<;>intro h'<;>first|(cases h';done)|omega),c2.mono (by omega),by rw[c3,hU],by omega⟩
 by_cases h:t.kind=19
 ·have e:bH E x t env s=ifP E x t env s:=by simp[bH,h]
  obtain⟨c1,c2⟩:=QF hE hb hx h hy;rw[e];exact⟨run false _ _ (bp 0 _ _ _ _ _ _<|⟨λh'=>(by cases h'),λ_=>⟨λh'=>absurd h' (by omega),λ_=>⟨λh'=>absurd h' (by omega),λ_=>⟨λh'=>absurd h' (by omega),λ_=>⟨λ_=>⟨_,_,c1,rfl,rfl⟩,λh'=>absurd h h'⟩⟩⟩⟩⟩) (by omega) (by omega) (by constructor<;>intro h'<;>first|(cases h';done)|omega),c2⟩
 by_cases h:t.kind=20
 ·have e:bH E x t env s=GT E x t env (aR E x t 0 env s):=by simp[bH,h]
  obtain⟨a,b,ek⟩:=EQ<|(ro hx).2.1 h;have ha:t.kids[0]?=some a:=by rw[ek];rfl
  have hb':t.kids[1]?=some b:=by rw[ek];rfl
  rw[ek]at hB;simp only[kbulk]at hB;have hU:uN t=uN a+uN b:=by rw[hJ,ek,h];simp[uNs]
  rw[e];obtain⟨A1,A2⟩:=dm hE (s:=s) (env:=env) (x:=x) (L:=L) ha (by omega) (cS hx ha (by omega)).1 (hy.to (by omega) (by omega) (by omega));generalize aR E x t 0 env s=r at A1 A2⊢;obtain⟨k1,s1⟩:=r;have q1:=A2.fa;have q2:=A2.k;simp only at q1 q2;show ckE x s t env (aR E x t 1 (⟨t.text,k1⟩::env) s1).1 (aR E x t 1 (⟨t.text,k1⟩::env) s1).2∧Pst L (tbulk t) (uN t) s (aR E x t 1 (⟨t.text,k1⟩::env) s1);obtain⟨B1,B2⟩:=dm hE (s:=s1) (env:=⟨t.text,k1⟩::env) (x:=x) (L:=L+tbulk a) hb' (by omega) (cS hx hb' (by omega)).1 ⟨by omega,by omega,tl (v:=uN t) A2.tg (by omega) p3,by omega,λc hc=>by
   rcases List.mem_cons.1 hc with rfl|hc
   ·exact q2
   ·exact(hy.env c hc).mono (by omega),λk g hg=>(hy.sg k g hg).mono (by omega)⟩
  refine⟨run false _ _ (bp 0 _ _ _ _ _ _<|⟨λh'=>(by cases h'),λ_=>⟨λh'=>absurd h' (by omega),λ_=>⟨λh'=>absurd h' (by omega),λ_=>⟨λh'=>absurd h' (by omega),λ_=>⟨λh'=>absurd h' (by omega),λ_=>⟨λ_=>⟨_,_,A1,_,_,B1,rfl,rfl⟩,λh'=>absurd h h'⟩⟩⟩⟩⟩⟩) (by omega) (by omega) (by constructor<;>intro h'<;>first|(cases h';done)|omega),B2.k.mono (by omega),by rw[B2.tg,A2.tg,List.drop_drop,hU],by have :=B2.fa;omega⟩
 by_cases h:t.kind=21
 ·have e:bH E x t env s=zy E x t env (aR E x t 0 env s):=by simp[bH,h]
  obtain⟨c1,c2⟩:=NI hE hb hx h hy;rw[e];exact⟨run false _ _ (bp 0 _ _ _ _ _ _<|⟨λh'=>(by cases h'),λ_=>⟨λh'=>absurd h' (by omega),λ_=>⟨λh'=>absurd h' (by omega),λ_=>⟨λh'=>absurd h' (by omega),λ_=>⟨λh'=>absurd h' (by omega),λ_=>⟨λh'=>absurd h' (by omega),λ_=>⟨λ_=>⟨_,_,c1,rfl,rfl⟩,λh'=>absurd h h'⟩⟩⟩⟩⟩⟩⟩) (by omega) (by omega) (by constructor<;>intro h'<;>first|(cases h';done)|omega),c2⟩
 by_cases h:t.kind=22
 ·have e:bH E x t env s=aR E x t 0 env s:=by simp[bH,h]
  obtain⟨a,ek⟩:=Ba<|(ro hx).1 h;have ha:t.kids[0]?=some a:=by rw[ek];rfl
  rw[ek]at hB;simp only[kbulk]at hB;have hU:uN t=uN a:=by rw[hJ,ek,h];simp[uNs]
  obtain⟨A1,A2⟩:=dm hE (s:=s) (env:=env) (x:=x) (L:=L) ha (by omega) (cS hx ha<|by omega).1 (hy.to (by omega) (by omega)<|by omega);rw[e];exact⟨run false _ _ (bp 0 _ _ _ _ _ _<|⟨λh'=>(by cases h'),λ_=>⟨λh'=>absurd h' (by omega),λ_=>⟨λh'=>absurd h' (by omega),λ_=>⟨λh'=>absurd h' (by omega),λ_=>⟨λh'=>absurd h' (by omega),λ_=>⟨λh'=>absurd h' (by omega),λ_=>⟨λh'=>absurd h' (by omega),λ_=>⟨λ_=>⟨_,_,A1,rfl,rfl⟩,λh'=>absurd h h'⟩⟩⟩⟩⟩⟩⟩⟩) (by omega) (by omega) (by constructor<;>intro h'<;>first|(cases h';done)|omega),A2.k.mono (by omega),by rw[A2.tg,hU],by have :=A2.fa;omega⟩
 ·have e:bH E x t env s=(⟨0,0⟩,s):=by
   have :t.kind=15:=by omega
   simp[bH,this]
  refine⟨?_,drp _ (ux _) e<|leafU (by omega)<|by omega⟩;rw[e];exact run false _ _ (bp 0 _ _ _ _ _ _<|⟨λh'=>(by cases h'),λ_=>⟨λh'=>absurd h' (by omega),λ_=>⟨λh'=>absurd h' (by omega),λ_=>⟨λh'=>absurd h' (by omega),λ_=>⟨λh'=>absurd h' (by omega),λ_=>⟨λh'=>absurd h' (by omega),λ_=>⟨λh'=>absurd h' (by omega),λ_=>⟨λh'=>absurd h' (by omega),λ_=>⟨rfl,rfl⟩⟩⟩⟩⟩⟩⟩⟩⟩) (by omega) (by omega) (by constructor<;>intro h'<;>first|(cases h';done)|omega)
theorem vV:∀n,nH (dE n) n
 |0=>λt hb=>by have :=bt t;omega
 |n+1=>Mj<|vV n
set_option maxHeartbeats 4000000
def jn(G q0:CKr):Prop:=bv [] prog 25 [.ptr 0 0] ⟨5,(CKr.y G 3)⟩<|CKr.v q0
def dC(m:Nat)(p1:Tree)(p2:am)(b:Nat)(a:CKr)(d:Nat)(q0:CKr):Prop:=y4 m [2,1,0] f55 (CKr.v q0) (xK<|aj f55) [.blk 0,.seq<|xF<|aj f55] 72 [(0,.ptr 0 0),(4,.box (ak p1) 0),(5,.box (am.c p2) 0),(6,qi<|(p1.kids.length:Int)-2),(18,.row 4<|kidsV<|p1.kids.take b),(19,qi (((p1.kids.take b).length:Nat):Int)),(20,qi (d:Int))] ⟨5,(CKr.y a 3)⟩
def cR(m:Nat)(p1:Tree)(p2:am)(a:CKr)(b:List az)(d:Int)(q0:CKr):Prop:=y4 m [2,1,0] f55 (CKr.v q0) (xK<|xF<|aj f55) [.blk 2,.seq<|xI<|xA<|aj f55] 72 [(0,.ptr 0 0),(4,.box (ak p1) 0),(5,.box (am.c p2) 0),(6,qi<|(p1.kids.length:Int)-2),(9,.lk<|List.map az.c b),(10,qi d)] ⟨5,(CKr.y a 3)⟩
theorem uE(m:Nat)(p0:CKr)(p1:Tree)(p2:am)(q0:CKr)(h:∃a,((p1.kids.length:Int)-2)=((a:Nat):Int)∧a<=p1.kids.length∧dC m p1 p2 a p0 0 q0):fX p0 p1 p2 q0:=by
 refine qA 72 [2,1,0] func55 λK hK=>?_;refine gR 3 I<|gFP 5 I I I I<|gR 1 I<|gFP 6 I I I I<|gR 7 I<|gV 13 (qi (p1.kids.length:Int)) I (aN<|aD _) I<|gLB 12 I (aD _) λc=>gR 1 I<|gV 14 (qi<|(p1.kids.length:Int)-2) I (ao (by have :=c;omega) I) I<|gR 9 I ?_;obtain⟨a,b,h⟩:=h;refine gV 17 (qi ((a:Nat):Int)) I (aT b) I ?_;obtain⟨hb',h⟩:=h;exact gY (NT (aD p1.kids) ah I I BW (Cp I) (aao _) hb'<|((RC _ _ _).trans<|congrArg _<|yF _ _)) I I<|gR 1 I<|gV 19 (qi (((p1.kids.take a).length:Nat):Int)) I (aN<|aD _) I<|gLB 18 I (aD _) λd=>gR 4 I<|go_loop m<|qW hK h [0,1,2,3,4]
theorem mD(m:Nat)(p1:Tree)(p2:am)(g:Nat)(i:CKr)(a:Nat)(q0:CKr)(h:y7 (a<((p1.kids.take g).length)) (∃f,(p1.kids.take g)[a]?=some f∧∃b,cZ i (a:Int) b∧∃c,dz b f 0 c∧∃d,bc c d∧a+1<=9223372036854775807∧dC m p1 p2 g d (a+1) q0)<|∃e,dz i p1 ((p1.kids.length:Int)-2) e∧InI (((p1.kids.length:Int)-2)-1)∧cR m p1 p2 e [] (((p1.kids.length:Int)-2)-1) q0):dC (m+1) p1 p2 g i a q0:=by
 refine qj λK j1 hK q=>?_;refine gR 6 rfl<|qXh 21 rfl rfl rfl h co cp ?_ ?_<;>intro hd h;refine gR 8 I ?_;obtain⟨f,j,h⟩:=h;refine gY (aF (aq j) ah I I I I) I I<|gR 10 I ?_;obtain⟨b,k,h⟩:=h;refine qC k [0,1,2,3,4] ?_;refine qHX ⟨11,(CKr.z b [(5,.var 29<|ak f)] 9)⟩<|gR 6 I ?_;obtain⟨c,l,h⟩:=h;refine qC l [0,1,2,9,10] ?_;refine qHX ⟨16,(CKr.z c [(5,.var 29<|ak f)] 14)⟩<|gR 4 I ?_;obtain⟨d,n,h⟩:=h;refine qC n [0,1,2,14,15] ?_;refine qHX ⟨21,(CKr.z d [(5,.var 29<|ak f)] 19)⟩<|gR 4 I ?_;obtain⟨hb,h⟩:=h;exact gR 1 I<|gV 33 (qi ((a+1:Nat):Int)) I (ao (by omega)<|by omega) I<|gR 2 I<|go_xloop<|qW hK h [0,1,2,19,20];refine gR 3 I<|go_xloopE<|gR 7 I ?_;obtain⟨e,p,h⟩:=h;refine qC p [0,1,2,3,4] ?_;refine qHX ⟨10,(CKr.y e 8)⟩<|gR 11 I ?_;obtain⟨hb,h⟩:=h;exact gR 1 I<|gV 39 (qi<|((p1.kids.length:Int)-2)-1) I (ao hb I) I<|gR 4 I<|go_loop m<|qJ hK (h K _ hK<|by omega) [0,1,2,8,9] ⟨⟨_,I,.rfl⟩,⟨_,I,.rfl⟩,⟨_,I,.rfl⟩,⟨_,I,.rfl⟩,⟨_,I,lkN⟩,⟨_,I,.rfl⟩,trivial⟩
theorem mB(m:Nat)(p1:Tree)(p2:am)(i:CKr)(j:List az)(b:Int)(q0:CKr)(h:y7 (0<=b) (∃d,b=((d:Nat):Int)∧∃k,p1.kids[d]?=some k∧∃e,b=((e:Nat):Int)∧∃l,p2.params[e]?=some l∧InI (b-1)∧cR m p1 p2 i (az.mk k.text l::j) (b-1) q0) (InI (((p1.kids.length:Int)-2)+1)∧∃n a,bu i p1 (((p1.kids.length:Int)-2)+1) j n a∧∃g,cD n p2.result g∧y8 g (InI (((p1.kids.length:Int)-2)+1)∧∃c,aH a 4 [(((p1.kids.length:Int)-2)+1)] c∧c=q0) (a=q0))):cR (m+1) p1 p2 i j b q0:=by
 refine qj λK O G y=>?_;refine gR 7 rfl<|qXd 41 rfl rfl rfl h ?_ ?_<;>intro J h;refine gR 5 I<|qDs [] 15 15<|qDr (qR 0 3 2 []) I I ?_;obtain⟨d,r,h⟩:=h;refine gV 46 (qi ((d:Nat):Int)) I (aT r) I ?_;obtain⟨k,p,h⟩:=h;refine gYd 3 I (by kernel_rfl) (aF (aq p) ah I I I I) I I<|qDr (qR 4 5 2 []) I I ?_;obtain⟨e,s,h⟩:=h;refine gV 52 (qi ((e:Nat):Int)) I (aT s) I ?_;obtain⟨l,q,h⟩:=h;refine gYd 9 I (by kernel_rfl) (aF (ax (f:=ac.w) q) ah I I I I) I I<|qDr ((10,2)::(qR 11 4 0 [])) I I<|qDe<|gR 4 I ?_;obtain⟨hb,h⟩:=h;exact gR 1 I<|gV 43 (qi<|b-1) I (ao hb I) I<|gR 2 I<|go_xloop<|gFP 5 I I I I<|qJ G (h K _ G<|by omega) [0,1,2,3,4] ⟨⟨_,I,.rfl⟩,⟨_,I,.rfl⟩,⟨_,I,.rfl⟩,⟨_,I,.rfl⟩,⟨_,I,(lkC I)⟩,⟨_,I,.rfl⟩,trivial⟩;refine gR 3 I<|go_xloopE<|gR 3 I<|qDs [] 9 9<|qDr (qR 0 3 2 []) I I ?_;obtain⟨hb,h⟩:=h;refine qDr [(3,2)] I I<|gV 61 (qi<|((p1.kids.length:Int)-2)+1) I (ao hb I) I<|qDr [(4,2),(6,2),(7,2)] I I ?_;obtain⟨n,a,t,h⟩:=h;refine qDC 5 t [0,1,2,3,4] I ?_;refine qHX ⟨11,(CKr.y a 8)⟩ ?_;obtain⟨g,v,h⟩:=h;refine bG 8 v (by kernel_rfl) I (by kernel_rfl) I I .rfl I I ?_;refine qDe<|gR 1 rfl<|qXi 66 rfl rfl rfl h ?_ ?_<;>intro J h;refine gR 4 I ?_;obtain⟨hb,h⟩:=h;refine gR 1 I<|gV 69 (qi<|((p1.kids.length:Int)-2)+1) I (ao hb I) I<|gR 1 I<|gFR 11 I I I I ?_;obtain⟨c,x,h⟩:=h;refine qC x [0,1,2,8,9] ?_;refine qHX ⟨17,(CKr.y c 15)⟩<|gR 1 I ?_;subst h;exact gE G [] [] [0,1,2,15,16] [];refine gR 2 I ?_;subst h;exact gE G [] [] [0,1,2,8,9] []
def fP(m:Nat)(G a:CKr)(b:Nat)(q0:CKr):Prop:=y4 m [2,1,0] f25 (CKr.v q0) (cL<|xD<|aj f25) [.blk 0] 61 [(0,.ptr 0 0),(9,.row 4<|kidsV G.p),(10,qi (G.p.length:Int)),(11,qi (b:Int))] ⟨5,(CKr.y a 3)⟩
def cJ(m:Nat)(G:CKr)(b:Tree)(a:CKr)(c d e:Nat)(q0:CKr):Prop:=∀(K:Ctx) (J O:Nat),av K [2,1,0]->m<=J->m<=O->qLG K f25 (CKr.v q0) (xL<|xF<|cK<|cA<|xA<|cL<|xD<|aj f25) [.loop (xL<|xF<|cK<|cA<|xA<|cL<|xD<|aj f25) J,.blk 2,.blk 1,.seq<|xF<|cL<|xD<|aj f25,.loop (cL<|xD<|aj f25) O,.blk 0] 61 (mkF 61 0 [(0,.ptr 0 0),(2,qi (d:Int)),(9,.row 4<|kidsV G.p),(10,qi (G.p.length:Int)),(11,qi (e:Int)),(21,.row 4<|kidsV b.kids),(22,qi (b.kids.length:Int)),(23,qi (c:Int))]) ⟨5,(CKr.y a 3)⟩
def lU(m:Nat)(G:CKr)(b:Tree)(a:CKr)(c d e:Nat)(q0:CKr):Prop:=∀(K:Ctx) (J O:Nat),av K [2,1,0]->m<=J->m<=O->Go prog K (bodyPost prog f25<|SP K<|CKr.v q0) (.ex .normal) [.seq<|xF<|cK<|cA<|xA<|xL<|xF<|cK<|cA<|xA<|cL<|xD<|aj f25,.blk 3,.seq<|xF<|xL<|xF<|cK<|cA<|xA<|cL<|xD<|aj f25,.loop (xL<|xF<|cK<|cA<|xA<|cL<|xD<|aj f25) J,.blk 2,.blk 1,.seq<|xF<|cL<|xD<|aj f25,.loop (cL<|xD<|aj f25) O,.blk 0] 61 (mkF 61 0 [(0,.ptr 0 0),(2,qi (c:Int)),(9,.row 4<|kidsV G.p),(10,qi (G.p.length:Int)),(11,qi (d:Int)),(21,.row 4<|kidsV b.kids),(22,qi (b.kids.length:Int)),(23,qi (e:Int))]) ⟨5,(CKr.y a 3)⟩
theorem ye(m:Nat)(p0 q0:CKr)(h:fP m p0 p0 0 q0):jn p0 q0:=by
 refine qA 61 [2,1,0] func25 λK hK=>?_;exact gR 7 I<|gV 10 (qi (p0.p.length:Int)) I (aN<|aD _) I<|gLB 9 I (aD _) λa=>gR 4 I<|go_loop m<|qW hK h [0,1,2,3,4]
theorem pX(m:Nat)(p0 c:CKr)(a:Nat)(q0:CKr)(h:y7 (a<p0.p.length) (∃b,p0.p[a]?=some b∧cJ m p0 b ({c with module:=(a:Int)}) 0 a a q0)<|c=q0):fP (m+1) p0 c a q0:=by
 refine qj λK j1 hK f=>?_;refine gR 6 rfl<|qXh 12 rfl rfl rfl h co cp ?_ ?_<;>intro hd h;refine gR 8 I ?_;obtain⟨b,d,h⟩:=h;exact gY (aF (aq d) ah I I I I) I I<|gR 20 I<|gV 22 (qi (b.kids.length:Int)) I (aN<|aD _) I<|gLB 21 I (aD _) λe=>gR 4 I<|go_loop m<|qJ hK (h K _ _ hK (by omega)<|by omega) [0,1,2,3,4];refine gR 3 I<|go_xloopE<|gR 1 I ?_;subst h;exact gE hK [] [] [0,1,2,3,4] []
theorem ly(m:Nat)(J:CKr)(r:Tree)(δ:CKr)(a g s:Nat)(q0:CKr)(h:y7 (a<r.kids.length) (∃d,r.kids[a]?=some d∧∃b,cZ δ (a:Int) b∧q9a d.kind 2 (((aI ((g:Int),(a:Int)) b.signatures=none)->∃e,fX b d (am.mk []<|ac.mk 0 0) e∧lU m J r e g s a q0)∧(∀(z:am),aI ((g:Int),(a:Int)) b.signatures=some z->∃f,fX b d z f∧lU m J r f g s a q0)) (∃β,nh b.p (g:Int) (a:Int) β∧y8 β (∃t,aH b 5 [] t∧∃x,dz t d 0 x∧∃y,bc x y∧a+1<=9223372036854775807∧cJ m J r y (a+1) g s q0) (∃n,dz b d 0 n∧∃q,bc n q∧a+1<=9223372036854775807∧cJ m J r q (a+1) g s q0)))<|s+1<=9223372036854775807∧fP m J δ (s+1) q0):cJ (m+1) J r δ a g s q0:=by
 intro K O U G χ ψ;obtain⟨O,rfl⟩:∃j,O=j+1:=⟨O-1,by omega⟩;obtain⟨U,rfl⟩:∃j,U=j+1:=⟨U-1,by omega⟩;refine gR 6 rfl<|qXh 24 rfl rfl rfl h co cp ?_ ?_<;>intro Z h;refine gR 8 I ?_;obtain⟨d,ε,h⟩:=h;refine gY (aF (aq ε) ah I I I I) I I<|gR 10 I ?_;obtain⟨b,ζ,h⟩:=h;refine qC ζ [0,1,2,3,4] ?_;refine qHX ⟨11,(CKr.z b [(5,.var 29 (ak d))] 9)⟩<|gR 10 rfl<|qXe 33 rfl rfl rfl h ?_ ?_<;>intro Z h;refine gR 1 I<|qDs [] 11 11<|qDr ((0,2)::(qR 2 3 2 (qR 6 3 2 []))) I I ?_;apply bK (i:=1) (j:=5) (by kernel_rfl) rfl rfl rfl rfl;exact(bm ah I I);exact(bm ah I I);refine qDr [(5,0)] I I ?_;rcases γ:aI ((g:Int),(a:Int)) b.signatures with _|z
 replace h:=h.1 γ;refine bj (v:=some<|.agg [.nils,qi 0,qi 0]) 9 (.nop) I (by kernel_rfl) (vu dD (encV:=am.w) (k:=((g:Int),(a:Int))) (l:=b.signatures) (zv:=.agg [.nils,qi 0,qi 0]) γ underlying56 zeroValue97 (by kernel_rfl) I I I I) trivial I (by kernel_rfl) I I ?_;obtain⟨e,η,h⟩:=h;refine qDC 10 η [0,1,2,9,10] I (hs:=(.cons .rfl<|.cons .rfl<|.cons (.agg<|.cons (.nil 2)<|.cons .rfl<|.cons .rfl .nil) .nil)) ?_;exact qHX ⟨16,(CKr.z e [(5,.var 29<|ak d)] 14)⟩<|qDe<|qJ G (h K _ _ G (by omega)<|by omega) [0,1,2,14,15];replace h:=h.2 z γ;refine bj (v:=some<|.agg<|am.c z) 9 (.nop) I (by kernel_rfl) (vZ dD (encV:=am.w) (k:=((g:Int),(a:Int))) (l:=b.signatures) (zv:=.agg [.nils,qi 0,qi 0]) γ underlying56 zeroValue97 (by kernel_rfl) I I I I) trivial I (by kernel_rfl) I I ?_;obtain⟨f,θ,h⟩:=h;refine qDC 10 θ [0,1,2,9,10] I ?_;exact qHX ⟨16,(CKr.z f [(5,.var 29<|ak d)] 14)⟩<|qDe<|qJ G (h K _ _ G (by omega)<|by omega) [0,1,2,14,15];rcases α:aI ((g:Int),(a:Int)) b.signatures with _|z
 replace h:=h.1 α;apply bK (i:=1) (j:=9) (by kernel_rfl) rfl rfl rfl rfl;exact(bm ah I I);exact(rr (.nop) (vu dD (encV:=am.w) (k:=((g:Int),(a:Int))) (l:=b.signatures) (zv:=.agg [.nils,qi 0,qi 0]) α underlying56 zeroValue97 (by kernel_rfl) I I I I) trivial<|by kernel_rfl);refine bj 9 (.nop) I (by kernel_rfl) (vu dD (encV:=am.w) (k:=((g:Int),(a:Int))) (l:=b.signatures) (zv:=.agg [.nils,qi 0,qi 0]) α underlying56 zeroValue97 (by kernel_rfl) I I I I) trivial I (by kernel_rfl) I I ?_;obtain⟨e,ι,h⟩:=h;refine qDC 10 ι [0,1,2,9,10] I (hs:=(.cons .rfl<|.cons .rfl<|.cons (.agg<|.cons (.nil 2)<|.cons .rfl<|.cons .rfl .nil) .nil)) ?_;exact qHX ⟨16,(CKr.z e [(5,.var 29<|ak d)] 14)⟩<|qDe<|qJ G (h K _ _ G (by omega)<|by omega) [0,1,2,14,15];refine qDr [(1,0)] I I ?_;obtain⟨e,κ,h⟩:=h;refine qDC 10 κ [0,1,2,9,10] I (hs:=(.cons .rfl<|.cons .rfl<|.cons (.agg<|.cons (.nil 2)<|.cons .rfl<|.cons .rfl .nil) .nil)) ?_;exact qHX ⟨16,(CKr.z e [(5,.var 29<|ak d)] 14)⟩<|qDe<|qJ G (h K _ _ G (by omega)<|by omega) [0,1,2,14,15];replace h:=h.2 z α;apply bK (i:=1) (j:=9) (by kernel_rfl) rfl rfl rfl rfl;exact(bm ah I I);exact(rr (.nop) (vZ dD (encV:=am.w) (k:=((g:Int),(a:Int))) (l:=b.signatures) (zv:=.agg [.nils,qi 0,qi 0]) α underlying56 zeroValue97 (by kernel_rfl) I I I I) trivial<|by kernel_rfl);refine bj 9 (.nop) I (by kernel_rfl) (vZ dD (encV:=am.w) (k:=((g:Int),(a:Int))) (l:=b.signatures) (zv:=.agg [.nils,qi 0,qi 0]) α underlying56 zeroValue97 (by kernel_rfl) I I I I) trivial I (by kernel_rfl) I I ?_;obtain⟨f,μ,h⟩:=h;refine qDC 10 μ [0,1,2,9,10] I ?_;exact qHX ⟨16,(CKr.z f [(5,.var 29<|ak d)] 14)⟩<|qDe<|qJ G (h K _ _ G (by omega)<|by omega) [0,1,2,14,15];refine qDr [(1,0)] I I ?_;obtain⟨f,ν,h⟩:=h;refine qDC 10 ν [0,1,2,9,10] I ?_;exact qHX ⟨16,(CKr.z f [(5,.var 29<|ak d)] 14)⟩<|qDe<|qJ G (h K _ _ G (by omega)<|by omega) [0,1,2,14,15];refine gR 10 I ?_;obtain⟨β,ξ,h⟩:=h;refine qC0 ξ rfl<|gR 2 rfl<|qXi 51 rfl rfl rfl h ?_ ?_<;>intro Z h;refine gR 3 I ?_;obtain⟨t,ο,h⟩:=h;refine qC ο [0,1,2,9,10] (hs:=(.cons .rfl<|.cons .rfl<|.cons (.nil 1) .nil)) ?_;refine qHX ⟨16,(CKr.z t [(5,.var 29<|ak d)] 14)⟩<|gR 5 I ?_;obtain⟨x,π,h⟩:=h;refine qC π [0,1,2,14,15] ?_;refine qHX ⟨21,(CKr.z x [(5,.var 29<|ak d)] 19)⟩<|gR 4 I ?_;obtain⟨y,τ,h⟩:=h;refine qC τ [0,1,2,19,20] ?_;refine qHX ⟨26,(CKr.z y [(5,.var 29<|ak d)] 24)⟩<|gR 4 I ?_;obtain⟨hb,h⟩:=h;exact gR 1 I<|gV 59 (qi ((a+1:Nat):Int)) I (ao (by omega)<|by omega) I<|gR 2 I<|go_xloop<|qJ G (h K _ _ G (by omega)<|by omega) [0,1,2,24,25];refine gR 6 I ?_;obtain⟨n,υ,h⟩:=h;refine qC υ [0,1,2,9,10] ?_;refine qHX ⟨16,(CKr.z n [(5,.var 29<|ak d)] 14)⟩<|gR 4 I ?_;obtain⟨q,φ,h⟩:=h;refine qC φ [0,1,2,14,15] ?_;refine qHX ⟨21,(CKr.z q [(5,.var 29<|ak d)] 19)⟩<|gR 4 I ?_;obtain⟨hb,h⟩:=h;exact gR 1 I<|gV 59 (qi ((a+1:Nat):Int)) I (ao (by omega)<|by omega) I<|gR 2 I<|go_xloop<|qJ G (h K _ _ G (by omega)<|by omega) [0,1,2,19,20];refine gR 3 I<|go_xloopE<|gR 4 I ?_;obtain⟨hb,h⟩:=h;exact gR 1 I<|gV 60 (qi ((s+1:Nat):Int)) I (ao (by omega)<|by omega) I<|gR 2 I<|go_xloop<|qW G h [0,1,2,3,4]
theorem xk(m:Nat)(O:CKr)(c:Tree)(d:CKr)(e f b:Nat)(q0:CKr)(h:∃a,bc d a∧b+1<=9223372036854775807∧cJ m O c a (b+1) e f q0):lU (m+1) O c d e f b q0:=by
 intro K G J U i k;obtain⟨G,rfl⟩:∃j,G=j+1:=⟨G-1,by omega⟩;obtain⟨J,rfl⟩:∃j,J=j+1:=⟨J-1,by omega⟩;refine gR 3 I ?_;obtain⟨a,g,h⟩:=h;refine qC g [0,1,2,3,4] ?_;refine qHX ⟨10,(CKr.y a 8)⟩<|gR 4 I ?_;obtain⟨hb,h⟩:=h;exact gR 1 I<|gV 59 (qi ((b+1:Nat):Int)) I (ao (by omega) (by omega)) I<|gR 2 I<|go_xloop<|qJ U (h K _ _ U (by omega) (by omega)) [0,1,2,8,9]
mutual
def leafK:Tree->Tree
 |.node k s ls ks=>if k=8 then leafH (.node k s ls ks) ks else .node k s ls ks
def leafH(d:Tree):YT->Tree
 |[]=>d
 |t::_=>leafK t
end
mutual
def lisK:Tree->Nat
 |.node k s ls ks=>if k=8 then lisH ks+1 else 0
def lisH:YT->Nat
 |[]=>0
 |t::_=>lisK t
end
def bY:Nat->Tree->Tree
 |0,t=>t
 |n+1,t=>.node 8 [] [] [bY n t]
mutual
def bareK:Tree->Tree
 |.node k s _ ks=>.node k s []<|baresK ks
def baresK:YT->YT
 |[]=>[]
 |t::r=>bareK t::baresK r
end
theorem tC{r:YT}(G:t.kind=8)(J:t.kids=u::r):leafK t=leafK u∧lisK t=lisK u+1:=by
 cases t;simp only[Tree.kind,Tree.kids]at G J;subst G J;constructor
 ·rw[leafK,if_pos rfl,leafH]
 ·rw[lisK,if_pos rfl,lisH]
theorem kE(h:t.kind≠8):leafK t=t∧lisK t=0:=by
 cases t;simp only[Tree.kind]at h;constructor
 ·rw[leafK,if_neg h]
 ·rw[lisK,if_neg h]
theorem BU(t:Tree):bareK t=.node t.kind t.text [] (baresK t.kids):=by cases t;simp only[bareK];rfl
def tyK(t:Tree):Prop:=shapeK t=true∧gU t.kind=true
theorem nA(h:tyK t):(t.kind=8∧t.text=[]∧∃u,t.kids=[u]∧tyK u)∨(t.kind≠8∧t.kids=[]∧(t.kind≠9->t.text=[])):=by
 obtain⟨hs,hk⟩:=h;rw[cc]at hs;simp only[aaa,aas]at hs;have hk':5<=t.kind∧t.kind<=9:=by simpa[gU]using hk
 by_cases O:t.kind=8
 ·refine .inl ⟨O,?_,?_⟩
  ·have :=hs.1.2;rw[O]at this;simpa[oZ]using this
  ·have J:=hs.1.1;have e:fb t.kind t.kids.length=f0 t.kids.length 1 2 0 1:=by rw[O];rfl
   rw[e]at J;have hn:t.kids.length=1:=by
    unfold f0 at J;split at J
    ·omega
    ·split at J
     ·omega
     ·omega
   obtain⟨u,U⟩:∃u,t.kids=[u]:=by
    match hkk:t.kids,hn with
    |[u],_=>exact⟨u,rfl⟩
   refine⟨u,U,?_⟩;have G:=hs.2;rw[U]at G;simp only[shapeKs,aaa]at G;refine⟨G.1.2,?_⟩;have :=G.1.1;rw[O]at this;simpa[jo]using this
 ·refine .inr ⟨O,?_,λh9=>?_⟩
  ·have J:=hs.1.1;have e:fb t.kind t.kids.length=f0 t.kids.length 0 1 0 0:=by
    have :t.kind=5∨t.kind=6∨t.kind=7∨t.kind=9:=by omega
    rcases this with e|e|e|e<;>rw[e]<;>rfl
   rw[e]at J;have :t.kids.length=0:=by
    unfold f0 at J;split at J
    ·omega
    ·omega
   exact List.length_eq_zero_iff.1 this
  ·have :t.kind=5∨t.kind=6∨t.kind=7:=by omega
   have Z:=hs.1.2;rcases this with e|e|e<;>(rw[e]at Z;simpa[oZ]using Z)
theorem nB:∀t,tyK t->tyK (leafK t)∧(leafK t).kind≠8∧bareK t=bY (lisK t) (.node (leafK t).kind (leafK t).text [] []):=dp λt ih h=>by
 rcases nA h with⟨G,hx,u,J,O⟩|⟨G,hk,_⟩
 ·obtain⟨U,Z⟩:=tC G J;obtain⟨g1,g2,g3⟩:=ih 0 u (by rw[J];rfl) O;rw[U,Z];refine⟨g1,g2,?_⟩;rw[BU,G,hx,J,bY];simp only[baresK,g3]
 ·obtain⟨U,Z⟩:=kE G;rw[U,Z];refine⟨h,G,?_⟩;rw[BU,hk,bY,baresK]
theorem nd:∀t,tbulk (leafK t)<=tbulk t∧lisK t<=tbulk t:=dp λt ih=>by
 by_cases G:t.kind=8
 ·cases J:t.kids with
  |nil=>
   have hp:=bS t;cases t;simp only[Tree.kind,Tree.kids]at G J;subst G J;rw[leafK,if_pos rfl,leafH,lisK,if_pos rfl,lisH];exact⟨aaf _,hp⟩
  |cons u r=>
   obtain⟨O,U⟩:=tC G J;have Z:t.kids[0]?=some u:=by rw[J];rfl
   obtain⟨g1,g2⟩:=ih 0 u Z;have :=aE Z;rw[O,U];omega
 ·obtain⟨O,U⟩:=kE G;rw[O,U];exact⟨aaf _,aao _⟩
variable{d:Nat}
theorem qV(ht:t.kind=1)(hs:shapeK t=true)(J:t.kids[d]?=some u):(u.kind=2∧bJ u.text=1)∨(u.kind=3∧bJ u.text=2):=by
 rw[cc]at hs;simp only[aaa]at hs;obtain⟨h1,h2⟩:=dP hs.2 J;rw[ht]at h1;simp[jo]at h1;rw[cc]at h2;simp only[aaa]at h2;have G:=h2.1.2;rcases h1 with e|e
 ·rw[e]at G;simp[oZ]at G;exact .inl ⟨e,by omega⟩
 ·rw[e]at G;simp[oZ]at G;exact .inr ⟨e,by omega⟩
theorem Jc{w:YB}(h:bJ w=k)(G:k=3∨k=4):dB w 0=((spanN bi w:Nat):Int):=by obtain⟨h1,h2,_⟩:=JY h G;have :=MJ w 0 h1 h2;simpa using this
theorem uT(hp:bk p=true)(h9:u.kind=9)(hu:shapeK u=true)(h:(be p m u.text).2.2=true):∃(i d:Nat) (t a b:Tree),(be p m u.text).1=(i:Int)∧(be p m u.text).2.1=(d:Int)∧p[i]?=some t∧t.kids[d]?=some a∧a.kind=3∧a.kids=[b]∧tyK b:=by
 have O:bJ u.text=2∨bJ u.text=4:=by rw[cc,h9]at hu;simp only[aaa]at hu;have :=hu.1.2;simp only[oZ]at this;simp at this;omega
 have fin:∀(i d:Nat) (t a:Tree),p[i]?=some t->t.kids[d]?=some a->¬a.kind=2->a.kind=3∧∃b,a.kids=[b]∧tyK b:=λi d t a ht ha hn=>by
  obtain⟨t1,J⟩:=eK hp ht;rcases qV t1 J ha with⟨k2,_⟩|⟨k3,_⟩
  ·exact absurd k2 hn
  ·refine⟨k3,?_⟩;rw[cc]at J;simp only[aaa]at J;obtain⟨_,g2⟩:=dP J.2 ha;rw[cc,k3]at g2;simp only[aaa,aas]at g2;have hl:=g2.1.1;have e:fb 3 a.kids.length=f0 a.kids.length 1 3 0 1:=rfl;rw[e]at hl;have hn:a.kids.length=1:=by
    unfold f0 at hl;split at hl
    ·omega
    ·split at hl
     ·omega
     ·omega
   match hkk:a.kids,hn with
   |[b],_=>
    have G:=g2.2;rw[hkk]at G;simp only[shapeKs,aaa]at G;exact⟨b,I,G.1.2,by have :=G.1.1;simpa[jo]using this⟩
 unfold be at h⊢;rcases O with O|O
 ·have hd:dB u.text 0=-1:=BD _ _ (EU O<|.inr rfl).1;rw[if_neg<|by omega]at h⊢;obtain⟨i,d,t,a,_,a1,a2,U,Z,a5,_⟩:=xZ h;obtain⟨t1,J⟩:=eK hp U;obtain⟨f1,b,f2,f3⟩:=fin i d t a U Z λk2=>by
   rcases qV t1 J Z with⟨_,k⟩|⟨k,_⟩
   ·rw[a5,O]at k;cases k
   ·omega
  exact⟨i,d,t,a,b,a1,a2,U,Z,f1,f2,f3⟩
 ·have hd:=Jc O<|.inr rfl;rw[if_pos<|by omega]at h⊢;obtain⟨i,d,t,a,_,a1,a2,U,Z,a5,_⟩:=xZ h;obtain⟨t1,J⟩:=eK hp U;obtain⟨f1,b,f2,f3⟩:=fin i d t a U Z λk2=>by
   rcases qV t1 J Z with⟨_,k⟩|⟨k,_⟩
   ·have g:=(EU k<|.inl rfl).2.1 rfl;have g3:=(JY O<|.inr rfl).2.2;rw[a5,hd,Int.toNat_natCast]at g;have e:(u.text.drop<|spanN bi u.text+1).getD 0 0=u.text.getD (spanN bi u.text+1) 0:=by
     simp[List.getD_eq_getElem?_getD,List.getElem?_drop]
    rw[e]at g;have :=g3.2 g;cases this
   ·omega
  exact⟨i,d,t,a,b,a1,a2,U,Z,f1,f2,f3⟩
def gk:Nat->Cx->Tree->Sv->Sv
 |0,_,_,s=>s
 |n+1,x,u,s=>if u.kind=9 then(if(s.tg.headD noT).Free then faP x 1 [] (cd s)else cd s)else if u.kind=8 then gk n (x.go ((0:Nat):Int)) (cC u 0) s else s
abbrev ckT(x:Cx)(s:Sv)(t:Tree)(i:Int)(s':Sv):Prop:=dz (mkC x s) t i (mkC x s')
structure Sst (B u:Nat) (s s':Sv):Prop where
 tg:s'.tg=s.tg.drop u
 fa:s'.fa.length<=s.fa.length+4*B
theorem CC:∀(n:Nat) (u:Tree),tbulk u<=n->tyK u->∀(t:Tree) (i:Nat) (x:Cx) (s:Sv),t.kids[i]?=some u->x.pa.length+tbulk u+1<=100000000->s.fa.length+1<=900000000->uN u<=s.tg.length->ckT x s t i (gk n (x.go i) u s)∧Sst (tbulk u) (uN u) s (gk n (x.go i) u s)
 |0,u,hb,_,_,_,_,_,_,_,_,_=>by have :=bt u;omega
 | n +1,u,hb,hu,t,i,x,s,ht,h1,h2,h3=>by
  have hbu:=aQ u;have hlen:x.pa.length+1<=1000000000:=by omega
  rcases nA hu with⟨h8,_,v,hv,hvt⟩|⟨h8,hk,_⟩
  ·rw[hv]at hbu;simp only[kbulk]at hbu;have hU:uN u=uN v:=by rw[hJ,hv,h8];simp[uNs]
   have hv0:u.kids[0]?=some v:=by rw[hv];rfl
   have e:gk (n+1) (x.go i) u s=gk n ((x.go i).go ((0:Nat):Int)) v s:=by simp[gk,h8,dF hv0]
   obtain⟨a1,a2⟩:=CC n v (by omega) hvt u 0 (x.go i) s hv0 (by simp[Cx.go];omega) h2 (by omega);rw[e];refine⟨iP 0 _ _ _ _ (⟨_,lZ (x:=x) (s:=s) (i:Int) hlen,i,I,u,ht,λh=>absurd h (by omega),λ_=>⟨λ_=>⟨_,a1,_,kA (x:=x) (i:Int),I⟩,λh=>absurd h8 h⟩⟩),?_⟩;exact⟨by rw[a2.tg,hU],by have :=a2.fa;omega⟩
  ·by_cases h9:u.kind=9
   ·have hU:uN u=1:=by rw[hJ,hk,h9];simp[uNs]
    have huse:=Po (x:=x.go i) (s:=s) (by omega);have e:gk (n+1) (x.go i) u s=if(s.tg.headD noT).Free then faP (x.go i) 1 [] (cd s)else cd s:=by simp[gk,h9]
    rw[e];by_cases hf:(s.tg.headD noT).Free=true
    ·rw[if_pos hf];refine⟨iP 0 _ _ _ _ (⟨_,lZ (x:=x) (s:=s) (i:Int) hlen,i,rfl,u,ht,λ_=>⟨_,_,huse,λ_=>⟨_,fu (x:=x.go i) (s:=cd s) 1 [] (by simp[Cx.go];omega) (by simp[cd];omega),_,kA (x:=x) (s:=faP (x.go i) 1 []<|cd s) (i:Int),rfl⟩,λh=>absurd hf (by rw[h];decide)⟩,λh=>absurd h9 h⟩),?_⟩;exact⟨by rw[hU];rfl,by rw[fq];simp[cd];omega⟩
    ·rw[if_neg hf];refine⟨iP 0 _ _ _ _<|⟨_,lZ (x:=x) (s:=s) (i:Int) hlen,i,I,u,ht,λ_=>⟨_,_,huse,λh=>absurd h hf,λ_=>⟨_,kA (x:=x) (s:=cd s) (i:Int),I⟩⟩,λh=>absurd h9 h⟩,?_⟩;exact⟨by rw[hU];rfl,by simp[cd]⟩
   ·have hU:uN u=0:=by rw[hJ,hk,if_neg];simp[uNs];have :=hu.2;simp[gU]at this;omega
    have e:gk (n+1) (x.go i) u s=s:=by simp[gk,h9,h8]
    rw[e];exact⟨iP 0 _ _ _ _<|⟨_,lZ (x:=x) (s:=s) (i:Int) hlen,i,I,u,ht,λh=>absurd h h9,λ_=>⟨λh=>absurd h h8,λ_=>⟨_,kA (x:=x) (s:=s) (i:Int),I⟩⟩⟩,by rw[hU];rfl,by omega⟩
def nG(x:Cx):YT->Nat->Sv->Sv
 |[],_,s=>s
 |k::r,i,s=>nG x r (i+1)<|gk (tbulk<|cC k 0) ((x.go i).go ((0:Nat):Int)) (cC k 0) s
def du:YT->List Kn->Env
 |k::r,q::l=>⟨k.text,q⟩::du r l
 |_,_=>[]
def funQ(x:Cx)(i:Nat)(r:Kn):Kn×Sv->Sv
 |(k,s)=>if aZ k r then faP x 4 [(i:Int)] s else s
def funS(x:Cx)(f:Tree)(g:am)(s:Sv):Sv:=
 funQ x (f.kids.length-1) g.result (aR (dE<|tbulk f) x f (f.kids.length-1) (du (f.kids.take<|f.kids.length-2) g.params)<|gk (tbulk f) (x.go ((f.kids.length-2:Nat):Int)) (cC f<|f.kids.length-2)<|nG x (f.kids.take<|f.kids.length-2) 0 s)
abbrev ckU(x:Cx)(s:Sv)(f:Tree)(g:am)(s':Sv):Prop:=fX (mkC x s) f g (mkC x s')
variable{f:Tree}
theorem oE(hs:shapeK f=true)(h2:f.kind=2):2<=f.kids.length∧(∀(i:Nat) (u:Tree),f.kids[i]?=some u->i+2<f.kids.length->∃v,u.kind=4∧u.kids=[v]∧tyK v)∧(∀u,f.kids[f.kids.length-2]?=some u->tyK u)∧(∀u,f.kids[f.kids.length-1]?=some u->exT u):=by
 rw[cc]at hs;simp only[aaa,aas]at hs;have hl:=hs.1.1;rw[h2]at hl;have h1:=(uo<|show 0<=f0 f.kids.length 2 6 2 (-1)from hl).1;refine⟨by omega,λi u O hi=>?_,λu O=>?_,λu O=>?_⟩
 ·obtain⟨G,J⟩:=dP hs.2 O;rw[h2]at G;simp only[jo]at G;rw[if_neg (by omega),if_pos trivial,if_neg (by omega),if_neg<|by omega]at G;have Z:u.kind=4:=by simpa using G
  rw[cc]at J;simp only[aaa,aas]at J;have U:=J.1.1;rw[Z]at U;have :=uo<|show 0<=f0 u.kids.length 1 2 0 1 from U;obtain⟨v,ev⟩:=Ba (t:=u) (by omega);have hv:u.kids[0]?=some v:=by rw[ev];rfl
  obtain⟨g3,g4⟩:=dP J.2 hv;rw[Z]at g3;exact⟨v,Z,ev,g4,by simpa[jo]using g3⟩
 ·obtain⟨G,J⟩:=dP hs.2 O;rw[h2]at G;simp only[jo]at G;rw[if_neg (by omega),if_pos trivial,if_neg (by omega),if_pos<|by omega]at G;exact⟨J,G⟩
 ·obtain⟨G,J⟩:=dP hs.2 O;rw[h2]at G;simp only[jo]at G;rw[if_neg (by omega),if_pos trivial,if_pos<|by omega]at G;exact⟨J,G⟩
theorem Lu{f:Tree}{g:am}{x:Cx}{n:Nat}(hn:n<=f.kids.length)(hf:∀(i:Nat) (u:Tree),(f.kids.take n)[i]?=some u->∃v,u.kind=4∧u.kids=[v]∧tyK v)(hl:f.kids.length<=100000000):∀(k i:Nat) (s:Sv),k+i=n->x.pa.length+kbulk ((f.kids.take n).drop i)+2<=100000000->s.fa.length+4*kbulk ((f.kids.take n).drop i)+1<=900000000->uNs ((f.kids.take n).drop i)<=s.tg.length->
  Sst (kbulk<|(f.kids.take n).drop i) (uNs<|(f.kids.take n).drop i) s (nG x ((f.kids.take n).drop i) i s)∧∀(m:Nat) (s':Sv),(∀s1,s1=nG x ((f.kids.take n).drop i) i s->dC m f g n (mkC x s1) n (mkC x s'))->∃m',dC m' f g n (mkC x s) i<|mkC x s'
 |0,i,s,hk,_,_,_=>by
  have hd:(f.kids.take n).drop i=[]:=List.drop_of_length_le (by simp;omega);have hi:i=n:=by omega
  subst hi;rw[hd];exact⟨⟨by simp[nG,uNs],by simp[nG]⟩,λm s' h=>⟨m,h _ rfl⟩⟩
 | k+1,i,s,hk,h1,h2,h3=>by
  have hlt:i<(f.kids.take n).length:=by simp;omega
  obtain⟨u,hu⟩:∃u,(f.kids.take n)[i]?=some u:=⟨_,List.getElem?_eq_getElem hlt⟩;obtain⟨v,hv4,hv,hvt⟩:=hf i u hu;have hd:=aK hu;have hbu:=aQ u;rw[hv]at hbu;rw[hd]at h1 h2 h3⊢;simp only[kbulk,uNs]at h1 h2 h3 hbu⊢;have hv0:u.kids[0]?=some v:=by rw[hv];rfl
  have hU:uN u=uN v:=by rw[hJ,hv,hv4];simp[uNs]
  obtain⟨a1,a2⟩:=CC (tbulk v) v (aaf _) hvt u 0 (x.go i) s hv0 (by simp[Cx.go];omega) (by omega) (by omega);have e:nG x (u::(f.kids.take n).drop (i+1)) i s=nG x ((f.kids.take n).drop<|i+1) (i+1) (gk (tbulk v) ((x.go i).go ((0:Nat):Int)) v s):=by rw[nG,dF hv0]
  rw[e];generalize gk (tbulk v) ((x.go i).go ((0:Nat):Int)) v s=s1 at a1 a2;have q1:=a2.fa;have q2:=a2.tg;obtain⟨b1,b2⟩:=Lu (g:=g) (x:=x) hn hf hl k (i+1) s1 (by omega) (by omega) (by omega) (by rw[q2,aak];omega);refine⟨⟨by rw[b1.tg,q2,List.drop_drop,hU],by have :=b1.fa;omega⟩,λm s' h=>?_⟩;obtain⟨m',hm⟩:=b2 m s' h;exact⟨m'+1,mD m' _ _ _ _ _ _<|⟨λ_=>⟨u,hu,_,lZ (x:=x) (s:=s) (i:Int) (by omega),_,a1,_,kA (x:=x) (s:=s1) (i:Int),by omega,hm⟩,λh=>absurd hlt h⟩⟩
theorem Pn{f:Tree}{g:am}{x:Cx}{s s':Sv}{n:Nat}(U:n+2=f.kids.length)(Z:n<=g.params.length)(hl:f.kids.length<=100000000){m0:Nat}(fin:cR m0 f g (mkC x s) (du (f.kids.take n) g.params) (-1)<|mkC x s'):∀k,k<=n->cR (m0+k) f g (mkC x s) (du ((f.kids.take n).drop k)<|g.params.drop k) ((k:Int)-1) (mkC x s')
 |0,_=>by simpa using fin
 |k+1,hk=>by
  have ih:=Pn U Z hl fin k (by omega);obtain⟨u,J⟩:∃u,f.kids[k]?=some u:=⟨_,List.getElem?_eq_getElem<|by omega⟩;obtain⟨q,O⟩:∃q,g.params[k]?=some q:=⟨_,List.getElem?_eq_getElem<|by omega⟩;have G:(f.kids.take n)[k]?=some u:=by rw[List.getElem?_take,if_pos<|by omega];exact J
  rw[aK G,aK O]at ih;have e:(((k+1:Nat):Int)-1)=(k:Int):=by omega
  rw[e];exact mB (m0+k) _ _ _ _ _ _ (⟨λ_=>⟨k,I,u,J,k,I,q,O,⟨by omega,by omega⟩,ih⟩,λh=>absurd (by omega) h⟩)
theorem KX{g:am}(hs:shapeK f=true)(h2:f.kind=2)(hg:f.kids.length=g.params.length+2)(hp:x.pa.length+tbulk f+2<=100000000)(hf:s.fa.length+4*tbulk f+1<=900000000)(ht:uN f<=s.tg.length)(hL:L+tbulk f<=900000000)(hgp:∀q∈g.params,KOk L q)(hsg:∀k q,aI k x.sg=some q->KOk L q.result):
  ckU x s f g (funS x f g s)∧Sst (tbulk f) (uN f) s (funS x f g s):=by
 obtain⟨s1,s2,s3,s4⟩:=oE hs h2;have hkl:=bt f;have hB:=aQ f;obtain⟨n,hn⟩:∃n,n+2=f.kids.length:=⟨f.kids.length-2,by omega⟩;obtain⟨r,hr⟩:∃r,f.kids[n]?=some r:=⟨_,List.getElem?_eq_getElem<|by omega⟩;obtain⟨b,hb⟩:∃b,f.kids[n+1]?=some b:=⟨_,List.getElem?_eq_getElem<|by omega⟩;have hrt:=s3 r (by rw[show f.kids.length-2=n by omega];exact hr);have hbx:=s4 b (by rw[show f.kids.length-1=n+1 by omega];exact hb);have hsplit:f.kids=f.kids.take n++[r,b]:=by
  have e1:f.kids.drop n=[r,b]:=by
   rw[aK hr,aK hb,List.drop_of_length_le<|by omega]
  rw[<-e1,aap]
 have hKB:kbulk f.kids=kbulk (f.kids.take n)+tbulk r+tbulk b:=by
  have :∀a c:YT,kbulk (a++c)=kbulk a+kbulk c:=λa c=>by induction a with
   |nil=>simp[kbulk]
   |cons y l ih=>simp only[aav,kbulk,ih];omega
  conv=>lhs;rw[hsplit,this]
  simp[kbulk];omega
 have hUU:uN f=uNs (f.kids.take n)+uN r+uN b:=by
  have :∀a c:YT,uNs (a++c)=uNs a+uNs c:=λa c=>by induction a with
   |nil=>simp[uNs]
   |cons y l ih=>simp only[aav,uNs,ih];omega
  rw[hJ,h2]
  conv=>lhs;rw[hsplit,this]
  simp[uNs];omega
 have hpar:∀(i:Nat) (u:Tree),(f.kids.take n)[i]?=some u->∃v,u.kind=4∧u.kids=[v]∧tyK v:=λi u hu=>by
  rw[List.getElem?_take]at hu;split at hu
  ·exact s2 i u hu (by omega)
  ·cases hu
 obtain⟨A1,A2⟩:=Lu (f:=f) (g:=g) (x:=x) (n:=n) (by omega) hpar (by omega) n 0 s (by omega) (by simp;omega) (by simp;omega) (by simp;omega);simp only[List.drop_zero]at A1 A2;obtain⟨sA,hsA⟩:∃sA,sA=nG x (f.kids.take n) 0 s:=⟨_,rfl⟩;rw[<-hsA]at A1;have qA:=A1.fa;have qT:=A1.tg;obtain⟨B1,B2⟩:=CC (tbulk f) r (by omega) hrt f n x sA hr (by omega) (by omega) (by rw[qT,aak];omega);obtain⟨sB,hsB⟩:∃sB,sB=gk (tbulk f) (x.go (n:Int)) r sA:=⟨_,rfl⟩;rw[<-hsB]at B1 B2;have rA:=B2.fa;have rT:=B2.tg;obtain⟨C1,C2⟩:=dm (vV (tbulk f)) (x:=x) (env:=du (f.kids.take n) g.params) (s:=sB) (L:=L) hb (by omega) hbx ⟨by omega,by omega,by rw[rT,qT,List.drop_drop,aak];omega,by omega,λc hc=>by
  have :∀(ks:YT) (ps:List Kn),(∀q∈ps,KOk L q)->∀c∈du ks ps,KOk L c.typ:=λks=>by
   induction ks with
   |nil=>intro ps _ c hc;simp[du]at hc
   | cons k r ih=>
    intro ps hps c hc;cases ps with
    |nil=>simp[du]at hc
    |cons q l=>
     simp only[du,aah]at hc;rcases hc with rfl|hc
     ·exact hps q List.mem_cons_self
     ·exact ih l (λq hq=>hps q<|List.mem_cons_of_mem _ hq) c hc
  exact this _ _ hgp c hc,hsg⟩
 have e0:funS x f g s=funQ x (n+1) g.result (aR (dE<|tbulk f) x f (n+1) (du (f.kids.take n) g.params) sB):=by unfold funS;rw[show f.kids.length-1=n+1 by omega,show f.kids.length-2=n by omega,dF hr,<-hsA,<-hsB]
 rw[e0];generalize aR (dE<|tbulk f) x f (n+1) (du (f.kids.take n) g.params) sB=w at C1 C2⊢;obtain⟨k,sC⟩:=w;have cA:=C2.fa;have cT:=C2.tg;simp only at cA cT;have ei:(((f.kids.length:Nat):Int)-2+1)=((n+1:Nat):Int):=by omega
 have fin:∀s',s'=funQ x (n+1) g.result (k,sC)->cR 1 f g (mkC x sB) (du (f.kids.take n) g.params) (-1) (mkC x s'):=λs' hs'=>by
  refine mB 0 _ _ _ _ _ _ (⟨λh=>absurd h (by omega),λ_=>⟨⟨by omega,by omega⟩,_,_,by rw[ei];exact C1,_,lr k g.result,λh=>⟨⟨by omega,by omega⟩,?_⟩,λh=>?_⟩⟩)
  ·have :s'=faP x 4 [((n+1:Nat):Int)] sC:=by rw[hs'];unfold funQ;simp only[if_pos h]
   subst this;exact⟨_,by rw[ei];exact fu (x:=x) (s:=sC) 4 [((n+1:Nat):Int)] (by simp;omega) (by omega),rfl⟩
  ·have :s'=sC:=by rw[hs'];unfold funQ;simp only[h];simp
   subst this;exact I
 have st:Sst (tbulk f) (uN f) s (funQ x (n+1) g.result (k,sC)):=by
  have :(funQ x (n+1) g.result (k,sC)).tg=sC.tg∧(funQ x (n+1) g.result (k,sC)).fa.length<=sC.fa.length+1:=by
   unfold funQ;simp only[];split
   ·exact⟨I,by rw[fq];omega⟩
   ·exact⟨I,by omega⟩
  exact⟨by rw[this.1,cT,rT,qT,List.drop_drop,List.drop_drop,hUU,aat],by have :=this.2;omega⟩
 refine⟨?_,st⟩;obtain⟨m',hm⟩:=A2 (1+n+1) (funQ x (n+1) g.result (k,sC)) λs1 hs1=>by
  rw[<-hsA]at hs1;subst hs1;refine mD (1+n) _ _ _ _ _ _ (⟨λh=>absurd h (by rw[aau];omega),λ_=>⟨_,by rw[show((f.kids.length:Nat):Int)-2=(n:Int) by omega];exact B1,⟨by omega,by omega⟩,?_⟩⟩);have :=Pn (x:=x) (s:=sB) (g:=g) hn (by omega) (by omega) (fin _ rfl) n<|aaf _;rw[List.drop_of_length_le (by simp;omega)]at this;rw[show((f.kids.length:Nat):Int)-2-1=(n:Int)-1 by omega];simpa[du]using this
 exact uE m' _ _ _ _ (⟨n,by omega,by omega,hm⟩)
def ym(G J:Tree):Prop:=qS 51 [.agg<|ak G]<|.agg<|ak J
def oD(G:Tree)(p1:YI)(J:Tree)(O:Bool):Prop:=qS 23 [.agg<|ak G,.row 1<|List.map (V.int .i64) p1]<|.tup [.agg<|ak J,.bool O]
theorem KR(m:Nat)(O:Tree)(p1:YI)(G:Tree)(J:Bool)(h:∃c b,xz O p1 c b∧((b=false)->(Tree.node 0 [] [] [])=G∧false=J)∧((b=true)->∃a,ym c a∧a=G∧true=J)):oD O p1 G J:=by
 refine⟨I,I,?_⟩;refine qA 19 [] func23 λK U=>?_;refine gR 3 I<|gFP 0 I I I I<|gR 8 I ?_;obtain⟨c,b,d,h⟩:=h;refine qC0 d rfl<|gR 15 rfl<|qBh 15 rfl rfl rfl h bD bC ?_ ?_<;>intro h;refine gR 10 I ?_;obtain⟨rfl,rfl⟩:=h;exact go_sub (F':=(mkF 19 0 [(4,.ptr 0 0),(5,.bool false)])) (H':=⟨1,[(0,vB ((Tree.node 0 [] [] []).kind) ((Tree.node 0 [] [] []).text) ((Tree.node 0 [] [] []).leads)<|(Tree.node 0 [] [] []).kids)]⟩) [1] [] I U pq2 ⟨⟨_,I,I,(.cons .rfl<|.cons .rfl<|.cons (.nil 1)<|.cons (.nil 4) .nil)⟩,trivial⟩ I<|qN [.cell 4 29,.tmp 5];refine gR 6 I ?_;obtain⟨a,e,h⟩:=h;refine qC0 e I<|gR 5 I ?_;obtain⟨rfl,rfl⟩:=h;exact go_sub (F':=(mkF 19 0 [(4,.ptr 0 0),(5,.bool true)])) (H':=⟨1,[(0,vB a.kind a.text a.leads a.kids)]⟩) [1] [] I U pq2 (pqo1 I I) I<|qN [.cell 4 29,.tmp 5]
def kX(G:YT)(J:List ai):Prop:=bv [] prog 14 [.row 4<|kidsV G] ⟨0,[]⟩<|z8 (.sl 0) ⟨1,[(0,.row 47 3<|List.map ai.w J)]⟩
def jy(G:YT)(p1:cv)(J:Tree)(O:Int):Prop:=qS 10 [.row 4<|kidsV G,.agg<|cv.c p1]<|.tup [.agg<|ak J,qi O]
theorem vy(m:Nat)(G:YT)(J:List ai)(h:∃c,mH G c∧y9 c (([]:List ai)=J) (∃b,jZ G b∧∃a,jn b a∧∃d,eV a.faults d∧d=J)):kX G J:=by
 refine qA 20 [] func14 λK O=>?_;refine gR 9 I ?_;obtain⟨c,e,h⟩:=h;refine qC0 e rfl<|gR 3 rfl<|qBh 6 rfl rfl rfl h bD bC ?_ ?_<;>intro h;refine gR 8 I<|gNS 2 47 3 I I I I ?_;subst h;exact gE O [] [(2,.sl 0)] [0] [.tmp 2];refine gR 6 I ?_;obtain⟨b,f,h⟩:=h;refine qC f [] ?_;refine qHX ⟨5,(CKr.y b 3)⟩<|gR 6 I ?_;obtain⟨a,g,h⟩:=h;refine qC g [0,1,2,3,4] ?_;refine qHX ⟨10,(CKr.y a 8)⟩<|gR 8 I ?_;obtain⟨d,i,h⟩:=h;refine qC i [9] ?_;refine qHX ⟨11,[(9,.row 47 3<|List.map ai.w d),(8,CKr.path_o a),(2,CKr.signatures_o a),(1,CKr.names_o a),(0,CKr.o a 1 2 8 9)]⟩<|gR 12 I ?_;subst h;exact gE O [] [(2,.sl 0)] [9] [.tmp 2]
def AK(m:Nat)(G:YT)(p1:cv)(a:Tree)(b:Bool)(J:Tree)(O:Int):Prop:=y6 [] f10 (q9<|.tup [.agg<|ak J,qi O]) [.seq<|xF<|aj f10] 88 [(0,.row 4<|kidsV G),(3,.box (cv.c p1) 0),(4,.ptr 0 0),(6,.ptr 1 0),(7,.bool b)] ⟨2,[(1,.var 29<|ak a),(0,vE 0 [])]⟩
def so(m:Nat)(a:CKr)(b:Int)(c:YT)(d:Nat)(G:Tree)(J:Int):Prop:=y4 m [] f10 (q9<|.tup [.agg<|ak G,qi J]) (xG<|xI<|xA<|xF<|aj f10) [.blk 0,.seq<|xI<|xI<|xA<|aj f10] 88 [(4,.ptr 0 0),(9,.ptr 1 0),(80,qi a.result_lists),(81,qi (d:Int))] ⟨3,[(2,.row 29 4<|kidsV c),(1,.var 29 [qi b,.str [],.nils,.sl 2]),(0,vE 0 [])]⟩
theorem jO(m:Nat)(G:YT)(p1:cv)(O:Tree)(U:Int)(h:∃a,mH G a∧((a=false)->(Tree.node 0 [] [] [])=O∧5=U)∧((a=true)->((p1.Module<0)->(Tree.node 0 [] [] [])=O∧5=U)∧((¬p1.Module<0)->(((G.length:Int)<=p1.Module)->(Tree.node 0 [] [] [])=O∧5=U)∧((¬(G.length:Int)<=p1.Module)->∃b,p1.Module=((b:Nat):Int)∧∃c,G[b]?=some c∧∃d e,oD c p1.Path d e∧AK m G p1 d e O U)))):jy G p1 O U:=by
 refine⟨I,I,?_⟩;refine qA 88 [] func10 λK J=>?_;refine gR 3 I<|gFP 0 I I I I<|gR 8 I ?_;obtain⟨a,l,h⟩:=h;refine qC0 l rfl<|gR 2 rfl<|qBhZ 13 12 rfl rfl rfl rfl h bD bC ?_ ?_<;>intro h;refine gR 23 I ?_;obtain⟨rfl,rfl⟩:=h;exact go_sub (F':=(mkF 88 0 [(4,.ptr 0 0),(5,qi 5)])) (H':=⟨1,[(0,vB ((Tree.node 0 [] [] []).kind) ((Tree.node 0 [] [] []).text) ((Tree.node 0 [] [] []).leads)<|(Tree.node 0 [] [] []).kids)]⟩) [1] [] I J pq2 ⟨⟨_,I,I,(.cons .rfl<|.cons .rfl<|.cons (.nil 1)<|.cons (.nil 4) .nil)⟩,trivial⟩ I<|qN [.cell 4 29,.tmp 5];refine gR 5 rfl<|qBdZ 18 17 rfl rfl rfl rfl h ?_ ?_<;>intro h;refine gR 18 I ?_;obtain⟨rfl,rfl⟩:=h;exact go_sub (F':=(mkF 88 0 [(4,.ptr 0 0),(5,qi 5)])) (H':=⟨1,[(0,vB ((Tree.node 0 [] [] []).kind) ((Tree.node 0 [] [] []).text) ((Tree.node 0 [] [] []).leads)<|(Tree.node 0 [] [] []).kids)]⟩) [1] [] I J pq2 ⟨⟨_,I,I,(.cons .rfl<|.cons .rfl<|.cons (.nil 1)<|.cons (.nil 4) .nil)⟩,trivial⟩ I<|qN [.cell 4 29,.tmp 5];refine gR 4 rfl<|gV 22 (qi (G.length:Int)) rfl (aN<|aD _) rfl<|gLB 21 rfl (aD _) λn=>gR 4 rfl<|qBd 24 rfl rfl rfl h ?_ ?_<;>intro h;refine gR 10 I ?_;obtain⟨rfl,rfl⟩:=h;exact go_sub (F':=(mkF 88 0 [(4,.ptr 0 0),(5,qi 5)])) (H':=⟨1,[(0,vB ((Tree.node 0 [] [] []).kind) ((Tree.node 0 [] [] []).text) ((Tree.node 0 [] [] []).leads)<|(Tree.node 0 [] [] []).kids)]⟩) [1] [] I J pq2 ⟨⟨_,I,I,(.cons .rfl<|.cons .rfl<|.cons (.nil 1)<|.cons (.nil 4) .nil)⟩,trivial⟩ I<|qN [.cell 4 29,.tmp 5];refine gR 4 I<|qDs [] 12 14<|qDr (qR 0 3 2 []) I I ?_;obtain⟨b,k,h⟩:=h;refine gV 29 (qi ((b:Nat):Int)) I (aT k) I ?_;obtain⟨c,f,h⟩:=h;refine gYd 3 I (by kernel_rfl) (aF (aq f) ah I I I I) I I<|qDr (qR 4 3 2 []) I I ?_;obtain⟨d,e,g,h⟩:=h;apply bK (i:=7) (j:=11) (by kernel_rfl) rfl rfl rfl rfl;exact(cz (L':=[]) (by kernel_rfl) I I (tH g .rfl [] I)<|.inl I);exact(bm ah I I);exact qDr (qR 8 3 2 [(11,0),(12,1),(13,1)]) I I<|qDe<|qJ J (h K J) [1,2];refine bG 7 g (by kernel_rfl) I (by kernel_rfl) I I .rfl I I ?_;exact qDr [(8,0),(9,2),(10,2),(12,1),(13,1)] I I<|qDe<|qJ J (h K J) [1,2]
theorem qx(m:Nat)(p0:YT)(p1:cv)(b:Tree)(d:Bool)(r0:Tree)(r1:Int)(h:y9 d ((Tree.node 0 [] [] [])=r0∧5=r1) (y7 (b.kind<10) ((Tree.node 0 [] [] [])=r0∧5=r1) (y7 (22<b.kind) ((Tree.node 0 [] [] [])=r0∧5=r1) (q9a b.kind 17 ((Tree.node 0 [] [] [])=r0∧5=r1) (∃c,jZ p0 c∧∃a,jn ({c with wanted_Module:=p1.Module,wanted_Path:=p1.Path}) a∧q9a a.result_simple 0 ((Tree.node 0 [] [] [])=r0∧20=r1) (so m a a.result_simple ([]:YT) 0 r0 r1)))))):AK (m+1) p0 p1 b d r0 r1:=by
 intro K hK;refine gR 7 rfl<|qXhZ 39 38 rfl rfl rfl rfl h bD bC ?_ ?_<;>intro hd h;refine gR 26 I ?_;obtain⟨rfl,rfl⟩:=h;exact go_sub (F':=(mkF 88 0 [(4,.ptr 0 0),(5,qi 5)])) (H':=⟨1,[(0,vB ((Tree.node 0 [] [] []).kind) ((Tree.node 0 [] [] []).text) ((Tree.node 0 [] [] []).leads) ((Tree.node 0 [] [] []).kids))]⟩) [0] [] I hK pq2 ⟨⟨_,I,I,(.cons .rfl (.cons .rfl (.cons (.nil 1) (.cons (.nil 4) .nil))))⟩,trivial⟩ I<|qN [.cell 4 29,.tmp 5];refine gR 5 rfl<|qXdZ 44 43 rfl rfl rfl rfl h ?_ ?_<;>intro hd h;refine gR 21 I ?_;obtain⟨rfl,rfl⟩:=h;exact go_sub (F':=(mkF 88 0 [(4,.ptr 0 0),(5,qi 5)])) (H':=⟨1,[(0,vB ((Tree.node 0 [] [] []).kind) ((Tree.node 0 [] [] []).text) ((Tree.node 0 [] [] []).leads) ((Tree.node 0 [] [] []).kids))]⟩) [0] [] I hK pq2 ⟨⟨_,I,I,(.cons .rfl (.cons .rfl (.cons (.nil 1) (.cons (.nil 4) .nil))))⟩,trivial⟩ I<|qN [.cell 4 29,.tmp 5];refine gR 5 rfl<|qXdZ 49 48 rfl rfl rfl rfl h ?_ ?_<;>intro hd h;refine gR 16 I ?_;obtain⟨rfl,rfl⟩:=h;exact go_sub (F':=(mkF 88 0 [(4,.ptr 0 0),(5,qi 5)])) (H':=⟨1,[(0,vB ((Tree.node 0 [] [] []).kind) ((Tree.node 0 [] [] []).text) ((Tree.node 0 [] [] []).leads) ((Tree.node 0 [] [] []).kids))]⟩) [0] [] I hK pq2 ⟨⟨_,I,I,(.cons .rfl (.cons .rfl (.cons (.nil 1) (.cons (.nil 4) .nil))))⟩,trivial⟩ I<|qN [.cell 4 29,.tmp 5];refine gR 6 rfl<|qXe 53 rfl rfl rfl h ?_ ?_<;>intro hd h;refine gR 10 I ?_;obtain⟨rfl,rfl⟩:=h;exact go_sub (F':=(mkF 88 0 [(4,.ptr 0 0),(5,qi 5)])) (H':=⟨1,[(0,vB ((Tree.node 0 [] [] []).kind) ((Tree.node 0 [] [] []).text) ((Tree.node 0 [] [] []).leads) ((Tree.node 0 [] [] []).kids))]⟩) [0] [] I hK pq2 ⟨⟨_,I,I,(.cons .rfl (.cons .rfl (.cons (.nil 1) (.cons (.nil 4) .nil))))⟩,trivial⟩ I<|qN [.cell 4 29,.tmp 5];refine gR 6 I ?_;obtain⟨c,e,h⟩:=h;refine qC e [] ?_;refine qHX ⟨7,[(6,CKr.faults_o c),(5,CKr.path_o c),(4,CKr.signatures_o c),(3,CKr.names_o c),(2,CKr.o c 3 4 5 6),(1,.var 29 (ak b)),(0,vE 0 [])]⟩<|gR 15 I ?_;obtain⟨a,f,h⟩:=h;refine qC f [2,3,4,5,6] ?_;refine qHX ⟨12,[(11,CKr.faults_o a),(10,CKr.path_o a),(4,CKr.signatures_o a),(3,CKr.names_o a),(2,CKr.o a 3 4 10 11),(1,.var 29 (ak b)),(0,vE 0 [])]⟩<|gR 13 rfl<|qXe 68 rfl rfl rfl h ?_ ?_<;>intro hd h;refine gR 10 I ?_;obtain⟨rfl,rfl⟩:=h;exact go_sub (F':=(mkF 88 0 [(4,.ptr 0 0),(5,qi 20)])) (H':=⟨1,[(0,vB ((Tree.node 0 [] [] []).kind) ((Tree.node 0 [] [] []).text) ((Tree.node 0 [] [] []).leads) ((Tree.node 0 [] [] []).kids))]⟩) [0] [] I hK pq2 ⟨⟨_,I,I,(.cons .rfl (.cons .rfl (.cons (.nil 1) (.cons (.nil 4) .nil))))⟩,trivial⟩ I<|qN [.cell 4 29,.tmp 5];exact gR 15 I<|go_sub (F':=(mkF 88 0 [(4,.ptr 0 0),(8,.ptr 1 0),(9,.ptr 2 0)])) (H':=⟨7,[(6,CKr.faults_o a),(5,CKr.path_o a),(4,CKr.signatures_o a),(3,CKr.names_o a),(2,vE a.result_simple []),(1,CKr.o a 3 4 5 6),(0,vE 0 [])]⟩) [0,2,12,3,4,10,11] [] I hK pq3 ⟨⟨_,I,I,I,(vH _ a.faults).symm⟩,⟨_,I,I,I,(vG _ a.path).symm⟩,⟨_,I,I,I,I,I⟩,⟨_,I,I,I,I,I⟩,(pqo3 I I I I I I)⟩ I<|gR 12 I<|go_loop m<|gNC 2 3 29 4 I I I I<|qW hK h [0,2,7]
theorem zE(m:Nat)(d:CKr)(a:Int)(b:YT)(c:Nat)(G:Tree)(J:Int)(h:y7 ((c:Int)<d.result_lists) (c+1<=9223372036854775807∧so m d 8 [(Tree.node a [] [] b)] (c+1) G J)<|(Tree.node a [] [] b)=G∧0=J):so (m+1) d a b c G J:=by
 refine qj λK U O e=>?_;refine gR 6 rfl<|qXd 82 rfl rfl rfl h ?_ ?_<;>intro Z h;refine gR 7 I<|gFR 2 I (dk _) I I<|gS 83 (.agg [qi a,.str [],.row 1 [],.row 4<|kidsV b]) I (.agg<|.cons .rfl<|.cons .rfl<|.cons (.nil 1)<|.cons .rfl .nil) I<|gR 1 I<|gHR 3 (kidsV [(Tree.node a [] [] b)]) I (mU<|Tree.node a [] [] b) I<|gR 6 I ?_;obtain⟨hb,h⟩:=h;exact gR 1 I<|gV 86 (qi ((c+1:Nat):Int)) I (ao (by omega)<|by omega) I<|gR 2 I<|go_xloop<|qW O h [0,1,3];refine gR 3 I<|go_xloopE<|gR 10 I<|gFR 2 I (dk _) I I ?_;obtain⟨rfl,rfl⟩:=h;exact go_sub (F':=(mkF 88 0 [(4,.ptr 0 0),(5,qi 0)])) (H':=⟨1,[(0,vB ((Tree.node a [] [] b).kind) ((Tree.node a [] [] b).text) ((Tree.node a [] [] b).leads)<|(Tree.node a [] [] b).kids)]⟩) [0] [] I O pq2 ⟨⟨_,I,I,(.cons .rfl<|.cons .rfl<|.cons (.nil 1)<|.cons .rfl .nil)⟩,trivial⟩ I<|qN [.cell 4 29,.tmp 5]
def tG:Tree:=.node 0 [] [] []
def sb(p:YT)(i d:Int):Tree:=match p[i.toNat]? with
 |none=>tG
 |some t=>match t.kids[d.toNat]? with
  |none=>tG
  |some a=>match a.kids with
   |[]=>tG
   |b::_=>b
def dX(p:YT):Nat->List (Int×Int)->Nat->Int->Tree->Tree×Int
 |0,_,_,_,_=>(tG,0)
 | f+1,seen,n,m,u=>
  if u.kind=9 then
   if(be p m u.text).2.2=false then(tG,7)
   else if((be p m u.text).1,(be p m u.text).2.1)∈seen then(tG,19)
   else dX p f (((be p m u.text).1,(be p m u.text).2.1)::seen) (n+lisK (sb p (be p m u.text).1 (be p m u.text).2.1)) (be p m u.text).1 (leafK<|sb p (be p m u.text).1 (be p m u.text).2.1)
  else(bY n<|.node u.kind [] [] [],0)
theorem Em{α:Type}[BEq α][LawfulBEq α]:∀(l m:List α),l.Nodup->(∀x∈l,x∈m)->l.length<=m.length
 |[],m,_,_=>aao _
 | x::l,m,hn,hs=>by
  obtain⟨h1,h2⟩:=List.nodup_cons.1 hn;have hx:x∈m:=hs x (by simp);have ih:=Em l (m.erase x) h2 λy hy=>by
   have hne:y≠x:=λe=>h1<|e▸hy;exact(List.mem_erase_of_ne hne).2 (hs y<|by simp[hy])
  rw[List.length_erase_of_mem hx]at ih;have :=List.length_pos_of_mem hx;simp only[aac];omega
def zY(i:Nat)(l:YT):List (Int×Int):=(List.range l.length).map λ(d:Nat)=>((i:Int),(d:Int))
def vf:Nat->YT->List (Int×Int)
 |_,[]=>[]
 |i,t::r=>zY i t.kids++vf (i+1) r
theorem Ef:∀(i:Nat) (p:YT),(vf i p).length<=kbulk p
 |_,[]=>aaf _
 |i,t::r=>by have :=Ef (i+1) r;have :=bt t;simp only[vf,aab,zY,List.length_map,List.length_range,kbulk];omega
theorem Eo:∀{j:Nat} {p:YT} {i d:Nat} {t a:Tree},p[i]?=some t->t.kids[d]?=some a->(((j+i:Nat):Int),(d:Int))∈vf j p
 |j,[],i,d,t,a,h,_=>by simp at h
 |j,u::r,0,d,t,a,h,G=>by simp only[List.getElem?_cons_zero,aad]at h;subst h;have :=(List.getElem?_eq_some_iff.1 G).1;simp only[vf,aai,zY,List.mem_map,List.mem_range];exact .inl ⟨d,this,I⟩
 |j,u::r,i+1,d,t,a,h,G=>by have :=Eo (j:=j+1) (p:=r) (i:=i) (by simpa using h) G;simp only[vf,aai];rw[show j+(i+1)=j+1+i by omega];exact .inr this
theorem vi{a b:Tree}(h1:p[i]?=some t)(h2:t.kids[d]?=some a)(G:a.kids=[b]):sb p i d=b:=by unfold sb;rw[Int.toNat_natCast,h1];simp only[Int.toNat_natCast,h2,G]
def pW(p:YT)(l:List<|Int×Int):Prop:=l.Nodup∧∀x∈l,x∈vf 0 p
theorem tB{l:List<|Int×Int}(h:pW p l):l.length<=kbulk p:=aaw (Em _ _ h.1 h.2)<|Ef 0 p
theorem Jm{p:YT}{M:Int}:∀{a:List<|YI×Tree} {x:ay},x∈aY p M a↔∃q u,(q,u)∈a∧dt u=true∧x=tgK p M q u
 |[],x=>by simp[aY]
 | (q,u)::r,x=>by
  have ih:=Jm (p:=p) (M:=M) (a:=r) (x:=x);simp only[aY,aai,ih];constructor
  ·rintro(h|⟨q',u',h1,h2,h3⟩)
   ·split at h
    ·rename_i hu;rw[List.mem_singleton]at h;exact⟨q,u,by simp,hu,h⟩
    ·cases h
   ·exact⟨q',u',by simp[h1],h2,h3⟩
  ·rintro⟨q',u',h1,h2,h3⟩;rcases List.mem_cons.1 h1 with h1|h1
   ·cases h1;exact .inl (by rw[if_pos h2];simp[h3])
   ·exact .inr ⟨q',u',h1,h2,h3⟩
theorem Bx{p:YT}:∀{i:Nat} {l:YT} {x:ay},x∈iv p i l↔∃j t q u,l[j]?=some t∧(q,u)∈nodK t []∧dt u=true∧x=tgK p ((i+j:Nat):Int) q u
 |i,[],x=>by simp[iv]
 | i,t::r,x=>by
  have ih:=Bx (p:=p) (i:=i+1) (l:=r) (x:=x);simp only[iv,aai,ih,Jm];constructor
  ·rintro(⟨q,u,h1,h2,h3⟩|⟨j,t',q,u,h0,h1,h2,h3⟩)
   ·exact⟨0,t,q,u,I,h1,h2,h3⟩
   ·exact⟨j+1,t',q,u,by simpa using h0,h1,h2,by rw[h3];congr 2;omega⟩
  ·rintro⟨j,t',q,u,h0,h1,h2,h3⟩;cases j with
   |zero=>simp at h0;subst h0;exact .inl ⟨q,u,h1,h2,h3⟩
   |succ j=>exact .inr ⟨j,t',q,u,by simpa using h0,h1,h2,by rw[h3];congr 2;omega⟩
theorem Et{u:Tree}{x:YI×Tree}:∀{l:YT} {q:YI} {i j:Nat},l[j]?=some u->x∈nodK u (q++[((i+j:Nat):Int)])->x∈nodKs l q i
 |[],q,i,j,h,_=>by simp at h
 |t::r,q,i,0,h,hx=>by simp only[List.getElem?_cons_zero,aad]at h;subst h;simp only[nodKs,aai];exact .inl (by simpa using hx)
 |t::r,q,i,j+1,h,hx=>by simp only[nodKs,aai];refine .inr (Et (i:=i+1) (j:=j) (by simpa using h) ?_);rw[show i+1+j=i+(j+1) by omega];exact hx
theorem Gd:∀(r:YI) {t u:Tree} {q:YI},atK t r=some u->(q++r,u)∈nodK t q
 |[],t,u,q,h=>by simp only[atK,aad]at h;subst h;rw[dH];simp
 | z::r,t,u,q,h=>by
  simp only[atK]at h;split at h
  ·cases h
  ·rename_i hz;cases hu:t.kids[z.toNat]? with
   |none=>rw[hu]at h;cases h
   |some v=>
    rw[hu]at h;have :=Gd r (q:=q++[z]) h;rw[dH,aah];refine .inr<|Et (j:=z.toNat) hu ?_;rw[Nat.zero_add,show((z.toNat:Nat):Int)=z by omega];simpa using this
theorem Qv:∀t,tyK t->∃q,atK t q=some (leafK t):=dp λt ih h=>by
 rcases nA h with⟨G,_,u,J,O⟩|⟨G,_⟩
 ·obtain⟨U,_⟩:=tC G J;obtain⟨q,Z⟩:=ih 0 u (by rw[J];rfl) O;exact⟨0::q,by simp[atK,J,Z,U]⟩
 ·exact⟨[],by rw[(kE G).1];rfl⟩
theorem My:∀t,tyK t->∀q u,atK t q=some u->dt u=true->u=leafK t:=dp λt ih h q u hq hu=>by
 rcases nA h with⟨h8,_,v,hv,hty⟩|⟨h8,hk,_⟩
 ·obtain⟨e1,_⟩:=tC h8 hv;cases q with
  |nil=>
   simp only[atK,aad]at hq;subst hq;simp[dt,h8]at hu
  | cons z q=>
   simp only[atK,hv]at hq;split at hq
   ·cases hq
   ·cases hz:z.toNat with
    |zero=>
     rw[hz]at hq;simp only[List.getElem?_cons_zero]at hq;rw[e1];exact ih 0 v (by rw[hv];rfl) hty q u hq hu
    |succ n=>rw[hz]at hq;simp at hq
 ·rw[(kE h8).1];cases q with
  |nil=>simp only[atK,aad]at hq;exact hq.symm
  |cons z q=>
   simp only[atK,hk]at hq;split at hq<;>simp at hq
def ip (p:List Tree) (a:Int×Int):Option (Int×Int):=if 0<=a.1∧0<=a.2 then match p[a.1.toNat]? with
    |none=>none
    | some t=>match t.kids[a.2.toNat]? with
      |none=>none
      |some x=>if x.kind=3∧(leafK<|sb p a.1 a.2).kind=9∧(be p a.1 (leafK<|sb p a.1 a.2).text).2.2=true then some ((be p a.1 (leafK<|sb p a.1 a.2).text).1,(be p a.1 (leafK<|sb p a.1 a.2).text).2.1)else none
  else none
theorem Gs{x:Tree}(h1:p[i]?=some t)(h2:t.kids[d]?=some x)(G:x.kind=3):ip p ((i:Int),(d:Int))=if(leafK<|sb p i d).kind=9∧(be p i (leafK<|sb p i d).text).2.2=true then some ((be p i (leafK<|sb p i d).text).1,(be p i (leafK<|sb p i d).text).2.1)else none:=by unfold ip;rw[if_pos ⟨Int.natCast_nonneg i,Int.natCast_nonneg d⟩];simp only[Int.toNat_natCast,h1,h2,G,true_and]
theorem vb{x:Tree}(hp:bk p=true)(h1:p[i]?=some t)(h2:t.kids[d]?=some x)(h3:x.kind=3):∃b,x.kids=[b]∧tyK b:=by
 obtain⟨g1,U⟩:=eK hp h1;have G:shapeK x=true:=by rw[cc]at U;simp only[aaa]at U;exact(dP U.2 h2).2
 rw[cc,h3]at G;simp only[aaa,aas]at G;have O:=G.1.1;have e:fb 3 x.kids.length=f0 x.kids.length 1 3 0 1:=rfl;rw[e]at O;have hn:x.kids.length=1:=by
  unfold f0 at O;split at O
  ·omega
  ·split at O
   ·omega
   ·omega
 match Z:x.kids,hn with
 |[b],_=>
  have J:=G.2;rw[Z]at J;simp only[shapeKs,aaa]at J;exact⟨b,I,J.1.2,by have :=J.1.1;simpa[jo]using this⟩
def Pj(p:YT)(x:ay):Bool:=!x.Free&&(match p[x.Use.Module.toNat]? with|none=>false|some t=>match t.kids[(x.Use.Path.getD 0 0).toNat]? with|none=>false|some a=>a.kind==3)
def gG(p:YT)(l:List<|(Int×Int)×aA)(x:ay):List ((Int×Int)×aA):=
 if Pj p x=true then ca (x.Use.Module,x.Use.Path.getD 0 0) (aA.mk x.Module x.Def) l else l
def gd(p:YT):List ((Int×Int)×aA):=(bL p).foldl (gG p) []
theorem MX{x:ay}(hp:bk p=true)(h:x∈bL p):∃(i d:Nat) (t a u:Tree) (q:YI),p[i]?=some t∧t.kids[d]?=some a∧x.Use.Module=(i:Int)∧x.Use.Path=(d:Int)::q∧atK a q=some u∧dt u=true∧x=tgK p (i:Int) ((d:Int)::q) u:=by
 unfold bL at h;rw[if_pos hp]at h;obtain⟨j,t,q,u,hj,hq,hu,rfl⟩:=Bx.1 h;rw[Nat.zero_add];have hat:=nodK_at t t [] rfl _ hq;simp only at hat;obtain⟨hk,_⟩:=eK hp hj;cases q with
 |nil=>
  simp only[atK,aad]at hat;subst hat;simp[dt,hk]at hu
 | cons z q=>
  simp only[atK]at hat;split at hat
  ·cases hat
  ·rename_i hz;cases ha:t.kids[z.toNat]? with
   |none=>rw[ha]at hat;cases hat
   |some a=>
    rw[ha]at hat;have e:((z.toNat:Nat):Int)=z:=by omega
    exact⟨j,z.toNat,t,a,u,q,hj,ha,I,by rw[e];rfl,hat,hu,by rw[e]⟩
theorem xo{x:ay}{a:Tree}{q:YI}(l:List<|(Int×Int)×aA)(h1:p[i]?=some t)(h2:t.kids[d]?=some a)(G:x.Use.Module=(i:Int))(J:x.Use.Path=(d:Int)::q):gG p l x=if x.Free=false∧a.kind=3 then ca ((i:Int),(d:Int)) (aA.mk x.Module x.Def) l else l:=by unfold gG Pj;rw[G,J];simp only[List.getD_cons_zero,Int.toNat_natCast,h1,h2,aaq,aaa,Bool.not_eq_true']
theorem Cz {p:List Tree} (hp:bk p=true):∀(T:List ay) (l:List<|(Int×Int)×aA),(∀x∈T,x∈bL p)->(∀k v,aI k l=some v->ip p k=some (v.module,v.def_))->∀k v,aI k (T.foldl (gG p) l)=some v->ip p k=some (v.module,v.def_)
 |[],l,_,hl,k,v,h=>hl k v h
 | x :: T,l,hT,hl,k,v,h=>by
  refine Cz hp T (gG p l x) (λy hy=>hT y<|by simp[hy]) (λk v hkv=>?_) k v h;obtain⟨i,d,t,a,u,q,h1,h2,h3,h4,h5,h6,h7⟩:=MX hp (hT x<|by simp);rw[xo l h1 h2 h3 h4]at hkv;split at hkv
  ·rename_i hc;rw[je]at hkv;split at hkv
   ·rename_i hk;simp only[aad]at hkv;subst hkv hk;obtain⟨b,hb,hty⟩:=vb hp h1 h2 hc.2;have hlf:u=leafK b:=by
     cases q with
     |nil=>
      simp only[atK,aad]at h5;subst h5;have :=hc.2;simp[dt,this]at h6
     | cons z q=>
      simp only[atK,hb]at h5;split at h5
      ·cases h5
      ·cases hz:z.toNat with
       |zero=>
        rw[hz]at h5;simp only[List.getElem?_cons_zero]at h5;exact My b hty q u h5 h6
       |succ n=>rw[hz]at h5;simp at h5
    have hal:=vi h1 h2 hb;have hk9:(leafK b).kind=9:=by obtain⟨g1,g2,_⟩:=nB b hty;have :=g1.2;simp only[gU,aaa,aas]at this;rw[hlf]at h6;simp only[dt,aaC,aaq]at h6;omega
    have hfr:=hc.1;rw[h7]at hfr⊢;simp only[tgK,Bool.not_eq_false']at hfr⊢;rw[Gs h1 h2 hc.2,hal,<-hlf,if_pos ⟨by rw[hlf];exact hk9,hfr⟩]
   ·exact hl k v hkv
  ·exact hl k v hkv
theorem Ek{p:YT}(k:Int×Int):∀(T:List ay) (l:List<|(Int×Int)×aA),aI k l≠none->aI k (T.foldl (gG p) l)≠none
 |[],l,h=>h
 | x::T,l,h=>by
  refine Ek k T (gG p l x) ?_;unfold gG;split
  ·rw[je];split
   ·simp
   ·exact h
  ·exact h
theorem Hz{p:YT}{k:Int×Int}{x:ay}(hx:∀l,aI k (gG p l x)≠none):∀(T:List ay) (l:List<|(Int×Int)×aA),x∈T->aI k (T.foldl (gG p) l)≠none
 |[],l,h=>by cases h
 |y::T,l,h=>by
  rcases List.mem_cons.1 h with rfl|h
  ·exact Ek k T _<|hx l
  ·exact Hz hx T _ h
theorem DJ {p:List Tree} (hp:bk p=true) (k:Int×Int):(aI k<|gd p).map (λv=>(v.module,v.def_))=ip p k:=by
 have hs:=Cz hp (bL p) [] (λ_ h=>h) (λk v h=>by cases h) k;cases hm:aI k (gd p)with
 |some v=>rw[hs v hm];rfl
 | none =>
  rw[Option.map_none];cases hn:ip p k with
  |none=>rfl
  | some v=>
   exfalso;have hn':=hn;unfold ip at hn;split at hn
   ·rename_i h0;cases h1:p[k.1.toNat]? with
    |none=>rw[h1]at hn;cases hn
    | some t=>
     cases h2:t.kids[k.2.toNat]? with
     |none=>rw[h1]at hn;simp only[h2]at hn;cases hn
     | some a=>
      rw[h1]at hn;simp only[h2]at hn;split at hn
      ·rename_i hc;obtain⟨b,hb,hty⟩:=vb hp h1 h2 hc.1;have e1:((k.1.toNat:Nat):Int)=k.1:=by omega
       have e2:((k.2.toNat:Nat):Int)=k.2:=by omega
       have hal:=vi h1 h2 hb;rw[e1,e2]at hal;rw[hal]at hc;obtain⟨q,hq⟩:=Qv b hty;have hat:atK t (k.2::0::q)=some (leafK b):=by simp[atK,h2,hb,hq,show¬k.2<0 by omega]
       have hx:tgK p k.1 (k.2::0::q) (leafK b)∈bL p:=by unfold bL;rw[if_pos hp];exact Bx.2 ⟨k.1.toNat,t,_,_,h1,by simpa using Gd _ (q:=[]) hat,by simp[dt,hc.2.1],by rw[Nat.zero_add,e1]⟩
       refine Hz (k:=k) (λl=>?_) (bL p) [] hx hm;rw[xo (i:=k.1.toNat) (d:=k.2.toNat) (q:=0::q) l h1 h2 (by rw[e1];rfl) (by rw[e2];rfl),if_pos ⟨by simp[tgK,hc.2.2],hc.1⟩,je,if_pos<|by rw[e1,e2]];simp
      ·cases hn
   ·cases hn
def jx{α:Type}(f:α->Nat):List α->Nat
 |[]=>0
 |x::r=>f x+jx f r
theorem FZ{α:Type}(f:α->Nat):∀a b:List α,jx f (a++b)=jx f a+jx f b
 |[],b=>by simp[jx]
 |x::a,b=>by simp only[aav,jx,FZ f a b];omega
theorem Ct{α:Type}[BEq α][LawfulBEq α](f:α->Nat){x:α}:∀{m:List α},x∈m->jx f m=f x+jx f (m.erase x)
 |[],h=>by cases h
 | y::m,h=>by
  rw[List.erase_cons];split
  ·rename_i e;rw[eq_of_beq e];rfl
  ·rename_i e;rcases List.mem_cons.1 h with rfl|h
   ·simp at e
   ·simp only[jx,Ct f h];omega
theorem Gv{α:Type}[BEq α][LawfulBEq α](f:α->Nat):∀(l m:List α),l.Nodup->(∀x∈l,x∈m)->jx f l<=jx f m
 |[],m,_,_=>aao _
 |x::l,m,G,hs=>by
  obtain⟨h1,h2⟩:=List.nodup_cons.1 G;rw[Ct f (hs x<|by simp),jx];have :=Gv f l (m.erase x) h2 λy hy=>(List.mem_erase_of_ne λ(e:y=x)=>h1 (by rw[<-e];exact hy)).2 (hs y<|by simp[hy]);omega
def uD(p:YT)(k:Int×Int):Nat:=lisK<|sb p k.1 k.2
theorem JK{P:YT}{j:Nat}(h:P[j]?=some t):jx (uD P) (zY j t.kids)<=kbulk t.kids:=by
 have go:∀(l:YT) (k:Nat),t.kids.drop k=l->jx (uD P) ((List.range' k l.length).map λ(d:Nat)=>((j:Int),(d:Int)))<=kbulk l:=λl=>by
  induction l with
  |nil=>intro k _;exact aao _
  | cons x r ih=>
   intro k hk;have hx:t.kids[k]?=some x:=by
    have :(t.kids.drop k)[0]?=some x:=by rw[hk];rfl
    simpa using this
   have hr:t.kids.drop (k+1)=r:=by
    have :(t.kids.drop k).drop 1=r:=by rw[hk];rfl
    simpa[List.drop_drop]using this
   have :=ih (k+1) hr;simp only[aac,List.range'_succ,aal,jx,kbulk];have e:uD P ((j:Int),(k:Int))<=tbulk x:=by
    unfold uD sb;simp only[Int.toNat_natCast,h,hx];cases hxk:x.kids with
    |nil=>
     have :lisK tG=0:=by unfold tG;rw[lisK,if_neg<|by decide]
     simp only[this];omega
    |cons b _=>
     simp only[];have :=(nd b).2;have :=aE (t:=x) (i:=0) (u:=b) (by rw[hxk];rfl);omega
   omega
 have :=go t.kids 0 rfl;unfold zY;rw[List.range_eq_range'];exact this
theorem FL(P:YT):∀(j:Nat) (r:YT),(∀i,P[j+i]?=r[i]?)->jx (uD P) (vf j r)<=kbulk r
 |j,[],_=>aao _
 |j,t::r,h=>by
  have G:P[j]?=some t:=by have :=h 0;simpa using this
  have :=JK G;have :=FL P (j+1) r λi=>by have :=h<|i+1;rw[show j+1+i=j+(i+1) by omega];simpa using this
  have :=aQ t;simp only[vf,FZ,kbulk];omega
theorem BX{l:List<|Int×Int}(h:pW p l):jx (uD p) l<=kbulk p:=aaw (Gv _ _ _ h.1 h.2) (FL p 0 p λi=>by simp)
theorem By(t:Tree):∀n,bY n (.node 8 [] [] [t])=.node 8 [] [] [bY n t]
 |0=>rfl
 |n+1=>by simp only[bY,By t n]
theorem Dy(ht:tyK t)(hb:tbulk t<=1000000000):qE t (leafK t) (lisK t):=by
 have loop:∀t,tyK t->∀i,i+tbulk t<=2000000000->pf (lisK t+1) t i (leafK t) ((i+lisK t:Nat):Int):=dp λt ih h i hi=>by
  rcases nA h with⟨G,_,u,hu,J⟩|⟨G,hk,_⟩
  ·obtain⟨O,U⟩:=tC G hu;have Z:t.kids[0]?=some u:=by rw[hu];rfl
   have :=aE Z;rw[O,U];refine wC _ _ _ _ _ ⟨λ_=>⟨u,Z,by omega,?_⟩,λh=>absurd G h⟩;rw[show i+(lisK u+1)=i+1+lisK u by omega];exact ih 0 u Z J (i+1) (by omega)
  ·obtain⟨O,U⟩:=kE G;rw[O,U];exact wC _ _ _ _ _ ⟨λh=>absurd h G,λ_=>⟨I,I⟩⟩
 have :=loop t ht 0 (by omega);rw[Nat.zero_add]at this;exact Dv _ _ _ _ this
theorem nf(p:YT)(hp:kbulk p<=1000000000):oa p (bk p):=by
 have hl:=fe p;have loop:∀m i,p.length-i<=m->mZ (m+1) p i (bk<|p.drop i):=λm=>by
  induction m with
  |zero=>
   intro i hi;refine uH 0 _ _ _ ⟨λh=>by omega,λh=>?_⟩;rw[List.drop_of_length_le (by omega),bk]
  | succ m ihm=>
   intro i hi;refine uH (m+1) _ _ _ ⟨λh=>?_,λh=>?_⟩
   ·obtain⟨u,hu,_⟩|h':=bd p i
    ·rw[aK hu,bk];have :=bn hu;refine⟨u,hu,λh1=>by simp[h1],λh1=>⟨_,tq u (by omega),λh2=>by simp[h1,h2],λh2=>⟨by omega,?_⟩⟩⟩;simp only[h1,h2,beq_self_eq_true,Bool.true_and];exact ihm (i+1) (by omega)
    ·exact absurd h h'
   ·rw[List.drop_of_length_le (by omega),bk]
 exact BQ _ _ _ (loop p.length 0<|by omega)
theorem EE(p:YT):(bL p).length<=kbulk p:=by
 unfold bL;split
 ·exact Ep p 0 p
 ·exact aao _
theorem Eu(hp:bk p=true)(hb:kbulk p<=100000000):nX p (gd p):=by
 have hl:=EE p;have hu:∀x∈bL p,_:=λx hx=>MX hp hx;obtain⟨T,hT⟩:∃T,T=bL p:=⟨_,rfl⟩;have loop:∀m i l,T.length-i<=m->im (m+1) p T l i ((T.drop i).foldl (gG p) l):=λm=>by
  induction m with
  |zero=>
   intro i l hi;refine uJ 0 _ _ _ _ _ ⟨λh=>by omega,λh=>?_⟩;rw[List.drop_of_length_le<|by omega];rfl
  | succ m ihm=>
   intro i l hi;refine uJ (m+1) _ _ _ _ _ ⟨λh=>?_,λh=>?_⟩
   ·obtain⟨x,hx,_⟩|h':=bd T i
    ·rw[aK hx,List.foldl_cons];obtain⟨j,d,t,a,u,q,h1,h2,h3,h4,h5,h6,h7⟩:=hu x<|hT▸List.mem_of_getElem? hx;have hs:=xo l h1 h2 h3 h4;rw[<-hT]at hl;refine⟨x,hx,(d:Int),by rw[h4];rfl,λhf=>⟨j,h3,t,h1,d,I,a,h2,λh3'=>⟨by omega,?_⟩,λh3'=>⟨by omega,?_⟩⟩,λhf=>⟨by omega,?_⟩⟩
     ·have :=ihm (i+1) (gG p l x) (by omega);rw[hs,if_pos ⟨hf,h3'⟩]at this⊢;rw[h3];exact this
     ·have :=ihm (i+1) (gG p l x) (by omega);rw[hs,if_neg λhc=>h3' hc.2]at this⊢;exact this
     ·have :=ihm (i+1) (gG p l x) (by omega);rw[hs,if_neg (λhc=>by rw[hf]at hc;cases hc.1)]at this⊢;exact this
    ·exact absurd h h'
   ·rw[List.drop_of_length_le<|by omega];rfl
 refine BV (T.length+1) _ _ ⟨T,hT▸Ed p hb,?_⟩;have :=loop T.length 0 [] (by omega);rw[List.drop_zero,hT]at this;rw[hT];exact this
theorem Mu{w:YB}(G:bk p=true)(J:0<=M)(h1:M<p.length)(hb:kbulk p<=100000000)(O:w.length<=1000000000):uv p M w (be p M w).1 (be p M w).2.1 (be p M w).2.2:=
 rS_link_Lookup 0 _ _ _ _ _ _ ⟨_,DZ p (by omega),λh=>(by rw[G]at h;cases h),λh=>⟨_,_,_,FA J h1 (by omega) O,rfl,rfl,rfl⟩⟩
theorem Gx:∀(k:Nat) (z:Int) (ks:YT) (i:Nat),i+k<=1000000000->kU (k+1) z ks i ((i+k:Nat):Int) (bY k<|.node z [] [] ks) 0
 |0,z,ks,i,h=>vq 0 _ _ _ _ _ _ ⟨λh=>by omega,λ_=>⟨rfl,rfl⟩⟩
 |k+1,z,ks,i,h=>by have :=Gx k 8 [.node z [] [] ks] (i+1) (by omega);rw[By,show i+1+k=i+(k+1) by omega]at this;exact vq (k+1) _ _ _ _ _ _ ⟨λ_=>⟨by omega,this⟩,λh=>by omega⟩
theorem CO{seen:List<|Int×Int}{l:List<|(Int×Int)×Bool}(h:∀k,aI k l=if k∈seen then some true else none)(a:Int×Int):∀k,aI k (ca a true l)=if k∈a::seen then some true else none:=λk=>by
 rw[je,h k];by_cases e:k=a
 ·rw[if_pos e,if_pos<|by simp[e]]
 ·rw[if_neg e];by_cases G:k∈seen
  ·rw[if_pos G,if_pos<|by simp[G]]
  ·rw[if_neg G,if_neg<|by simp[e,G]]
theorem pV{seen:List<|Int×Int}{a:Tree}(h:pW p seen)(h1:p[i]?=some t)(h2:t.kids[d]?=some a)(G:((i:Int),(d:Int))∉seen):pW p (((i:Int),(d:Int))::seen):=
 ⟨List.nodup_cons.2 ⟨G,h.1⟩,λx hx=>by
  rcases List.mem_cons.1 hx with rfl|hx
  ·have :=Eo (j:=0) h1 h2;simpa using this
  ·exact h.2 x hx⟩
theorem OZ{p:YT}(hp:bk p=true)(hb:kbulk p<=10000000):∀(f:Nat) (seen:List<|Int×Int) (n:Nat) (M:Int) (u:Tree) (b:Bool) (a1 a2:Int) (l:List<|(Int×Int)×Bool),pW p seen->kbulk p+1<=f+seen.length->tyK u->u.kind≠8->n<=10000000+jx (uD p) seen->(∀k,aI k l=if k∈seen then some true else none)->(u.kind=9->b=(be p M u.text).2.2∧(b=true->a1=(be p M u.text).1∧a2=(be p M u.text).2.1))->∃m,fg m p (gd p) u n b a1 a2 l (dX p f seen n M u).1 (dX p f seen n M u).2
 |0,seen,n,M,u,b,a1,a2,l,hs,hf,_,_,_,_,_=>by have :=tB hs;omega
 | f + 1,seen,n,M,u,b,a1,a2,l,hs,hf,hu,h8,hn,hl,hq=>by
  have hss:=BX hs;by_cases h9:u.kind=9
  ·obtain⟨q1,q2⟩:=hq h9;rw[dX,if_pos h9];by_cases hfd:(be p M u.text).2.2=false
   ·rw[if_pos hfd];rw[hfd]at q1;exact⟨1,mK 0 _ _ _ _ _ _ _ _ _ _ ⟨λ_=>⟨λ_=>⟨rfl,rfl⟩,λh=>(by rw[q1]at h;cases h)⟩,λh=>absurd h9 h⟩⟩
   ·rw [if_neg hfd];have hfd':(be p M u.text).2.2=true:=by simpa using hfd
    rw[hfd']at q1;obtain⟨e1,e2⟩:=q2 q1;subst q1;obtain⟨i,d,t,a,b',g1,g2,g3,g4,g5,g6,g7⟩:=uT hp h9 hu.1 hfd';rw[g1]at e1⊢;rw[g2]at e2⊢;subst e1 e2;by_cases hm:((i:Int),(d:Int))∈seen
    ·rw[if_pos hm];have hlk:=hl ((i:Int),(d:Int));rw[if_pos hm]at hlk;exact⟨1,mK 0 _ _ _ _ _ _ _ _ _ _ ⟨λ_=>⟨λh=>(by cases h),λ_=>⟨λh=>(by rw[hlk]at h;cases h),λd1 h=>⟨λ_=>⟨rfl,rfl⟩,λh'=>(by rw[hlk]at h;cases h;cases h')⟩⟩⟩,λh=>absurd h9 h⟩⟩
    ·rw[if_neg hm];have hlk:=hl ((i:Int),(d:Int));rw[if_neg hm]at hlk;have hal:=vi g3 g4 g6;rw[hal];obtain⟨t1,t2,_⟩:=nB b' g7;have hs':=pV hs g3 g4 hm;have hl':=CO hl ((i:Int),(d:Int));have hsum:jx (uD p) (((i:Int),(d:Int))::seen)=lisK b'+jx (uD p) seen:=by simp only[jx,uD,hal]
     have hss':=BX hs';have hbb:tbulk b'<=1000000000:=by have :=bn g3;have :=aE g4;have :=aE (t:=a) (i:=0) (u:=b') (by rw[g6];rfl);omega
     have hlo:=DJ hp ((i:Int),(d:Int));rw[Gs g3 g4 g5,hal]at hlo;have step:∀m,((aI ((i:Int),(d:Int)) (gd p)=none)->fg m p (gd p) (leafK b') ((n:Int)+(lisK b':Nat)) false 0 0 (ca ((i:Int),(d:Int)) true l) (dX p f (((i:Int),(d:Int))::seen) (n+lisK b') i<|leafK b').1 (dX p f (((i:Int),(d:Int))::seen) (n+lisK b') i<|leafK b').2)∧(∀(d3:aA),aI ((i:Int),(d:Int)) (gd p)=some d3->fg m p (gd p) (leafK b') ((n:Int)+(lisK b':Nat)) true d3.module d3.def_ (ca ((i:Int),(d:Int)) true l) (dX p f (((i:Int),(d:Int))::seen) (n+lisK b') i<|leafK b').1 (dX p f (((i:Int),(d:Int))::seen) (n+lisK b') i<|leafK b').2)->∃m,fg m p (gd p) u n true i d l (dX p f (((i:Int),(d:Int))::seen) (n+lisK b') i<|leafK b').1 (dX p f (((i:Int),(d:Int))::seen) (n+lisK b') i<|leafK b').2:=λm hk=>by
      have h2:od (m+1) p (gd p) u n i d l (dX p f (((i:Int),(d:Int))::seen) (n+lisK b') i<|leafK b').1 (dX p f (((i:Int),(d:Int))::seen) (n+lisK b') i<|leafK b').2:=
       rL2_types_Expand m _ _ _ _ _ _ _ _ _ ⟨i,rfl,t,g3,d,rfl,a,g4,b',by rw[g6];rfl,leafK b',_,Dy g7 hbb,by unfold InI;omega,hk.1,hk.2⟩
      exact⟨m+2,mK (m+1) _ _ _ _ _ _ _ _ _ _ ⟨λ_=>⟨λh=>(by cases h),λ_=>⟨λ_=>h2,λd1 h=>⟨λ_=>(by rw[hlk]at h;cases h),λ_=>(by rw[hlk]at h;cases h)⟩⟩⟩,λh=>absurd h9 h⟩⟩
     have ih:=λ(b:Bool) (a1 a2:Int)=>OZ hp hb f (((i:Int),(d:Int))::seen) (n+lisK b') i (leafK b') b a1 a2 _ hs' (by simp only[aac];omega) t1 t2 (by omega) hl';rw[show(n:Int)+((lisK b':Nat):Int)=((n+lisK b':Nat):Int) by omega]at step;cases hmm:aI ((i:Int),(d:Int)) (gd p)with
     | none=>
      rw[hmm]at hlo;obtain⟨m,hm⟩:=ih false 0 0 (λh9'=>⟨(by
       cases hx:(be p (i:Int) (leafK b').text).2.2 with
       |false=>rfl
       |true=>(rw[if_pos ⟨h9',hx⟩]at hlo;cases hlo)),λh=>(by cases h)⟩)
      rw[hmm]at step;exact step m ⟨λ_=>hm,λd3 h=>(by cases h)⟩
     | some v=>
      rw[hmm]at hlo;simp only[Option.map_some]at hlo;split at hlo
      ·rename_i hc;simp only[aad,Prod.mk.injEq]at hlo;obtain⟨m,hm⟩:=ih true v.module v.def_ λ_=>⟨hc.2.symm,λ_=>hlo⟩;rw[hmm]at step;exact step m ⟨λh=>(by cases h),λd3 h=>(by cases h;exact hm)⟩
      ·cases hlo
  ·rw[dX,if_neg h9];have :=Gx n u.kind [] 0 (by omega);rw[Nat.zero_add]at this;exact⟨n+2,mK (n+1) _ _ _ _ _ _ _ _ _ _ ⟨λh=>absurd h h9,λ_=>this⟩⟩
def ov(p:YT)(M:Int)(t:Tree):Tree×Int:=if bk p=true∧0<=M∧M<p.length∧gU t.kind=true∧shapeK t=true then dX p (kbulk p+1) [] (lisK t) M (leafK t)else(tG,5)
theorem NR(hb:kbulk p<=10000000)(M:Int)(ht:tbulk t<=10000000):tx p M t (ov p M t).1 (ov p M t).2:=by
 by_cases G:bk p=true∧0<=M∧M<p.length∧gU t.kind=true∧shapeK t=true
 ·have J:tyK t:=⟨G.2.2.2.2,G.2.2.2.1⟩;have hk:5<=t.kind∧t.kind<=9:=by simpa[gU]using G.2.2.2.1
  obtain⟨Z,t2,_⟩:=nB t J;obtain⟨b1,b2⟩:=nd t;have hlx:=cH<|leafK t;rw[ov,if_pos G];have O:pW p []:=⟨List.nodup_nil,λx h=>(by cases h)⟩;by_cases U:(leafK t).kind=9
  ·obtain⟨m,hm⟩:=OZ G.1 hb (kbulk p+1) [] (lisK t) M (leafK t) (be p M (leafK t).text).2.2 (be p M (leafK t).text).1 (be p M (leafK t).text).2.1 [] O (by simp) Z t2 (by omega) (λk=>by simp[aI]) (λ_=>⟨rfl,λ_=>⟨rfl,rfl⟩⟩);exact rI m _ _ _ _ _ ⟨_,nf p (by omega),λh=>(by rw[G.1]at h;cases h),λ_=>⟨λh=>by omega,λ_=>⟨λh=>by omega,λ_=>⟨λh=>by omega,λ_=>⟨λh=>by omega,λ_=>⟨_,tq t (by omega),λh=>(by rw[G.2.2.2.2]at h;cases h),λ_=>⟨leafK t,_,Dy J (by omega),λ_=>⟨_,_,_,Mu G.1 G.2.1 G.2.2.1 (by omega) (by omega),_,Eu G.1 (by omega),hm⟩,λh=>absurd U h⟩⟩⟩⟩⟩⟩⟩
  ·have :=Gx (lisK t) (leafK t).kind [] 0 (by omega);rw[Nat.zero_add]at this;rw[dX,if_neg U];exact rI (lisK t+1) _ _ _ _ _ ⟨_,nf p (by omega),λh=>(by rw[G.1]at h;cases h),λ_=>⟨λh=>by omega,λ_=>⟨λh=>by omega,λ_=>⟨λh=>by omega,λ_=>⟨λh=>by omega,λ_=>⟨_,tq t (by omega),λh=>(by rw[G.2.2.2.2]at h;cases h),λ_=>⟨leafK t,_,Dy J (by omega),λh=>absurd h U,λ_=>this⟩⟩⟩⟩⟩⟩⟩
 ·rw[ov,if_neg G];refine rI 0 _ _ _ _ _ ⟨_,nf p (by omega),λ_=>⟨I,I⟩,λh1=>⟨λ_=>⟨I,I⟩,λh2=>⟨λ_=>⟨I,I⟩,λh3=>⟨λ_=>⟨I,I⟩,λh4=>⟨λ_=>⟨I,I⟩,λh5=>⟨_,tq t (by omega),λ_=>⟨I,I⟩,λh6=>absurd ⟨h1,by omega,by omega,?_,h6⟩ G⟩⟩⟩⟩⟩⟩;simp[gU];omega
def qB(p:YT)(s:Int×Int):Nat->List (Int×Int)->Option (Int×Int)->Bool
 |0,_,_=>false
 |_+1,_,none=>false
 |f+1,seen,some a=>if a=s then true else if a∈seen then false else qB p s f (a::seen) (ip p a)
theorem MU{k a:Int×Int}(h:ip p k=some a):∃(i d:Nat) (t x:Tree),a=((i:Int),(d:Int))∧p[i]?=some t∧t.kids[d]?=some x:=by
 unfold ip at h;split at h
 ·split at h
  ·cases h
  ·split at h
   ·cases h
   ·split at h
    ·rename_i G;simp only[aad]at h;obtain⟨i,d,t,u,J,O,U,Z⟩:=Ns G.2.2;exact⟨i,d,t,u,by rw[<-h,J,O],U,Z⟩
    ·cases h
 ·cases h
theorem Mg{p:YT}(hp:bk p=true)(hb:kbulk p<=10000000)(s1 s2:Int):∀(f:Nat) (seen:List<|Int×Int) (k:Int×Int) (b:Bool) (a1 a2:Int) (l:List<|(Int×Int)×Bool),pW p seen->kbulk p+1<=f+seen.length->(s1,s2)∉seen->(∀k,aI k l=if k∈seen then some true else none)->(if b then some (a1,a2)else none)=ip p k->∃m,cu m s1 s2 (gd p) a1 a2 b l (qB p (s1,s2) f seen<|ip p k)
 |0,seen,k,b,a1,a2,l,hs,hf,_,_,_=>by have :=tB hs;omega
 | f +1,seen,k,b,a1,a2,l,hs,hf,hns,hl,hq=>by
  cases b with
  |false=>
   simp at hq;rw[<-hq,qB];exact⟨1,kJ 0 _ _ _ _ _ _ _ _ ⟨λh=>(by cases h),λ_=>rfl⟩⟩
  | true=>
   simp at hq;obtain⟨i,d,t,x,e,g3,g4⟩:=MU hq.symm;cases e;rw[<-hq,qB];have hlk:=hl ((i:Int),(d:Int));by_cases hm:((i:Int),(d:Int))∈seen
   ·rw[if_pos hm]at hlk;rw[if_neg (λ(e:((i:Int),(d:Int))=(s1,s2))=>hns (by rw[<-e];exact hm)),if_pos hm];exact⟨1,kJ 0 _ _ _ _ _ _ _ _ ⟨λ_=>⟨λh=>(by rw[hlk]at h;cases h),λd1 h=>⟨λh'=>(by rw[hlk]at h;cases h;cases h'),λ_=>rfl⟩⟩,λh=>(by cases h)⟩⟩
   ·rw[if_neg hm]at hlk;by_cases hst:((i:Int),(d:Int))=(s1,s2)
    ·rw[if_pos hst];have h1:lL 1 s1 s2 (gd p) i d l true:=tY 0 _ _ _ _ _ _ _ ⟨λ_=>rfl,λh=>absurd (Prod.mk.inj hst) h⟩;exact⟨2,kJ 1 _ _ _ _ _ _ _ _ ⟨λ_=>⟨λ_=>h1,λd1 h=>(by rw[hlk]at h;cases h)⟩,λh=>(by cases h)⟩⟩
    ·rw[if_neg hst,if_neg hm];have hst':¬((i:Int)=s1∧(d:Int)=s2):=λh=>hst (by rw[h.1,h.2]);have hs':=pV hs g3 g4 hm;have hl':=CO hl ((i:Int),(d:Int));have hlo:=DJ hp ((i:Int),(d:Int));have ih:=λ(b:Bool) (a1 a2:Int)=>Mg hp hb s1 s2 f (((i:Int),(d:Int))::seen) ((i:Int),(d:Int)) b a1 a2 _ hs' (by simp only[aac];omega) (λh=>by
      rcases List.mem_cons.1 h with h|h
      ·exact hst h.symm
      ·exact hns h) hl'
     have fin:∀m,((aI ((i:Int),(d:Int)) (gd p)=none)->cu m s1 s2 (gd p) 0 0 false (ca ((i:Int),(d:Int)) true l) (qB p (s1,s2) f (((i:Int),(d:Int))::seen)<|ip p ((i:Int),(d:Int))))∧(∀(d2:aA),aI ((i:Int),(d:Int)) (gd p)=some d2->cu m s1 s2 (gd p) d2.module d2.def_ true (ca ((i:Int),(d:Int)) true l) (qB p (s1,s2) f (((i:Int),(d:Int))::seen)<|ip p ((i:Int),(d:Int))))->∃m,cu m s1 s2 (gd p) i d true l (qB p (s1,s2) f (((i:Int),(d:Int))::seen)<|ip p ((i:Int),(d:Int))):=λm hk=>
      ⟨m+2,kJ (m+1) _ _ _ _ _ _ _ _ ⟨λ_=>⟨λ_=>tY m _ _ _ _ _ _ _ ⟨λh=>absurd h hst',λ_=>hk⟩,λd1 h=>(by rw[hlk]at h;cases h)⟩,λh=>(by cases h)⟩⟩
     cases hmm:aI ((i:Int),(d:Int)) (gd p)with
     |none=>
      rw[hmm]at hlo fin;obtain⟨m,hm⟩:=ih false 0 0 (by rw[<-hlo];rfl);exact fin m ⟨λ_=>hm,λd3 h=>(by cases h)⟩
     |some v=>
      rw[hmm]at hlo fin;obtain⟨m,hm⟩:=ih true v.module v.def_ (by rw[<-hlo];rfl);exact fin m ⟨λh=>(by cases h),λd3 h=>(by cases h;exact hm)⟩
def lG(p:YT)(M D:Int):Bool:=if bk p=true∧0<=M∧0<=D then qB p (M,D) (kbulk p+1) [] (ip p (M,D))else false
theorem Ix(hb:kbulk p<=10000000)(M D:Int):nh p M D (lG p M D):=by
 have nn:(∀t x,0<=M->0<=D->p[M.toNat]?=some t->t.kids[D.toNat]?=some x->False)->lG p M D=false:=λh=>by
  unfold lG;split
  ·rename_i hc;have :ip p (M,D)=none:=by
    unfold ip;rw[if_pos ⟨hc.2.1,hc.2.2⟩];split
    ·rfl
    ·rename_i t ht;split
     ·rfl
     ·rename_i x hx;exact(h t x hc.2.1 hc.2.2 ht hx).elim
   rw[this,qB]
  ·rfl
 have hlen:=λ(t:Tree) (ht:p[M.toNat]?=some t)=>(List.getElem?_eq_some_iff.1 ht).1;by_cases hp:bk p=true
 ·by_cases h0:M<0
  ·rw[nn λ_ _ h _ _ _=>by omega];exact rS_types_Circular 0 _ _ _ _ ⟨_,nf p (by omega),λ_=>I,λ_=>⟨λ_=>I,λh=>absurd h0 h⟩⟩
  by_cases h1:((p.length:Nat):Int)<=M
  ·rw[nn λt _ _ _ ht _=>by have :=hlen t ht;omega];exact rS_types_Circular 0 _ _ _ _ ⟨_,nf p (by omega),λ_=>I,λ_=>⟨λ_=>I,λ_=>⟨λ_=>I,λh=>absurd h1 h⟩⟩⟩
  by_cases h2:D<0
  ·rw[nn λ_ _ _ h _ _=>by omega];exact rS_types_Circular 0 _ _ _ _ ⟨_,nf p (by omega),λ_=>I,λ_=>⟨λ_=>I,λ_=>⟨λ_=>I,λ_=>⟨λ_=>I,λh=>absurd h2 h⟩⟩⟩⟩
  obtain⟨t,ht,_⟩|h':=bd p M.toNat
  ·by_cases h3:((t.kids.length:Nat):Int)<=D
   ·rw[nn λt' x _ _ ht' hx=>by
     rw[ht]at ht';cases ht';have :=(List.getElem?_eq_some_iff.1 hx).1;omega]
    exact rS_types_Circular 0 _ _ _ _ ⟨_,nf p (by omega),λ_=>I,λ_=>⟨λ_=>I,λ_=>⟨λ_=>I,λ_=>⟨λ_=>I,λ_=>⟨M.toNat,by omega,t,ht,λ_=>I,λh=>absurd h3 h⟩⟩⟩⟩⟩
   ·rw[lG,if_pos ⟨hp,by omega,by omega⟩];have hlo:=DJ hp (M,D);have hc:=λ(b:Bool) (a1 a2:Int)=>Mg hp hb M D (kbulk p+1) [] (M,D) b a1 a2 [] ⟨List.nodup_nil,λx h=>(by cases h)⟩ (by simp) (by simp) (λk=>by simp[aI]);have fin:∀m,((aI (M,D) (gd p)=none)->cu m M D (gd p) 0 0 false [] (qB p (M,D) (kbulk p+1) []<|ip p (M,D)))∧(∀(d2:aA),aI (M,D) (gd p)=some d2->cu m M D (gd p) d2.module d2.def_ true [] (qB p (M,D) (kbulk p+1) []<|ip p (M,D)))->nh p M D (qB p (M,D) (kbulk p+1) []<|ip p (M,D)):=λm hk=>
     rS_types_Circular m _ _ _ _ ⟨_,nf p (by omega),λh=>(by rw[hp]at h;cases h),λ_=>⟨λh=>absurd h h0,λ_=>⟨λh=>absurd h h1,λ_=>⟨λh=>absurd h h2,λ_=>⟨M.toNat,by omega,t,ht,λh=>absurd h h3,λ_=>⟨_,Eu hp (by omega),hk⟩⟩⟩⟩⟩⟩
    cases hmm:aI (M,D) (gd p)with
    |none=>
     rw[hmm]at hlo fin;obtain⟨m,hm⟩:=hc false 0 0 (by rw[<-hlo];rfl);exact fin m ⟨λ_=>hm,λd3 h=>(by cases h)⟩
    |some v=>
     rw[hmm]at hlo fin;obtain⟨m,hm⟩:=hc true v.module v.def_ (by rw[<-hlo];rfl);exact fin m ⟨λh=>(by cases h),λd3 h=>(by cases h;exact hm)⟩
  ·omega
 ·have hp':bk p=false:=by simpa using hp
  rw[lG,if_neg λh=>hp h.1];exact rS_types_Circular 0 _ _ _ _ ⟨_,nf p (by omega),λ_=>I,λh=>absurd h hp⟩
theorem wN(t:Tree):∀n m,bY n (bY m t)=bY (n+m) t
 |0,m=>by rw[bY,Nat.zero_add]
 |n+1,m=>by rw[bY,wN t n m,show n+1+m=n+m+1 by omega,bY]
theorem Qb(G:u.kind≠8)(n:Nat):kL (bY n u) u:=by
 have loop:∀n,jV (n+1) (bY n u) u:=λn=>by
  induction n with
  |zero=>exact rR _ _ _ ⟨λh=>absurd h G,λ_=>rfl⟩
  |succ n ih=>exact rR _ _ _ ⟨λ_=>⟨bY n u,rfl,ih⟩,λh=>absurd rfl h⟩
 exact zO _ _ _<|loop n
theorem RZ{u v:Tree}(G:u.kind≠8):∀n,mP (bY n u) v (bY n v)
 |0=>uK 0 _ _ _ ⟨λ_=>rfl,λh=>absurd h G⟩
 |n+1=>uK 0 _ _ _ ⟨λh=>absurd rfl h,λ_=>⟨bY n u,rfl,_,RZ G n,rfl⟩⟩
theorem TL(l:List<|Int×Int)(x:Int×Int):pJ l x (decide<|x∈l):=by
 have loop:∀m i,l.length-i<=m->kW (m+1) l x i (decide<|x∈l.drop i):=λm=>by
  induction m with
  |zero=>
   intro i hi;refine sW 0 _ _ _ _ ⟨λh=>by omega,λh=>?_⟩;rw[List.drop_of_length_le<|by omega];simp
  | succ m ihm=>
   intro i hi;refine sW (m+1) _ _ _ _ ⟨λh=>?_,λh=>?_⟩
   ·obtain⟨u,hu,_⟩|h':=bd l i
    ·rw[aK hu];refine⟨u,hu,λh1=>?_,λh1=>?_⟩
     ·have :x=u:=(Prod.ext h1.1 h1.2).symm;simp[this]
     ·have :x≠u:=λe=>h1 (by rw[e];exact⟨rfl,rfl⟩);have e:decide (x∈u::l.drop (i+1))=decide (x∈l.drop (i+1)):=by simp[this]
      rw[e];exact ihm (i+1) (by omega)
    ·exact absurd h h'
   ·rw[List.drop_of_length_le<|by omega];simp
 have :=loop l.length 0 (by omega);exact AJ _ _ _ _ this
theorem LK:∀t:Tree,tbulk t<=1000000000->iB t (bareK t):=dp λt ih hb=>by
 have hk:=bt t;have loop:∀m i l,t.kids.length-i<=m->l.length=i->i<=t.kids.length->jX (m+1) t l i (.node t.kind t.text []<|l++baresK (t.kids.drop i)):=λm=>by
  induction m with
  |zero=>
   intro i l hi hl hle;refine rP 0 _ _ _ _ ⟨λh=>by omega,λh=>?_⟩;rw[List.drop_of_length_le (by omega),baresK,aar]
  | succ m ihm=>
   intro i l hi hl hle;refine rP (m+1) _ _ _ _ ⟨λh=>?_,λh=>?_⟩
   ·obtain⟨u,hu,_⟩|h':=bd t.kids i
    ·have :=aE hu;rw[aK hu,baresK];refine⟨u,hu,_,ih i u hu (by omega),by simp;omega,?_⟩;have :=ihm (i+1) (l++[bareK u]) (by omega) (by simp[hl]) (by omega);rw[aaj]at this;exact this
    ·exact absurd h h'
   ·rw[List.drop_of_length_le (by omega),baresK,aar]
 have :=loop t.kids.length 0 [] (by omega) rfl (by omega);rw[aam,List.drop_zero,<-BU]at this;exact zL _ _ _ this
theorem GB{p:YT}(hp:bk p=true)(hb:kbulk p<=10000000):∀(f:Nat) (seen sl:List<|Int×Int) (n:Nat) (M:Int) (u:Tree),pW p seen->kbulk p+1<=f+seen.length->(∀k,k∈sl↔k∈seen)->sl.length=seen.length->tyK u->u.kind≠8->0<=M->M<p.length->u.text.length<=1000000000->∃m,jh m p M (bY n<|.node u.kind u.text [] []) sl (dX p f seen n M u).1 (dX p f seen n M u).2
 |0,seen,sl,n,M,u,hs,hf,_,_,_,_,_,_,_=>by have :=tB hs;omega
 | f +1,seen,sl,n,M,u,hs,hf,hsl,hll,hu,h8,h0,h1,hux=>by
  have hsn:=tB hs;have hleaf:=Qb (u:=.node u.kind u.text [] []) h8 n;by_cases h9:u.kind=9
  ·rw [dX,if_pos h9];have hfind:=Gh (p:=p) (w:=u.text) h0 h1 (by omega) hux;by_cases hfd:(be p M u.text).2.2=false
   ·rw[if_pos hfd];exact⟨1,iL 0 _ _ _ _ _ _ ⟨_,hleaf,λ_=>⟨_,hleaf,_,_,_,hfind,λ_=>⟨rfl,rfl⟩,λh=>(by rw[hfd]at h;cases h)⟩,λh=>absurd h9 h⟩⟩
   ·rw[if_neg hfd];have hfd':(be p M u.text).2.2=true:=by simpa using hfd
    obtain⟨i,d,t,a,b',g1,g2,g3,g4,g5,g6,g7⟩:=uT hp h9 hu.1 hfd';rw[hfd']at hfind;rw[g1,g2]at hfind⊢;have hmet:=TL sl ((i:Int),(d:Int));by_cases hm:((i:Int),(d:Int))∈seen
    ·rw[if_pos hm];rw[decide_eq_true<|(hsl _).2 hm]at hmet;exact⟨1,iL 0 _ _ _ _ _ _ ⟨_,hleaf,λ_=>⟨_,hleaf,_,_,_,hfind,λh=>(by cases h),λ_=>⟨_,hmet,λ_=>⟨rfl,rfl⟩,λh=>(by cases h)⟩⟩,λh=>absurd h9 h⟩⟩
    ·rw[if_neg hm];rw[decide_eq_false λh=>hm<|(hsl _).1 h]at hmet;have hal:=vi g3 g4 g6;rw[hal];obtain⟨t1,t2,t3⟩:=nB b' g7;have hs':=pV hs g3 g4 hm;have hil:=(List.getElem?_eq_some_iff.1 g3).1;have hbb:tbulk b'<=10000000:=by
      have :=bn g3;have :=aE g4;have :=aE (t:=a) (i:=0) (u:=b') (by rw[g6];rfl);omega
     have hbare:=LK b' (by omega);rw[t3]at hbare;have hin:=RZ (u:=.node u.kind u.text [] []) (v:=bY (lisK b')<|.node (leafK b').kind (leafK b').text [] []) h8 n;rw[wN]at hin;have hlb:=(nd b').1;have htl:=cH<|leafK b';obtain⟨m,hm'⟩:=GB hp hb f (((i:Int),(d:Int))::seen) (sl++[((i:Int),(d:Int))]) (n+lisK b') i (leafK b') hs' (by simp only[aac];omega) (λk=>by simp[hsl k];exact Or.comm) (by simp[hll]) t1 t2 (by omega) (by omega) (by omega);exact⟨m+1,iL m _ _ _ _ _ _ ⟨_,hleaf,λ_=>⟨_,hleaf,_,_,_,hfind,λh=>(by cases h),λ_=>⟨_,hmet,λh=>(by cases h),λ_=>⟨by simp;omega,i,rfl,t,g3,d,rfl,a,g4,b',(by rw[g6];rfl),_,hbare,_,hin,hm'⟩⟩⟩,λh=>absurd h9 h⟩⟩
  ·rw[dX,if_neg h9];have hx:u.text=[]:=by
    rcases nA hu with⟨h,_⟩|⟨_,_,h⟩
    ·exact absurd h h8
    ·exact h h9
   refine⟨1,iL 0 _ _ _ _ _ _ ⟨_,hleaf,λh=>absurd h h9,λ_=>⟨by rw[hx],I⟩⟩⟩
def KZ(B:Nat)(x:Tree×Int):Prop:=∃(n:Nat) (k:Int),x.1=bY n (.node k [] [] [])∧k≠8∧k≠9∧(x.2=0->5<=k∧k<=7)∧n<=B
theorem JS{e:Int}(G:e≠0):KZ B (tG,e):=⟨0,0,rfl,by decide,by decide,λh=>absurd h G,aao _⟩
theorem Ei{p:YT}(hp:bk p=true){B:Nat}:∀(f:Nat) (seen:List<|Int×Int) (n:Nat) (M:Int) (u:Tree),pW p seen->kbulk p+1<=f+seen.length->tyK u->u.kind≠8->n<=B+jx (uD p) seen->KZ (B+kbulk p) (dX p f seen n M u)
 |0,seen,n,M,u,hs,hf,_,_,_=>by have :=tB hs;omega
 | f +1,seen,n,M,u,hs,hf,hu,h8,hn=>by
  have hss:=BX hs;by_cases h9:u.kind=9
  ·rw[dX,if_pos h9];by_cases hfd:(be p M u.text).2.2=false
   ·rw[if_pos hfd];exact JS (by decide)
   ·rw[if_neg hfd];have hfd':(be p M u.text).2.2=true:=by simpa using hfd
    obtain⟨i,d,t,a,b',g1,g2,g3,g4,g5,g6,g7⟩:=uT hp h9 hu.1 hfd';rw[g1,g2];by_cases hm:((i:Int),(d:Int))∈seen
    ·rw[if_pos hm];exact JS (by decide)
    ·rw[if_neg hm];have hal:=vi g3 g4 g6;rw[hal];obtain⟨t1,t2,_⟩:=nB b' g7;exact Ei hp f (((i:Int),(d:Int))::seen) (n+lisK b') i (leafK b') (pV hs g3 g4 hm) (by simp only[aac];omega) t1 t2 (by simp only[jx,uD,hal];omega)
  ·rw[dX,if_neg h9];have :=hu.2;have hk:5<=u.kind∧u.kind<=9:=by simpa[gU]using hu.2
   exact⟨n,u.kind,I,h8,h9,λ_=>by omega,by omega⟩
theorem NH(p:YT)(M:Int)(t:Tree):KZ (tbulk t+kbulk p) (ov p M t):=by
 unfold ov;split
 ·rename_i G;obtain⟨J,O,_⟩:=nB t ⟨G.2.2.2.2,G.2.2.2.1⟩;obtain⟨U,Z⟩:=nd t;exact Ei G.1 _ _ _ _ _ ⟨List.nodup_nil,λx h=>by cases h⟩ (by simp) J O (by simp only[jx];omega)
 ·exact JS (by decide)
def noG:am:=⟨[],⟨0,0⟩⟩
theorem xV{l:YT}(h:l[i]?=some u):kbulk (l.drop i)=tbulk u+kbulk (l.drop<|i+1):=by rw[aK h,kbulk]
theorem zR{l:YT}(h:l[i]?=some u):uNs (l.drop i)=uN u+uNs (l.drop<|i+1):=by rw[aK h,uNs]
mutual
theorem tgs_uN(p:YT)(m:Int):∀(t:Tree) (q:YI),(aY p m<|nodK t q).length=uN t
 | .node k w ls ks,q=>by
  simp only[nodK,aY,aab,uN,tgs_uNs p m ks q 0,dt,Tree.kind];by_cases h:k=16∨k=9
  ·have h':(k==16||k==9)=true:=by simpa using h
   simp only[h',if_pos h,if_true,aac,aae,Nat.zero_add]
  ·have h':(k==16||k==9)=false:=by simpa using h
   simp only[h',if_neg h,aay,if_false,aae]
theorem tgs_uNs(p:YT)(m:Int):∀(l:YT) (q:YI) (i:Nat),(aY p m<|nodKs l q i).length=uNs l
 |[],q,i=>by simp[nodKs,aY,uNs]
 |t::r,q,i=>by simp only[nodKs,oA,aab,uNs,tgs_uN p m t,tgs_uNs p m r]
end
theorem Ga(p:YT):∀(l:YT) (i:Nat),(iv p i l).length=uNs l
 |[],i=>rfl
 |t::r,i=>by simp only[iv,aab,uNs,tgs_uN,Ga p r]
theorem Qo(ht:tyK t)(hb:tbulk t<=1000000000):mj t (leafK t) (lisK t:Nat):=by
 have loop:∀t,tyK t->∀i,i+tbulk t<=2000000000->kQ (lisK t+1) t i (leafK t) ((i+lisK t:Nat):Int):=dp λt ih h i hi=>by
  rcases nA h with⟨G,_,u,hu,J⟩|⟨G,hk,_⟩
  ·obtain⟨O,U⟩:=tC G hu;have Z:t.kids[0]?=some u:=by rw[hu];rfl
   have :=aE Z;rw[O,U];refine mY (lisK u+1) _ _ _ _ (⟨λ_=>⟨u,Z,by omega,?_⟩,λh=>absurd G h⟩);rw[show i+(lisK u+1)=i+1+lisK u by omega];exact ih 0 u Z J (i+1) (by omega)
  ·obtain⟨O,U⟩:=kE G;rw[O,U];exact mY 0 _ _ _ _<|⟨λh=>absurd h G,λ_=>⟨I,I⟩⟩
 have :=loop t ht 0 (by omega);rw[Nat.zero_add]at this;exact wI (lisK t+1) _ _ _<|this
theorem Al(n:Nat)(t:Tree):(bY (n+1) t).kind=8∧(bY (n+1) t).kids=[bY n t]:=⟨rfl,rfl⟩
theorem CM{k:Int}(G:k≠8):∀n,leafK (bY n<|.node k [] [] [])=.node k [] [] []∧lisK (bY n<|.node k [] [] [])=n
 |0=>kE G
 |n+1=>by
  obtain⟨J,O⟩:=tC (Al n<|.node k [] [] []).1 (Al n<|.node k [] [] []).2;obtain⟨U,Z⟩:=CM G n;rw[J,O,U,Z];exact⟨rfl,rfl⟩
theorem Nt{k:Int}(G:k≠8)(n:Nat)(J:n<=1000000000):mj (bY n<|.node k [] [] []) (.node k [] [] []) (n:Nat):=by
 have loop:∀j i,i+j<=1000000000->kQ (j+1) (bY j<|.node k [] [] []) i (.node k [] [] []) ((i+j:Nat):Int):=λj=>by
  induction j with
  |zero=>intro i hi;exact mY 0 _ _ _ _<|⟨λh=>absurd h G,λ_=>⟨rfl,rfl⟩⟩
  |succ j ih=>
   intro i hi;refine mY (j+1) _ _ _ _ (⟨λ_=>⟨bY j<|.node k [] [] [],I,by omega,?_⟩,λh=>absurd (Al j<|.node k [] [] []).1 h⟩);rw[show i+(j+1)=i+1+j by omega];exact ih (i+1) (by omega)
 have :=loop n 0 (by omega);rw[Nat.zero_add]at this;exact wI (n+1) _ _ _<|this
def knK(t:Tree):Kn:=⟨(leafK t).kind,(lisK t:Nat)⟩
def nmK(p:YT)(m:Int)(w:YB):Kn:=if(ov p m<|.node 9 w [] []).2=0 then knK (ov p m<|.node 9 w [] []).1 else⟨0,0⟩
def tyN(p:YT)(m:Int)(t:Tree):Kn:=if(leafK t).kind=9 then(if(nmK p m (leafK t).text).simple=0 then nmK p m (leafK t).text else⟨(nmK p m (leafK t).text).simple,(nmK p m (leafK t).text).lists+(lisK t:Nat)⟩)else knK t
theorem Gq(O:tyK u)(J:u.kind=9):ov p m u=ov p m (.node 9 u.text [] []):=by
 obtain⟨k,w,ls,ks⟩:=u;simp only[Tree.kind]at J;subst J;have G:ks=[]:=by
  rcases nA O with⟨U,_⟩|⟨_,G,_⟩
  ·simp[Tree.kind]at U
  ·exact G
 subst G;unfold ov;have Z:leafK (.node 9 w ls [])=.node 9 w ls []:=(kE<|by simp[Tree.kind]).1;have e2:leafK (.node 9 w [] [])=.node 9 w [] []:=(kE<|by simp[Tree.kind]).1;have e3:lisK (.node 9 w ls [])=0:=(kE<|by simp[Tree.kind]).2;have e4:lisK (.node 9 w [] [])=0:=(kE<|by simp[Tree.kind]).2;simp only[Tree.text,Z,e2,e3,e4,Tree.kind,shapeK,dX]
theorem Ds(p:YT)(m:Int)(w:YB):0<=(nmK p m w).lists∧(nmK p m w).lists<=((w.length+1+kbulk p:Nat):Int)∧((ov p m<|.node 9 w [] []).2=0->∃(n:Nat) (k:Int),(ov p m<|.node 9 w [] []).1=bY n (.node k [] [] [])∧5<=k∧k<=7∧nmK p m w=⟨k,(n:Int)⟩∧n<=w.length+1+kbulk p):=by
 obtain⟨n,k,h1,h2,h3,J,O⟩:=NH p m<|.node 9 w [] [];have hb:tbulk (.node 9 w [] [])=w.length+1:=by simp[tbulk,kbulk,fH]
 rw[hb]at O;unfold nmK;by_cases G:(ov p m<|.node 9 w [] []).2=0
 ·obtain⟨U,Z⟩:=CM h2 n;rw[if_pos G,h1];have e:knK (bY n<|.node k [] [] [])=⟨k,(n:Int)⟩:=by unfold knK;rw[U,Z];rfl
  rw[e];exact⟨by simp,by simp only;omega,λ_=>⟨n,k,rfl,(J G).1,(J G).2,rfl,by omega⟩⟩
 ·rw[if_neg G];exact⟨Int.le_refl _,by simp only;omega,λh=>absurd h G⟩
def pP(p:YT)(nm:List<|(Int×YB)×ac):Prop:=∀m w k,aI (m,w) nm=some k->k=nmK p m w
theorem pP.put{nm:List<|(Int×YB)×ac}(h:pP p nm)(m:Int)(w:YB):pP p (ca (m,w) (nmK p m w) nm):=λJ w' k G=>by
 rw[je]at G;split at G
 ·rename_i e;simp only[Prod.mk.injEq]at e;obtain⟨rfl,rfl⟩:=e;injection G with G;exact G.symm
 ·exact h J w' k G
theorem FN{c:CKr}(hc:c.p=p)(hb:kbulk p<=10000000)(hn:pP p c.names)(m:Int)(ht:tyK t)(hbt:tbulk t<=10000000):∃nm,pP p nm∧hO c m t (tyN p m t) {c with names:=nm}:=by
 obtain⟨l1,l2,_⟩:=nB t ht;obtain⟨b1,b2⟩:=nd t;have hs:=Qo ht (by omega);by_cases h9:(leafK t).kind=9
 ·obtain⟨f1,f2,f3⟩:=Ds p m (leafK t).text;have hw:=cH<|leafK t;have hx:=Gq (p:=p) (m:=m) l1 h9;cases hl:aI (m,(leafK t).text) c.names with
  |some k=>
   have hk:=hn _ _ _ hl;subst hk;refine⟨c.names,hn,jH 1 _ _ _ _ _<|⟨_,_,hs,λh=>absurd h9 h,λ_=>⟨λh=>(by rw[hl]at h;cases h),λd h=>?_⟩⟩⟩;rw[hl]at h;injection h with h;subst h
   refine og 0 _ _ _ _ _ _ _ _ _ (⟨λh=>(by cases h),λ_=>⟨λhz=>⟨⟨by omega,by omega⟩,?_,rfl⟩,λhz=>⟨?_,rfl⟩⟩⟩)
   ·unfold tyN;rw[if_pos h9,if_neg hz]
   ·unfold tyN;rw[if_pos h9,if_pos hz]
  | none=>
   have he:=NR hb m (t:=leafK t) (by omega);rw[hx]at he;refine⟨ca (m,(leafK t).text) (nmK p m (leafK t).text) c.names,hn.put m _,jH 2 _ _ _ _ _<|⟨_,_,hs,λh=>absurd h9 h,λ_=>⟨λ_=>?_,λd h=>(by rw[hl]at h;cases h)⟩⟩⟩;refine og 1 _ _ _ _ _ _ _ _ _ (⟨λ_=>⟨_,_,by rw[hc];exact he,?_⟩,λh=>(by cases h)⟩);refine uW 0 _ _ _ _ _ _ _ _ _ _<|⟨λh0=>?_,λh0=>⟨λh=>absurd I h,λ_=>?_⟩⟩
   ·obtain⟨n,k,g1,g2,g3,g4,g5⟩:=f3 h0;rw[g1];refine⟨_,_,Nt (by omega) n (by omega),λhz=>⟨⟨by omega,by omega⟩,?_,?_⟩,λhz=>absurd hz (by simp only[Tree.kind];omega)⟩
    ·unfold tyN;rw[if_pos h9,g4,if_neg (by simp only;omega)];rfl
    ·rw[g4];rfl
   ·have e:nmK p m (leafK t).text=⟨0,0⟩:=by unfold nmK;rw[if_neg h0]
    rw[e];refine⟨?_,I⟩;unfold tyN;rw[if_pos h9,e,if_pos rfl]
 ·exact⟨c.names,hn,jH 0 _ _ _ _ _<|⟨_,_,hs,λ_=>⟨by unfold tyN;rw[if_neg h9];rfl,I⟩,λh=>absurd h h9⟩⟩
def dZ(p:YT)(m:Int)(f:Tree):am:=⟨(f.kids.take<|f.kids.length-2).map λk=>tyN p m<|cC k 0,tyN p m<|cC f<|f.kids.length-2⟩
theorem SD{c:CKr}(hc:c.p=p)(hb:kbulk p<=10000000)(hn:pP p c.names)(m:Int)(hs:shapeK f=true)(h2:f.kind=2)(hbf:tbulk f<=10000000):∃nm,pP p nm∧lV c m f (dZ p m f) {c with names:=nm}:=by
 obtain⟨s1,s2,s3,_⟩:=oE hs h2;have hkl:=bt f;obtain⟨n,hnn⟩:∃n,n+2=f.kids.length:=⟨f.kids.length-2,by omega⟩;have hlt:(f.kids.take n).length=n:=by rw[aau];omega
 obtain⟨r,hr⟩:∃r,f.kids[n]?=some r:=⟨_,List.getElem?_eq_getElem<|by omega⟩;have hrt:=s3 r (by rw[show f.kids.length-2=n by omega];exact hr);have hkr:cC f (f.kids.length-2)=r:=by rw[show f.kids.length-2=n by omega];exact dF hr
 have hbr:=aE hr;have loop:∀(k i:Nat) (c:CKr),c.p=p->pP p c.names->k+i=n->∃nm,pP p nm∧it (k+1) m f n c ((f.kids.take i).map λk=>tyN p m<|cC k 0) i ⟨(f.kids.take n).map λk=>tyN p m<|cC k 0,tyN p m r⟩ {c with names:=nm}:=λk=>by
  induction k with
  |zero=>
   intro i c hc hn hi;have e:i=n:=by omega
   subst e;obtain⟨nm,g1,g2⟩:=FN hc hb hn m hrt (by omega);exact⟨nm,g1,pH 0 _ _ _ _ _ _ _ _<|⟨λh=>absurd h (by rw[hlt];omega),λ_=>⟨i,by omega,r,hr,_,_,g2,I,I⟩⟩⟩
  | succ k ih=>
   intro i c hc hn hi;obtain⟨u,hu⟩:∃u,f.kids[i]?=some u:=⟨_,List.getElem?_eq_getElem (by omega)⟩;obtain⟨v,hv4,hv,hvt⟩:=s2 i u hu (by omega);have hv0:u.kids[0]?=some v:=by rw[hv];rfl
   have hb1:=aE hu;have hb2:=aE hv0;obtain⟨nm,g1,g2⟩:=FN hc hb hn m hvt (by omega);obtain⟨nm',g3,g4⟩:=ih (i+1) {c with names:=nm} hc g1 (by omega);have e:((f.kids.take i).map λk=>tyN p m<|cC k 0)++[tyN p m v]=(f.kids.take<|i+1).map λk=>tyN p m (cC k 0):=by rw[List.take_add_one,hu,aax];simp[dF hv0]
   exact⟨nm',g3,pH (k+1) _ _ _ _ _ _ _ _<|⟨λ_=>⟨u,by rw[List.getElem?_take,if_pos<|by omega];exact hu,v,hv0,_,_,g2,by rw[e];simp;omega,by omega,by rw[e];exact g4⟩,λh=>absurd (by rw[hlt];omega) h⟩⟩
 obtain⟨nm,g1,g2⟩:=loop n 0 c hc hn (by omega);refine⟨nm,g1,xx (n+1) _ _ _ _ _<|⟨n,by omega,by omega,?_⟩⟩;unfold dZ;rw[hkr,show f.kids.length-2=n by omega];simpa using g2
def sgD(p:YT)(m:Int):YT->Nat->List ((Int×Int)×am)->List ((Int×Int)×am)
 |[],_,l=>l
 |f::r,d,l=>sgD p m r (d+1)<|if f.kind=2 then ca (m,(d:Int)) (dZ p m f) l else l
def sgM(p:YT):YT->Nat->List ((Int×Int)×am)->List ((Int×Int)×am)
 |[],_,l=>l
 |t::r,m,l=>sgM p r (m+1)<|sgD p (m:Int) t.kids 0 l
theorem Fx{p:YT}{t:Tree}{m:Nat}(hm:m<=1000000000)(hb:kbulk p<=10000000)(hok:∀(d:Nat) (f:Tree),t.kids[d]?=some f->shapeK f=true)(hbt:tbulk t<=10000000):∀(k d:Nat) (c:CKr),c.p=p->pP p c.names->k+d=t.kids.length->∃nm,pP p nm∧∀M r,gz M p (m+1) {c with names:=nm,signatures:=sgD p (m:Int) (t.kids.drop d) d c.signatures} r->∃M',gx M' p t d c m m r
 |0,d,c,hc,hn,hk=>by
  have hd:t.kids.drop d=[]:=List.drop_of_length_le (by omega);rw[hd];exact⟨c.names,hn,λM r h=>⟨M+1,ma M _ _ _ _ _ _ _<|⟨λh=>absurd h (by omega),λ_=>⟨by omega,h⟩⟩⟩⟩
 | k+1,d,c,hc,hn,hk=>by
  have hlt:d<t.kids.length:=by omega
  have hkl:=bt t;obtain⟨f,hf⟩:∃f,t.kids[d]?=some f:=⟨_,fV hlt⟩;have hbf:=aE hf;rw[aK hf,sgD];by_cases h2:f.kind=2
  ·obtain⟨nm,g1,g2⟩:=SD hc hb hn (m:Int) (hok d f hf) h2 (by omega);obtain⟨nm',g3,g4⟩:=Fx (m:=m) hm hb hok hbt k (d+1) {c with names:=nm,signatures:=ca ((m:Int),(d:Int)) (dZ p m f) c.signatures} hc g1 (by omega);rw[if_pos h2];refine⟨nm',g3,λM r h=>?_⟩;obtain⟨M',hM⟩:=g4 M r h;exact⟨M'+2,ma (M'+1) _ _ _ _ _ _ _<|⟨λ_=>⟨f,hf,λ_=>⟨_,_,g2,yA M' _ _ _ _ _ _ _<|⟨by omega,hM⟩⟩,λh=>absurd h2 h⟩,λh=>absurd hlt h⟩⟩
  ·obtain⟨nm',g3,g4⟩:=Fx (m:=m) hm hb hok hbt k (d+1) c hc hn (by omega);rw[if_neg h2];refine⟨nm',g3,λM r h=>?_⟩;obtain⟨M',hM⟩:=g4 M r h;exact⟨M'+1,ma M' _ _ _ _ _ _ _<|⟨λ_=>⟨f,hf,λh=>absurd h h2,λ_=>⟨by omega,hM⟩⟩,λh=>absurd hlt h⟩⟩
theorem Mv{p:YT}(G:∀(m:Nat) (t:Tree) (d:Nat) (f:Tree),p[m]?=some t->t.kids[d]?=some f->shapeK f=true)(hb:kbulk p<=10000000):∀(k m:Nat) (c:CKr),c.p=p->pP p c.names->k+m=p.length->∃nm,pP p nm∧∃M,gz M p m c {c with names:=nm,signatures:=sgM p (p.drop m) m c.signatures}
 |0,m,c,O,U,Z=>by
  have hd:p.drop m=[]:=List.drop_of_length_le (by omega);rw[hd];exact⟨c.names,U,1,rj 0 _ _ _ _<|⟨λh=>absurd h (by omega),λ_=>I⟩⟩
 |k+1,m,c,O,U,Z=>by
  have J:m<p.length:=by omega
  obtain⟨t,ht⟩:∃t,p[m]?=some t:=⟨_,List.getElem?_eq_getElem J⟩;have hbt:=bn ht;have hl:=fe p;rw[aK ht,sgM];obtain⟨nm,g1,g2⟩:=Fx (p:=p) (t:=t) (m:=m) (by omega) hb (λd f hf=>G m t d f ht hf) (by omega) t.kids.length 0 c O U (by omega);obtain⟨nm',g3,M,g4⟩:=Mv G hb k (m+1) {c with names:=nm,signatures:=sgD p (m:Int) t.kids 0 c.signatures} O g1 (by omega);obtain⟨M',hM⟩:=g2 M _ (by simpa using g4);exact⟨nm',g3,M'+1,rj M' _ _ _ _<|⟨λ_=>⟨t,ht,hM⟩,λh=>absurd J h⟩⟩
theorem Ew(J:bk p=true):∀(m:Nat) (t:Tree) (d:Nat) (f:Tree),p[m]?=some t->t.kids[d]?=some f->shapeK f=true:=λm t d f h1 h2=>by have G:=(eK J h1).2;rw[cc,aaa]at G;exact(dP G.2 h2).2
def cxN(p:YT)(nm:List<|(Int×YB)×ac)(wm:Int)(wp:YI):Cx:=⟨p,nm,sgM p p 0 [],0,[],wm,wp⟩
theorem vP(G:bk p=true)(hb:kbulk p<=10000000):∃nm,pP p nm∧jZ p (mkC (cxN p nm 0 []) ⟨bL p,[],0,0⟩):=by
 obtain⟨nm,h1,M,h2⟩:=Mv (Ew G) hb p.length 0 (CKr.mk p (bL p) [] [] 0 [] [] 0 [] 0 0) rfl (λm w k h=>by cases h) (by omega);exact⟨nm,h1,yD M _ _<|⟨_,Ed p (by omega),h2⟩⟩
theorem zw(p:YT)(m:Nat)(key:Int×Int):∀(ks:YT) (d:Nat) (l:List<|(Int×Int)×am),aI key (sgD p (m:Int) ks d l)=(if key.1=(m:Int)∧(d:Int)<=key.2∧key.2<((d+ks.length:Nat):Int)then(match ks[(key.2-(d:Int)).toNat]? with|some f=>if f.kind=2 then some (dZ p m f)else aI key l|none=>aI key l)else aI key l)
 |[],d,l=>by rw[sgD,if_neg];rintro⟨_,h1,h2⟩;simp only[aae]at h2;omega
 | f ::r,d,l=>by
  obtain⟨k1,k2⟩:=key;rw[sgD,zw p m (k1,k2) r (d+1) _];by_cases h1:k1=(m:Int)
  ·by_cases h2:k2=(d:Int)
   ·subst h1 h2;obtain⟨l',hl'⟩:∃l',l'=(if f.kind=2 then ca ((m:Int),(d:Int)) (dZ p m f) l else l):=⟨_,rfl⟩;rw[<-hl',if_neg (by simp only;omega)];have hc:((m:Int)=(m:Int)∧(d:Int)<=(d:Int)∧(d:Int)<((d+(f::r).length:Nat):Int)):=⟨rfl,Int.le_refl _,by simp;omega⟩;have hg:(f::r)[((d:Int)-(d:Int)).toNat]?=some f:=by simp
    by_cases hf:f.kind=2
    ·rw[if_pos hf]at hl';simp only[hg,if_pos hf];rw[if_pos ⟨trivial,hc.2⟩,hl',je,if_pos rfl]
    ·rw[if_neg hf]at hl';simp only[hg,if_neg hf];rw[if_pos ⟨trivial,hc.2⟩,hl']
   ·have hne:aI (k1,k2) (if f.kind=2 then ca ((m:Int),(d:Int)) (dZ p m f) l else l)=aI (k1,k2) l:=by
     split
     ·rw[je,if_neg λe=>h2<|by simpa using(Prod.mk.inj e).2]
     ·rfl
    rw[hne];by_cases h3:(d:Int)<k2∧k2<((d+1+r.length:Nat):Int)
    ·rw[if_pos ⟨h1,by simp only;omega,h3.2⟩,if_pos ⟨h1,by simp only;omega,by simp;omega⟩];simp only;rw[show(k2-(d:Int)).toNat=(k2-((d+1:Nat):Int)).toNat+1 by omega,List.getElem?_cons_succ]
    ·rw[if_neg (λh=>h3 ⟨by have :=h.2.1;simp only at this;omega,h.2.2⟩),if_neg λh=>h3 ⟨by have :=h.2.1;simp only at this;omega,by have :=h.2.2;simp at this;omega⟩]
  ·have hne:aI (k1,k2) (if f.kind=2 then ca ((m:Int),(d:Int)) (dZ p m f) l else l)=aI (k1,k2) l:=by
    split
    ·rw[je,if_neg λe=>h1<|by simpa using(Prod.mk.inj e).1]
    ·rfl
   rw[hne,if_neg λh=>h1 h.1,if_neg λh=>h1 h.1]
theorem Cn{P:YT}(key:Int×Int):∀(p:YT) (m:Nat) (l:List<|(Int×Int)×am) (q:am),aI key (sgM P p m l)=some q->(∃(i:Nat) (t:Tree) (d:Nat) (f:Tree),p[i]?=some t∧t.kids[d]?=some f∧f.kind=2∧key=(((m+i:Nat):Int),(d:Int))∧q=dZ P ((m+i:Nat):Int) f)∨aI key l=some q
 |[],m,l,q,h=>.inr h
 | t ::r,m,l,q,h=>by
  rw[sgM]at h;rcases Cn key r (m+1) _ q h with⟨i,t',d,f,h1,h2,h0,h3,h4⟩|h
  ·exact .inl ⟨i+1,t',d,f,h1,h2,h0,by rw[h3,show m+1+i=m+(i+1) by omega],by rw[h4,show m+1+i=m+(i+1) by omega]⟩
  ·rw [zw]at h;split at h
   ·rename_i hc;split at h
    ·rename_i f hf;split at h
     ·rename_i h0;injection h with h;subst h
      obtain⟨k1,k2⟩:=key;simp only at hc hf;exact .inl ⟨0,t,(k2-((0:Nat):Int)).toNat,f,rfl,hf,h0,by simp only[Prod.mk.injEq];omega,rfl⟩
     ·exact .inr h
    ·exact .inr h
   ·exact .inr h
theorem Fu{P:YT}{key:Int×Int}:∀(r:YT) (m:Nat) (l:List<|(Int×Int)×am),key.1<(m:Int)->aI key (sgM P r m l)=aI key l
 |[],_,_,_=>rfl
 |t::r,m,l,h=>by rw[sgM,Fu r (m+1) _ (by omega),zw,if_neg (λh'=>by have :=h'.1;omega)]
theorem yn{P:YT}{key:Int×Int}:∀(p:YT) (m i d:Nat) (l:List<|(Int×Int)×am) (t f:Tree),p[i]?=some t->t.kids[d]?=some f->f.kind=2->key=(((m+i:Nat):Int),(d:Int))->aI key (sgM P p m l)=some (dZ P ((m+i:Nat):Int) f)
 |[],m,i,d,l,t,f,h,_,_,_=>by simp at h
 |t0::r,m,0,d,l,t,f,h1,h2,J,G=>by simp only[List.getElem?_cons_zero,aad]at h1;subst h1;have O:=(List.getElem?_eq_some_iff.1 h2).1;rw[sgM,Fu r (m+1) _ (by rw[G];simp only;omega),zw,if_pos (by rw[G];simp only;omega),G];simp only;rw[show((d:Int)-((0:Nat):Int)).toNat=d by omega,h2];simp only[J,if_true];rfl
 |t0::r,m,i+1,d,l,t,f,h1,h2,J,G=>by rw[sgM];have :=yn (P:=P) (key:=key) r (m+1) i d (sgD P (m:Int) t0.kids 0 l) t f (by simpa using h1) h2 J (by rw[G,show m+1+i=m+(i+1) by omega]);rw[this,show m+1+i=m+(i+1) by omega]
theorem Pk(hb:tbulk t<=B):KOk (2*B+kbulk p+2) (tyN p m t):=by
 obtain⟨J,O⟩:=nd t;have U:=cH<|leafK t;obtain⟨G,Z,_⟩:=Ds p m (leafK t).text;unfold tyN;split
 ·split
  ·exact⟨G,by omega⟩
  ·exact⟨by simp only;omega,by simp only;omega⟩
 ·exact⟨by simp[knK],by simp only[knK];omega⟩
theorem Aj(t:Tree)(i:Nat):tbulk (cC t i)<=tbulk t:=by
 by_cases h:i<t.kids.length
 ·have :=aE<|fV h;omega
 ·have G:cC t i=.node 0 [] [] []:=by simp only[cC,List.getD_eq_getElem?_getD,List.getElem?_eq_none<|Nat.le_of_not_lt h];rfl
  have h1:=bt t;rw[G];simp[tbulk,kbulk,fH];omega
theorem Am(hb:tbulk f<=B):KOk (2*B+kbulk p+2) (dZ p m f).result∧∀q∈(dZ p m f).params,KOk (2*B+kbulk p+2) q:=by
 refine⟨Pk<|aaw (Aj f _) hb,λq J=>?_⟩;obtain⟨k,O,rfl⟩:=List.mem_map.1 J;have G:=List.mem_of_mem_take O;obtain⟨i,hi⟩:=List.getElem?_of_mem G;have :=aE hi;exact Pk (by have :=Aj k 0;omega)
def Cx.md(x:Cx)(m:Int):Cx:={x with mo:=m}
def yW(x:Cx)(d:Nat)(f:Tree)(s:Sv):Sv:=gk (tbulk f) (x.go ((0:Nat):Int)) (cC f 0)<|if lG x.p x.mo (d:Int)=true then faP x 5 [] s else s
def lf(x:Cx)(d:Nat)(f:Tree)(s:Sv):Sv:=if f.kind=2 then funS (x.go (d:Int)) f ((aI (x.mo,(d:Int)) x.sg).getD noG) s else yW (x.go (d:Int)) d f s
def gp(x:Cx):YT->Nat->Sv->Sv
 |[],_,s=>s
 |f::r,d,s=>gp x r (d+1)<|lf x d f s
def gc(x:Cx):YT->Nat->Sv->Sv
 |[],_,s=>s
 |t::r,m,s=>gc x r (m+1)<|gp (x.md (m:Int)) t.kids 0 s
def moF(z:Int):YT->Nat->Int
 |[],_=>z
 |_::r,m=>moF (m:Int) r<|m+1
structure DefOk (sg:List ((Int×Int)×am)) (L:Nat) (m d:Nat) (f:Tree):Prop where
 s:shapeK f=true
 k:f.kind=2->∃g,aI ((m:Int),(d:Int)) sg=some g∧f.kids.length=g.params.length+2∧∀q∈g.params,KOk L q
 a:f.kind≠2->∃b,f.kids=[b]∧tyK b
theorem LH{x:Cx}{P0:CKr}{t:Tree}{m L:Nat}(hx:x.mo=m)(hpb:kbulk x.p<=10000000)(hm:m<=1000000000)(hok:∀(d:Nat) (f:Tree),t.kids[d]?=some f->DefOk x.sg L m d f)(h16:∀(d:Nat) (f:Tree),t.kids[d]?=some f->f.kind=2∨f.kind=3)(hsg:∀k q,aI k x.sg=some q->KOk L q.result)(hkl:t.kids.length<=100000000):∀(k d:Nat) (s:Sv),k+d=t.kids.length->x.pa.length+kbulk (t.kids.drop d)+4<=100000000->s.fa.length+4*kbulk (t.kids.drop d)+1<=900000000->uNs (t.kids.drop d)<=s.tg.length->L+kbulk (t.kids.drop d)<=900000000->
  Sst (kbulk<|t.kids.drop d) (uNs<|t.kids.drop d) s (gp x (t.kids.drop d) d s)∧∀(M:Nat) (q:CKr),(∀s1,s1=gp x (t.kids.drop d) d s->fP M P0 (mkC x s1) (m+1) q)->∃M',cJ M' P0 t (mkC x s) d m m q
 |0,d,s,hk,_,_,_,_=>by
  have hd:t.kids.drop d=[]:=List.drop_of_length_le (by omega);rw[hd];exact⟨⟨by simp[gp,uNs],by simp[gp]⟩,λM q h=>⟨M+1,ly M _ _ _ _ _ _ _<|⟨λh=>absurd h (by omega),λ_=>⟨by omega,h _ rfl⟩⟩⟩⟩
 | k +1,d,s,hk,h1,h2,h3,h4=>by
  have hlt:d<t.kids.length:=by omega
  obtain⟨f,hf⟩:∃f,t.kids[d]?=some f:=⟨_,fV hlt⟩;obtain⟨o1,o2,o3⟩:=hok d f hf;have e1:=xV hf;have e2:=zR hf;have hxm:∀z,(x.go z).mo=m:=λz=>hx;have eD:gp x (t.kids.drop d) d s=gp x (t.kids.drop<|d+1) (d+1) (lf x d f s):=by rw[aK hf,gp]
  rw[eD];have key:Sst (tbulk f) (uN f) s (lf x d f s)∧∀M q,cJ M P0 t (mkC x<|lf x d f s) (d+1) m m q->∃M',cJ M' P0 t (mkC x s) d m m q:=by
   by_cases h2':f.kind=2
   ·obtain⟨g,g1,g2,g3⟩:=o2 h2';have eF:lf x d f s=funS (x.go (d:Int)) f g s:=by unfold lf;rw[if_pos h2',hx,g1];rfl
    rw[eF];obtain⟨a1,a2⟩:=KX (x:=x.go (d:Int)) (s:=s) (L:=L) (g:=g) o1 h2' g2 (by simp[Cx.go];omega) (by omega) (by omega) (by omega) g3 hsg;refine⟨a2,λM q h=>⟨M+2,ly (M+1) _ _ _ _ _ _ _<|⟨λ_=>⟨f,hf,_,lZ (x:=x) (s:=s) (d:Int) (by omega),λ_=>⟨λh=>absurd (h.symm.trans g1) (by simp),λg' hg'=>?_⟩,λh=>absurd h2' h⟩,λh=>absurd hlt h⟩⟩⟩;have hg'':aI ((m:Int),(d:Int)) x.sg=some g':=hg';rw[g1]at hg'';injection hg'' with hg''
    subst hg'';exact⟨_,a1,xk M _ _ _ _ _ _ _<|⟨_,kA (x:=x) (d:Int),by omega,h⟩⟩
   ·obtain⟨b,hb,hty⟩:=o3 h2';have hb0:f.kids[0]?=some b:=by rw[hb];rfl
    have hbb:=aE hb0;have hf3:f.kind≠16∧f.kind≠9:=by rcases h16 d f hf with h|h<;>omega
    have hu:uN f=uN b:=by rw[hJ,if_neg (by omega),hb];simp[uNs]
    have hc:=Ix hpb (m:Int) (d:Int);obtain⟨sf,hsf⟩:∃sf,sf=(if lG x.p (m:Int) (d:Int)=true then faP (x.go (d:Int)) 5 [] s else s):=⟨_,rfl⟩;have hsl:sf.fa.length<=s.fa.length+1∧sf.tg=s.tg:=by rw[hsf];split<;>simp[faP]
    have eA:lf x d f s=gk (tbulk f) ((x.go (d:Int)).go ((0:Nat):Int)) b sf:=by unfold lf yW;rw[if_neg h2',dF hb0,hxm,hsf];rfl
    rw[eA];obtain⟨a1,a2⟩:=CC (tbulk f) b (by omega) hty f 0 (x.go (d:Int)) sf hb0 (by simp[Cx.go];omega) (by omega) (by rw[hsl.2];omega);refine⟨⟨by rw[a2.tg,hsl.2,hu],by have :=a2.fa;omega⟩,λM q h=>⟨M+1,ly M _ _ _ _ _ _ _<|⟨λ_=>⟨f,hf,_,lZ (x:=x) (s:=s) (d:Int) (by omega),λh=>absurd h h2',λ_=>⟨_,hc,λhcc=>?_,λhcc=>?_⟩⟩,λh=>absurd hlt h⟩⟩⟩
    ·rw[if_pos hcc]at hsf;subst hsf;exact⟨_,fu (x:=x.go (d:Int)) (s:=s) 5 [] (by simp[Cx.go];omega) (by omega),_,a1,_,kA (x:=x) (d:Int),by omega,h⟩
    ·rw[if_neg (by rw[hcc];simp)]at hsf;subst hsf;exact⟨_,a1,_,kA (x:=x) (d:Int),by omega,h⟩
  obtain⟨k1,k2⟩:=key;generalize lf x d f s=s1 at k1 k2;have q1:=k1.fa;have q2:=k1.tg;obtain⟨b1,b2⟩:=LH (P0:=P0) hx hpb hm hok h16 hsg hkl k (d+1) s1 (by omega) (by omega) (by omega) (by rw[q2,aak];omega) (by omega);refine⟨⟨by rw[b1.tg,q2,List.drop_drop,e2],by have :=b1.fa;omega⟩,λM q h=>?_⟩;obtain⟨M',hM⟩:=b2 M q h;exact k2 M' q hM
theorem MD{x:Cx}{P0:CKr}{L:Nat}(hP0:P0.p=x.p)(hpb:kbulk x.p<=10000000)(hok:∀(m:Nat) (t:Tree) (d:Nat) (f:Tree),x.p[m]?=some t->t.kids[d]?=some f->DefOk x.sg L m d f∧(f.kind=2∨f.kind=3))(hsg:∀k q,aI k x.sg=some q->KOk L q.result):∀(k m:Nat) (z:Int) (s:Sv),k+m=x.p.length->x.pa.length+kbulk (x.p.drop m)+4<=100000000->s.fa.length+4*kbulk (x.p.drop m)+1<=900000000->(∀(m:Nat) (t:Tree),x.p[m]?=some t->t.kind=1)->uNs (x.p.drop m)<=s.tg.length->L+kbulk (x.p.drop m)<=900000000->
  Sst (kbulk<|x.p.drop m) (uNs<|x.p.drop m) s (gc x (x.p.drop m) m s)∧∃M,fP M P0 (mkC (x.md z) s) m<|mkC (x.md<|moF z (x.p.drop m) m)<|gc x (x.p.drop m) m s
 |0,m,z,s,hk,_,_,_,_,_=>by
  have hd:x.p.drop m=[]:=List.drop_of_length_le (by omega);rw[hd];exact⟨⟨by simp[gc,uNs],by simp[gc]⟩,1,pX 0 _ _ _ _<|⟨λh=>absurd h (by rw[hP0];omega),λ_=>rfl⟩⟩
 | k+1,m,z,s,hk,h1,h2,hk1,h3,h4=>by
  have hlt:m<x.p.length:=by omega
  obtain⟨t,ht⟩:∃t,x.p[m]?=some t:=⟨_,List.getElem?_eq_getElem hlt⟩;have e1:=xV ht;have e2:=zR ht;have hB:=aQ t;have hU:uN t=uNs t.kids:=by rw[hJ,hk1 m t ht];simp
  have hkl:=bt t;have hbt:=bn ht;have hlp:=fe x.p;obtain⟨a1,a2⟩:=LH (x:=x.md (m:Int)) (P0:=P0) (t:=t) (m:=m) (L:=L) rfl hpb (by omega) (λd f hf=>(hok m t d f ht hf).1) (λd f hf=>(hok m t d f ht hf).2) hsg (by omega) t.kids.length 0 s (by omega) (by simp[Cx.md];omega) (by simp;omega) (by simp;omega) (by simp;omega);simp only[List.drop_zero]at a1 a2;have q1:=a1.fa;have q2:=a1.tg;obtain⟨s1,hs1⟩:∃s1,s1=gp (x.md (m:Int)) t.kids 0 s:=⟨_,rfl⟩;rw[<-hs1]at a1 q1 q2;obtain⟨b1,M,hM⟩:=MD hP0 hpb hok hsg k (m+1) (m:Int) s1 (by omega) (by omega) (by omega) hk1 (by rw[q2,aak];omega) (by omega);have e:gc x (x.p.drop m) m s=gc x (x.p.drop<|m+1) (m+1) s1:=by rw[aK ht,gc,<-hs1]
  have e':moF z (x.p.drop m) m=moF (m:Int) (x.p.drop<|m+1) (m+1):=by rw[aK ht,moF]
  rw[e,e'];obtain⟨M',hM'⟩:=a2 M (mkC (x.md<|moF (m:Int) (x.p.drop<|m+1)<|m+1)<|gc x (x.p.drop<|m+1) (m+1) s1) λs2 hs2=>by rw[<-hs1]at hs2;subst hs2;exact hM
  refine⟨⟨by rw[b1.tg,q2,List.drop_drop,e2,hU],by have :=b1.fa;omega⟩,M'+1,pX M' _ _ _ _<|⟨λ_=>⟨t,by rw[hP0];exact ht,hM'⟩,λh=>absurd (by rw[hP0];exact hlt) h⟩⟩
def gm(p:YT)(nm:List<|(Int×YB)×ac)(wm:Int)(wp:YI):Sv:=gc (cxN p nm wm wp) p 0 ⟨bL p,[],0,0⟩
theorem IB(O:bk p=true):∀(m:Nat) (t:Tree) (d:Nat) (f:Tree),p[m]?=some t->t.kids[d]?=some f->DefOk (sgM p p 0 []) (3*kbulk p+2) m d f∧(f.kind=2∨f.kind=3):=λm t d f h1 h2=>by
 have hs:=Ew O m t d f h1 h2;obtain⟨k1,Z⟩:=eK O h1;have hw:=qV k1 Z h2;have hb1:=bn h1;have hb2:=aE h2;have G:f.kind=2∨f.kind=3:=by rcases hw with h|h;exact .inl h.1;exact .inr h.1
 refine⟨⟨hs,λJ=>?_,λJ=>vb O h1 h2 (by rcases G with h|h;exact absurd h J;exact h)⟩,G⟩;obtain⟨q1,_⟩:=oE hs J;have U:=yn (P:=p) (key:=((m:Int),(d:Int))) p 0 m d [] t f h1 h2 J (by simp);rw[Nat.zero_add]at U;refine⟨_,U,by simp[dZ];omega,λq hq=>?_⟩;have :=(Am (p:=p) (m:=(m:Int)) (f:=f) (B:=kbulk p)<|by omega).2 q hq;exact this.mono (by omega)
theorem JX(G:bk p=true)(hb:kbulk p<=10000000)(nm:List<|(Int×YB)×ac)(wm:Int)(wp:YI):Sst (kbulk p) (uNs p) ⟨bL p,[],0,0⟩ (gm p nm wm wp)∧∃z,jn (mkC (cxN p nm wm wp) ⟨bL p,[],0,0⟩) (mkC ((cxN p nm wm wp).md z)<|gm p nm wm wp):=by
 have ht:(bL p).length=uNs p:=by rw[bL,if_pos G,Ga]
 obtain⟨J,M,O⟩:=MD (x:=cxN p nm wm wp) (P0:=mkC (cxN p nm wm wp) ⟨bL p,[],0,0⟩) (L:=3*kbulk p+2) rfl hb (IB G) (λk q U=>by
  rcases Cn k p 0 [] q U with⟨i,t,d,f,h1,h2,J,_,rfl⟩|h
  ·have Z:=bn h1;have hb2:=aE h2;exact(Am (B:=kbulk p)<|by omega).1.mono (by omega)
  ·cases h) p.length 0 0 ⟨bL p,[],0,0⟩ (by simp[cxN]) (by simp[cxN];omega) (by simp[cxN];omega) (λm t h=>(eK G h).1) (by simp[cxN];omega) (by simp[cxN];omega)
 exact⟨J,_,ye M _ _<|O⟩
theorem sv(p:YT)(hb:kbulk p<=1000000000):mH p (bk p):=by
 have J:=fe p;have loop:∀k i,k+i=p.length->lH (k+1) p i (bk<|p.drop i):=λk=>by
  induction k with
  |zero=>
   intro i hi;have G:p.drop i=[]:=List.drop_of_length_le (by omega);rw[G];exact tV 0 _ _ _ (⟨λh=>absurd h (by omega),λ_=>I⟩)
  |succ k ih=>
   intro i hi;obtain⟨t,ht⟩:∃t,p[i]?=some t:=⟨_,List.getElem?_eq_getElem (by omega)⟩;have :=bn ht;rw[aK ht,bk];refine tV (k+1) _ _ _ (⟨λ_=>⟨t,ht,λh=>by simp[h],λh=>⟨_,tq t (by omega),λh'=>by simp[h'],λh'=>⟨by omega,?_⟩⟩⟩,λh=>absurd (by omega) h⟩);have :=ih (i+1) (by omega);simpa[h,h']using this
 have :=loop p.length 0 (by omega);exact Bo (p.length+1) _ _ (by simpa using this)
theorem Nx(hb:kbulk p<=10000000):(bk p=false->kX p [])∧(bk p=true->∃nm,pP p nm∧∀r,eV (gm p nm 0 []).fa r->kX p r):=by
 have J:=sv p (by omega);refine⟨λG=>vy 0 _ _ (⟨_,J,λ_=>rfl,λh=>(by rw[G]at h;cases h)⟩),λG=>?_⟩;obtain⟨nm,h1,h2⟩:=vP G hb;obtain⟨_,z,O⟩:=JX G hb nm 0 [];exact⟨nm,h1,λr hs=>vy 0 _ _<|⟨_,J,λh=>(by rw[G]at h;cases h),λ_=>⟨_,h2,_,O,_,hs,rfl⟩⟩⟩
abbrev Ty:=ae
abbrev Bd:=al
def lfT(k:Int)(n:Nat):Tree:=bY n<|.node k [] [] []
def noY:Ty:=⟨false,.node 0 [] [] []⟩
def TyR(k:Kn)(y:Ty):Prop:=(k.simple=0∧y.Known=false)∨(y.Known=true∧5<=k.simple∧k.simple<=7∧∃n:Nat,k.lists=(n:Int)∧y.T=lfT k.simple n)
theorem TyR.no:TyR ⟨0,0⟩ noY:=.inl ⟨rfl,rfl⟩
theorem TyR.leaf{k:Int}(h1:5<=k)(h2:k<=7):TyR ⟨k,0⟩ ⟨true,.node k [] [] []⟩:=.inr ⟨rfl,h1,h2,0,rfl,rfl⟩
theorem TyR.known{k:Kn}{y:Ty}(h:TyR k y):y.Known=(k.simple !=0):=by
 rcases h with⟨h1,h2⟩|⟨h1,h2,_⟩
 ·rw[h2,h1];rfl
 ·rw[h1];have :k.simple≠0:=by omega
  simp[this]
theorem TyR.kn{k:Kn}{y:Ty}(h:TyR k y)(hy:y.Known=true):k.simple≠0:=by have :=h.known;rw[hy]at this;simpa using this.symm
theorem TyR.un{k:Kn}{y:Ty}(h:TyR k y)(hy:y.Known=false):k.simple=0:=by have :=h.known;rw[hy]at this;simpa using this.symm
theorem CK{k k':Int}(h8:k≠8)(h8':k'≠8):∀n n':Nat,dw (lfT k n) (lfT k' n') (decide<|k=k'∧n=n')
 | 0,0=>by
  by_cases e:k=k'
  ·subst e;exact ik 1 _ _ _ (⟨λh=>absurd rfl h,λ_=>⟨λh=>absurd rfl h,λ_=>⟨_,Bs [],λh=>(by cases h),λ_=>⟨λh=>absurd rfl h,λ_=>mT 0 _ _ _ _<|⟨λh=>by simp[lfT,bY,Tree.kids]at h,λ_=>by simp⟩⟩⟩⟩⟩)
  ·exact ik 0 _ _ _ (⟨λ_=>by simp[e],λh=>absurd h e⟩)
 |0,n'+1=>ik 0 _ _ _ (⟨λ_=>by simp,λh=>absurd h h8⟩)
 |n+1,0=>ik 0 _ _ _ (⟨λ_=>by simp,λh=>absurd h.symm h8'⟩)
 |n+1,n'+1=>by
  have h2:=CK h8 h8' n n';have e:decide (k=k'∧n+1=n'+1)=decide (k=k'∧n=n'):=by simp
  rw[e];refine ik 2 _ _ _ (⟨λh=>absurd rfl h,λ_=>⟨λh=>absurd rfl h,λ_=>⟨_,Bs [],λh=>(by cases h),λ_=>⟨λh=>absurd rfl h,λ_=>mT 1 _ _ _ _<|⟨λ_=>⟨_,rfl,_,rfl,_,h2,λh=>h.symm,λh=>?_⟩,λh=>by simp[lfT,bY,Tree.kids]at h⟩⟩⟩⟩⟩);exact mT 0 _ _ _ _ (⟨λh=>by simp[lfT,bY,Tree.kids]at h,λ_=>h.symm⟩)
theorem nD{b:Kn}{y z:Ty}(O:TyR a y)(hb:TyR b z):bE y z (aZ a b):=by
 refine xY 0 _ _ _<|⟨λh1=>⟨λh2=>?_,λh2=>?_⟩,λh1=>?_⟩
 ·rcases O with⟨_,h⟩|⟨_,a1,a2,n,Z,a4⟩
  ·rw[h]at h1;cases h1
  rcases hb with⟨_,h⟩|⟨_,b1,b2,G,b3,b4⟩
  ·rw[h]at h2;cases h2
  refine⟨_,by rw[a4,b4];exact CK (by omega) (by omega) n G,?_⟩;have e1:(a.simple !=0)=true:=by simp;omega
  have e2:(b.simple !=0)=true:=by simp;omega
  unfold aZ;rw[e1,e2,Z,b3];by_cases J:a.simple=b.simple
  ·by_cases U:n=G
   ·simp[J,U]
   ·have :¬((n:Int)=(G:Int)):=by omega
    simp[J,U,this]
  ·simp[J]
 ·simp[aZ,hb.un h2]
 ·simp[aZ,O.un h1]
theorem iW(k:Int):br k ⟨true,.node k [] [] []⟩:=za 0 _ _<|rfl
theorem wA{y:Ty}(G:TyR a y){k:Int}(h1:5<=k)(h2:k<=7):da y k (a.simple==k&&a.lists==0):=by
 refine Bj 0 _ _ _<|⟨λh=>?_,λh=>?_⟩
 ·rcases G with⟨_,h'⟩|⟨_,Z,a2,n,J,O⟩
  ·rw[h']at h;cases h
  rw[O,J];cases n with
  |zero=>simp[lfT,bY,Tree.kind]
  |succ n=>
   have e:¬(8=k):=by omega
   have U:¬((n+1:Nat):Int)=0:=by omega
   show(8==k)=(a.simple==k&&((n+1:Nat):Int)==0);rw[beq_eq_false_iff_ne.2 e,beq_eq_false_iff_ne.2 U,Bool.and_false]
 ·have :=G.un h;have e:¬(0=k):=by omega
  rw[this,beq_eq_false_iff_ne.2 e,Bool.false_and]
theorem Hv{p:YT}(hp:bk p=true)(k:Nat):∀(f:Nat) (seen:List<|Int×Int) (n:Nat) (M:Int) (u:Tree),pW p seen->kbulk p+1<=f+seen.length->tyK u->u.kind≠8->
  (dX p f seen (k+n) M u).2=(dX p f seen n M u).2∧((dX p f seen n M u).2=0->(dX p f seen (k+n) M u).1=bY k (dX p f seen n M u).1)
 |0,seen,n,M,u,hs,hf,_,_=>by have :=tB hs;omega
 | f +1,seen,n,M,u,hs,hf,hu,h8=>by
  by_cases h9:u.kind=9
  ·rw[dX,dX,if_pos h9,if_pos h9];by_cases hfd:(be p M u.text).2.2=false
   ·rw[if_pos hfd,if_pos hfd];exact⟨rfl,λh=>(by cases h)⟩
   ·rw[if_neg hfd,if_neg hfd];have hfd':(be p M u.text).2.2=true:=by simpa using hfd
    obtain⟨i,d,t,a,b',g1,g2,g3,g4,g5,g6,g7⟩:=uT hp h9 hu.1 hfd';rw[g1,g2];by_cases hm:((i:Int),(d:Int))∈seen
    ·rw[if_pos hm,if_pos hm];exact⟨rfl,λh=>(by cases h)⟩
    ·rw[if_neg hm,if_neg hm,vi g3 g4 g6];obtain⟨t1,t2,t3⟩:=nB b' g7;have :=Hv hp k f (((i:Int),(d:Int))::seen) (n+lisK b') i (leafK b') (pV hs g3 g4 hm) (by simp only[aac];omega) t1 t2;rw[<-aat]at this;exact this
  ·rw[dX,dX,if_neg h9,if_neg h9];exact⟨I,λ_=>(wN _ _ _).symm⟩
def wrY(p:YT)(m:Int)(t:Tree):Ty:=⟨(dX p (kbulk p+1) [] (lisK t) m<|leafK t).2==0,(dX p (kbulk p+1) [] (lisK t) m<|leafK t).1⟩
theorem zZ(G:bk p=true)(hb:kbulk p<=10000000)(J:0<=m)(h1:m<p.length)(ht:tyK t)(O:tbulk t<=10000000){c:CHr}(U:c.P=p):bA c m t (wrY p m t) c:=by
 obtain⟨Z,l2,l3⟩:=nB t ht;obtain⟨b1,b2⟩:=nd t;have hx:=cH<|leafK t;obtain⟨M,hM⟩:=GB G hb (kbulk p+1) [] [] (lisK t) m (leafK t) ⟨List.nodup_nil,by simp⟩ (by simp) (by simp) rfl Z l2 J h1 (by omega);have hbare:=LK t (by omega);rw[l3]at hbare;exact ti 1 _ _ _ _ _ (⟨_,_,by rw[U];exact zx M _ _ _ _ _<|⟨_,hbare,hM⟩,sP 0 _ _ _ _ _<|⟨I,I⟩⟩)
theorem CL(Z:bk p=true)(h0:0<=m)(h1:m<p.length)(ht:tyK t):TyR (tyN p m t) (wrY p m t):=by
 obtain⟨G,l2,l3⟩:=nB t ht;have hk:5<=(leafK t).kind∧(leafK t).kind<=9:=by simpa[gU]using G.2
 obtain⟨e1,e2⟩:=kE l2;by_cases O:(leafK t).kind=9
 ·have hx:=Gq (p:=p) (m:=m) G O;have hg:ov p m (leafK t)=dX p (kbulk p+1) [] 0 m (leafK t):=by
   unfold ov;rw[if_pos ⟨Z,h0,h1,G.2,G.1⟩,e1,e2]
  have U:=Hv Z (lisK t) (kbulk p+1) [] 0 m (leafK t) ⟨List.nodup_nil,by simp⟩ (by simp) G l2;rw[show lisK t+0=lisK t from rfl,<-hg,hx]at U;obtain⟨f1,f2,f3⟩:=Ds p m (leafK t).text;unfold tyN wrY;rw[if_pos O,U.1];by_cases J:(ov p m<|.node 9 (leafK t).text [] []).2=0
  ·obtain⟨n,k,g1,g2,g3,g4,g5⟩:=f3 J;rw[U.2 J,g1,g4,if_neg (by simp only;omega),J,wN];exact .inr ⟨rfl,g2,g3,lisK t+n,by simp only;omega,rfl⟩
  ·have e:nmK p m (leafK t).text=⟨0,0⟩:=by unfold nmK;rw[if_neg J]
   rw[e,if_pos rfl];exact .inl ⟨I,by simpa using J⟩
 ·unfold tyN wrY;rw[if_neg O,dX,if_neg O];exact .inr ⟨rfl,hk.1,by simp only[knK];omega,lisK t,rfl,rfl⟩
end Go.Proofs.YtomplbgchbfjpaaGreatDoor
