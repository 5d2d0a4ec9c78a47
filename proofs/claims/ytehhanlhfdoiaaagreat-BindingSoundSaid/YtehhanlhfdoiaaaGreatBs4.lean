/- Contracts of the functions that the law reaches, part 4. -/
import Derived.Test.YtehhanlhfdoiaaaGreatBs3
set_option linter.unusedVariables false
set_option linter.unusedSimpArgs false
namespace Go.Proofs.YtehhanlhfdoiaaaGreat
open _root_.Go.Proofs.Tryz
open Go.RowKit Lx Sx
set_option maxRecDepth 100000
set_option maxHeartbeats 4000000
structure ae where
 t:Tree
 parent:Int
 index:Int
 kids:(List Int)
abbrev ae.c(x:ae):List V:=[.int .i64 x.t.kind,.str x.t.text,.row 1 (x.t.leads.map .str),.row 4 (kidsV x.t.kids),.int .i64 x.parent,.int .i64 x.index,.row 1 (List.map (V.int .i64) x.kids)]
abbrev ae.w(x:ae):V:=.agg x.c
structure ah where
 module:Int
 number:Int
abbrev ah.c(x:ah):List V:=[.int .i64 x.module,.int .i64 x.number]
abbrev ah.w(x:ah):V:=.agg x.c
structure ak where
 N:Int
 Flag:Bool
 Text:(List UInt8)
 Ref:Int
abbrev ak.c(x:ak):List V:=[.int .i64 x.N,.bool x.Flag,.str x.Text,.int .i64 x.Ref]
structure aj where
 Id:Int
 Field:Int
 V_:ak
abbrev aj.c(x:aj):List V:=[.int .i64 x.Id,.int .i64 x.Field,.int .i64 x.V_.N,.bool x.V_.Flag,.str x.V_.Text,.int .i64 x.V_.Ref]
abbrev aj.w(x:aj):V:=.agg x.c
def bh:KeyT prog 3 Int (V.int .i64):=QH underlying3
abbrev vE(a0:Int)(a1:V)(a2:YI)(a3:V):Ob:=.var 58 [.int .i64 a0,a1,.row 1 (List.map (V.int .i64) a2),a3,.sl 2]
abbrev vF(a0:Int)(a1:V)(a2:YB)(a3:Int):Ob:=.var 42 [.int .i64 a0,a1,.str a2,.int .i64 a3]
theorem vG(σ:YN)(l):renL σ (List.map aj.w l)=List.map aj.w l:=dH σ aj.w (λ_=>rfl) l
abbrev vC(a0:Int)(a1:YB)(a2:List YB)(a3:YT):Ob:=.var 26 [.int .i64 a0,.str a1,.row 1 (List.map V.str a2),.row 4 (kidsV a3)]
def rI(E:Tree)(G J:Int)(U:List ae):Prop:=qS 23 [.agg<|an E,qi G,qi J,.nils]<|.row 7<|List.map ae.w U
def jz(E:List ae)(G:Int)(J:YI)(U:Int):Prop:=qS 55 [.row 7<|List.map ae.w E,qi G,.row 1<|List.map (V.int .i64) J]<|qi U
def nV(E G:Int):Prop:=qS 58 [qi E]<|qi G
def oq(E:Tree)(G:Int):Prop:=qS 99 [.agg<|an E]<|qi G
def cV(d:Int)(a:(List<|List ae))(b:YI)(e:(List<|List<|Int×ah))(c:List aj)(E G J:Int):Prop:=cb [] prog 57 [.ptr 0 0,qi E,qi G] ⟨3,[(2,.row 44 6<|List.map aj.w c),(1,.mps 61 3 105<|List.map (bA (V.int .i64) ah.w) e),(0,vE d (.row 1<|List.map (λl=>V.row 7<|List.map ae.w l) a) b<|.mm 1 .row)]⟩<|z7 (qi J) ⟨3,[(2,.row 44 6<|List.map aj.w c),(1,.mps 61 3 105<|List.map (bA (V.int .i64) ah.w) e),(0,vE d (.row 1<|List.map (λl=>V.row 7<|List.map ae.w l) a) b<|.mm 1 .row)]⟩
def cd(d:Int)(a:(List<|List ae))(b:YI)(e:(List<|List<|Int×ah))(f:List aj)(E G:Int)(J:ak)(g:List aj):Prop:=cb [] prog 59 [.ptr 0 0,qi E,qi G,.agg<|ak.c J] ⟨3,[(2,.row 44 6<|List.map aj.w f),(1,.mps 61 3 105<|List.map (bA (V.int .i64) ah.w) e),(0,vE d (.row 1<|List.map (λl=>V.row 7<|List.map ae.w l) a) b<|.mm 1 .row)]⟩<|z7 (.tup []) ⟨3,[(2,.row 44 6<|List.map aj.w g),(1,.mps 61 3 105<|List.map (bA (V.int .i64) ah.w) e),(0,vE d (.row 1<|List.map (λl=>V.row 7<|List.map ae.w l) a) b<|.mm 1 .row)]⟩
def ju(e:Int)(a:(List<|List ae))(b:YI)(f:(List<|List<|Int×ah))(d:List aj)(E G:Int)(J:ak):Prop:=cb [] prog 60 [.ptr 0 0,qi E,qi G] ⟨3,[(2,.row 44 6<|List.map aj.w d),(1,.mps 61 3 105<|List.map (bA (V.int .i64) ah.w) f),(0,vE e (.row 1<|List.map (λl=>V.row 7<|List.map ae.w l) a) b<|.mm 1 .row)]⟩<|z7 (.agg<|ak.c J) ⟨4,[(2,.row 44 6<|List.map aj.w d),(1,.mps 61 3 105<|List.map (bA (V.int .i64) ah.w) f),(0,vE e (.row 1<|List.map (λl=>V.row 7<|List.map ae.w l) a) b<|.mm 1 .row)]⟩
def jb(e:Int)(a:(List<|List ae))(b:YI)(f:(List<|List<|Int×ah))(d:List aj)(E G:Int)(J:ak):Prop:=cb [] prog 61 [.ptr 0 0,qi E,qi G] ⟨3,[(2,.row 44 6<|List.map aj.w d),(1,.mps 61 3 105<|List.map (bA (V.int .i64) ah.w) f),(0,vE e (.row 1<|List.map (λl=>V.row 7<|List.map ae.w l) a) b<|.mm 1 .row)]⟩<|z7 (.agg<|ak.c J) ⟨4,[(2,.row 44 6<|List.map aj.w d),(1,.mps 61 3 105<|List.map (bA (V.int .i64) ah.w) f),(0,vE e (.row 1<|List.map (λl=>V.row 7<|List.map ae.w l) a) b<|.mm 1 .row)]⟩
def fT(c:Int)(a:(List<|List ae))(b:YI)(d:(List<|List<|Int×ah))(e:List aj)(E G:Int)(f:List aj):Prop:=cb [] prog 26 [.ptr 0 0,qi E,qi G] ⟨3,[(2,.row 44 6<|List.map aj.w e),(1,.mps 61 3 105<|List.map (bA (V.int .i64) ah.w) d),(0,vE c (.row 1<|List.map (λl=>V.row 7<|List.map ae.w l) a) b<|.mm 1 .row)]⟩<|z7 (.tup []) ⟨3,[(2,.row 44 6<|List.map aj.w f),(1,.mps 61 3 105<|List.map (bA (V.int .i64) ah.w) d),(0,vE c (.row 1<|List.map (λl=>V.row 7<|List.map ae.w l) a) b<|.mm 1 .row)]⟩
def kZ(m:Nat)(G:List ae)(E:YI)(a:Int)(b:Nat)(J:Int):Prop:=z8 m [] f55 (z6<|qi J) (xI<|cB<|ab f55) [.blk 0,.seq<|xA<|ab f55] 25 [(0,.row 7<|List.map ae.w G),(1,qi a),(9,.row 1<|List.map (V.int .i64) E),(10,qi (E.length:Int)),(11,qi (b:Int))] ⟨0,[]⟩
theorem Bv(m:Nat)(p0:List ae)(p1:Int)(p2:YI)(r0:Int)(h:kZ m p0 p2 p1 0 r0):jz p0 p1 p2 r0:=by
 refine⟨I,I,?_⟩;refine qA 25 [] func55 λK hK=>?_;exact gR 10 I<|gV 10 (qi (p2.length:Int)) I (aN<|az (V.int .i64) _) I<|gLB 9 I (az (V.int .i64) _) λa=>gR 4 I<|go_loop m<|qW hK h []
theorem sr(m:Nat)(G:List ae)(E:YI)(d:Int)(a:Nat)(J:Int)(h:y6 (a<E.length) (∃e,E[a]?=some e∧∃b,d=((b:Nat):Int)∧∃g,G[b]?=some g∧∃c,e=((c:Nat):Int)∧∃i,g.kids[c]?=some i∧a+1<=9223372036854775807∧kZ m G E i (a+1) J)<|d=J):kZ (m+1) G E d a J:=by
 refine qj λK Z U p=>?_;refine gR 6 rfl<|qXh 12 rfl rfl rfl h bQ bS ?_ ?_<;>intro hd h;refine gR 7 I ?_;obtain⟨e,j,h⟩:=h;refine gY (ax (av (f:=(V.int .i64)) j) ac I I I I) I I<|gR 7 I ?_;obtain⟨b,n,h⟩:=h;refine gV 16 (qi ((b:Nat):Int)) I (bc n) I ?_;obtain⟨g,k,h⟩:=h;refine gY (ax (av (f:=ae.w) k) ac I I I I) I I<|gR 3 I ?_;obtain⟨c,o,h⟩:=h;refine gV 20 (qi ((c:Nat):Int)) I (bc o) I ?_;obtain⟨i,l,h⟩:=h;refine gY (ax (av (f:=(V.int .i64)) l) ac I I I I) I I<|gR 6 I ?_;obtain⟨hb,h⟩:=h;exact gR 1 I<|gV 23 (qi ((a+1:Nat):Int)) I (am (by omega)<|by omega) I<|gR 2 I<|go_xloop<|qW U h [];refine gR 3 I<|go_xloopE<|gR 9 I ?_;subst h;exact qN [.tmp 6]
theorem zt(m:Nat)(E G:Int)(h:((E=1)->1=G)∧((E≠1)->((E=2)->2=G)∧((E≠2)->((E=3)->3=G)∧((E≠3)->((E=4)->4=G)∧((E≠4)->5=G))))):nV E G:=by
 refine⟨I,I,?_⟩;refine qA 12 [] func58 λK J=>?_;refine gR 18 rfl<|qBeZ 4 5 rfl rfl rfl rfl h ?_ ?_<;>intro h;refine gR 9 I ?_;subst h;exact qN [.tmp 2];refine gR 7 rfl<|qBeZ 6 7 rfl rfl rfl rfl h ?_ ?_<;>intro h;refine gR 9 I ?_;subst h;exact qN [.tmp 2];refine gR 7 rfl<|qBeZ 8 9 rfl rfl rfl rfl h ?_ ?_<;>intro h;refine gR 9 I ?_;subst h;exact qN [.tmp 2];refine gR 7 rfl<|qBeZ 10 11 rfl rfl rfl rfl h ?_ ?_<;>intro h;refine gR 9 I ?_;subst h;exact qN [.tmp 2];refine gR 10 I ?_;subst h;exact qN [.tmp 2]
def jh(m:Nat)(E:Tree)(a:Bool)(G:Int):Prop:=y4 [] f99 (z6<|qi G) (cB<|xF<|cB<|ab f99) [.blk 0,.seq<|xA<|ab f99] 18 [(1,.box (an E) 0),(4,qi E.kind),(5,.bool a)] ⟨0,[]⟩
theorem zu(m:Nat)(E:Tree)(J:Int)(h:((E.kind=1)->jh m E true J)∧((E.kind≠1)->((E.kind=16)->jh m E true J)∧((E.kind≠16)->jh m E (E.kind==18) J))):oq E J:=by
 refine⟨I,I,?_⟩;refine qA 18 [] func99 λK G=>?_;refine gR 3 rfl<|gFP 0 rfl rfl rfl rfl<|gR 18 rfl<|qBeZ 5 6 rfl rfl rfl rfl h ?_ ?_<;>intro h;exact gR 3 I<|qJ G (h K G) [];refine gR 7 rfl<|qBeZ 5 7 rfl rfl rfl rfl h ?_ ?_<;>intro h;exact gR 3 I<|qJ G (h K G) [];exact gR 6 I<|qJ G (h K G) []
theorem lR(m:Nat)(E:Tree)(a:Bool)(G:Int)(h:y7 a ((E.kids.length:Int)=G)<|y9 E.kind 2 (((E.kids.length:Int)-2)=G)<|0=G):jh (m+1) E a G:=by
 intro K U;refine qXi 5 rfl rfl rfl h ?_ ?_<;>intro J h;refine gR 6 I<|gV 11 (qi (E.kids.length:Int)) I (aN (aO _)) I<|gLB 10 I (aO _) λc=>gR 6 I ?_;subst h;exact qN [.tmp 2];refine gR 7 rfl<|qXeZ 12 13 rfl rfl rfl rfl h ?_ ?_<;>intro J h;refine gR 6 I<|gV 16 (qi (E.kids.length:Int)) I (aN<|aO _) I<|gLB 15 I (aO _) λb=>gR 1 I<|gV 17 (qi<|(E.kids.length:Int)-2) I (am (by have :=b;omega) I) I<|gR 6 I ?_;subst h;exact qN [.tmp 2];refine gR 10 I ?_;subst h;exact qN [.tmp 2]
theorem xk(m:Nat)(c:Int)(g:(List<|List ae))(b:YI)(j:(List<|List<|Int×ah))(i:List aj)(G E J:Int)(h:∃d,G=((d:Nat):Int)∧∃a,b[d]?=some a∧InI (a+E)∧InI ((a+E)+1)∧∃e l,lL c ((a+E)+1) e l∧e=J):cV c g b j i G E J:=by
 refine qA 28 [1,0] func57 λK U=>?_;refine gR 6 I<|qDs [0] 18 20<|qDr (qR 0 3 2<|(3,3)::(qR 4 3 2 [(7,3),(8,2)])) I I ?_;obtain⟨d,n,h⟩:=h;refine gV 18 (qi ((d:Nat):Int)) I (bc n) I ?_;obtain⟨a,k,h⟩:=h;refine gYd 9 I (by kernel_rfl) (ax (av (f:=(V.int .i64)) k) ac I I I I) I I<|qDr [(10,2),(11,0)] I I ?_;obtain⟨hb,h⟩:=h;refine qDr [(12,0)] I I<|gV 22 (qi<|a+E) I (am hb I) I ?_;obtain⟨hb,h⟩:=h;refine qDr [(13,0)] I I<|gV 23 (qi<|(a+E)+1) I (am hb I) I ?_;obtain⟨e,l,o,h⟩:=h;refine bM 14 o (by kernel_rfl) I (by kernel_rfl) I I .rfl I I ?_;refine qDr [(15,0),(16,2),(17,2),(18,1),(19,1)] I I<|qDe<|gR 8 I ?_;subst h;exact gE U [] [(6,qi e)] [0,1,2] [.tmp 6]
theorem wb(m:Nat)(e:Int)(c:(List<|List ae))(d:YI)(f:(List<|List<|Int×ah))(a:List aj)(G J:Int)(E:ak)(b:List aj)(h:((¬(E.N=0∧E.Flag=false∧E.Text=[]∧E.Ref=0))->(a++[(aj.mk G J E)]).length<=1000000000∧(a++[(aj.mk G J E)])=b)∧((E.N=0∧E.Flag=false∧E.Text=[]∧E.Ref=0)->a=b)):cd e c d f a G J E b:=by
 refine qA 24 [1,0] func59 λK Z=>?_;refine gR 3 rfl<|gFP 3 rfl rfl rfl rfl<|gR 6 rfl<|gY (v:=.bool<|!(ds E.N E.Flag E.Text E.Ref 0 false [] 0)) (sD (neg:=true) (r:=(ds E.N E.Flag E.Text E.Ref 0 false [] 0)) (by kernel_rfl) rfl rfl rfl rfl<|lA underlying42 (by kernel_rfl) (by decide) ⟨rfl,rfl,rfl,rfl⟩ underlying3 underlying4 underlying9 underlying3 _ _ _ _ _ _ _ _) rfl rfl<|gR 2 rfl<|qBh 10 rfl rfl rfl h (λU=>qU<|bz U) (λU=>qX<|bx U) ?_ ?_<;>intro h;refine gR 1 I<|qDs [0] 13 14<|qDr (qR 0 4 2<|(4,3)::(5,2)::(6,2)::(qR 7 3 0 [])) I I ?_;obtain⟨hb,h⟩:=h;refine bW 10 (.repl 2<|.row 44 6<|List.map aj.w<|a++[(aj.mk G J E)]) I (by kernel_rfl) (bq ac I I I I I (apM aj.w a<|aj.mk G J E) (by rw[az];exact hb)) (okR I) I (by kernel_rfl) I I ?_;refine qDr [(11,0),(12,0),(13,1)] I I<|qDe ?_;subst h;exact gE Z [] [] [0,1,5] [];refine gR 2 I ?_;subst h;exact gE Z [] [] [0,1,2] []
theorem nm(m:Nat)(k:Int)(e:(List<|List ae))(i:YI)(n:(List<|List<|Int×ah))(b:List aj)(G U:Int)(J:ak)(h:∃q,G=((q:Nat):Int)∧∃x,e[q]?=some x∧∃r,U=((r:Nat):Int)∧∃d,x[r]?=some d∧y6 (d.parent<0) ((ak.mk 1 false [] 0)=J) (∃g,cV k e i n b G d.parent g∧∃s,G=((s:Nat):Int)∧∃y,e[s]?=some y∧∃v,d.parent=((v:Nat):Int)∧∃z,y[v]?=some z∧∃a,oq z.t a∧y6 (d.index<a) (∃p,mR a p∧∃o,d.index=((o:Nat):Int)∧∃j,p[o]?=some j∧(ak.mk 0 false j g)=J) (InI (d.index-a)∧InI ((d.index-a)+1)∧(ak.mk ((d.index-a)+1) false [] g)=J))):ju k e i n b G U J:=by
 refine qA 63 [1,0] func60 λK E=>?_;refine gR 12 I ?_;obtain⟨q,η,h⟩:=h;refine gV 15 (qi ((q:Nat):Int)) I (bc η) I ?_;obtain⟨x,β,h⟩:=h;refine gY (ax (av (f:=(λl=>V.row 7<|List.map ae.w l)) β) ac I I I I) I I<|gR 2 I ?_;obtain⟨r,θ,h⟩:=h;refine gV 18 (qi ((r:Nat):Int)) I (bc θ) I ?_;obtain⟨d,γ,h⟩:=h;refine gY (ax (av (f:=ae.w) γ) ac rfl rfl rfl rfl) rfl rfl<|gR 13 rfl<|qBd 23 rfl rfl rfl h ?_ ?_<;>intro h;refine gR 9 I ?_;subst h;exact gE E [(3,vF ((ak.mk 1 false [] 0).N) (.bool<|(ak.mk 1 false [] 0).Flag) ((ak.mk 1 false [] 0).Text)<|(ak.mk 1 false [] 0).Ref)] [(6,.ptr 3 0)] [0,1,2,3] [.cell 6 42];refine gR 9 I ?_;obtain⟨g,μ,h⟩:=h;refine qC μ [0,1,2] ?_;refine gHR 7 (List.map aj.w b) I (vG _ b) I<|gR 4 I<|qDs [0,4] 13 14<|qDr (qR 0 3 2 [(3,3),(4,2)]) I I ?_;obtain⟨s,ι,h⟩:=h;refine gV 34 (qi ((s:Nat):Int)) I (bc ι) I ?_;obtain⟨y,δ,h⟩:=h;refine gYd 5 I (by kernel_rfl) (ax (av (f:=(λl=>V.row 7<|List.map ae.w l)) δ) ac I I I I) I I<|qDr [(6,2),(7,2),(8,3)] I I ?_;obtain⟨v,κ,h⟩:=h;refine gV 38 (qi ((v:Nat):Int)) I (bc κ) I ?_;obtain⟨z,ε,h⟩:=h;refine gYd 9 I (by kernel_rfl) (ax (av (f:=ae.w) ε) ac I I I I) I I<|qDr [(10,2),(11,2),(12,0),(13,1)] I I<|qDe<|gR 4 I ?_;obtain⟨a,ν,h⟩:=h;refine qC0 ν rfl<|gR 12 rfl<|qBd 47 rfl rfl rfl h ?_ ?_<;>intro h;refine gR 1 I<|go_sub (F':=(mkF 63 0 [(6,.ptr 2 0),(7,.ptr 3 0),(8,qi g),(10,qi a)])) (H':=⟨5,[(4,.row 44 6<|List.map aj.w b),(3,.var 98<|ae.c d),(2,vF 0 (.bool false) [] 0),(1,.mps 61 3 105<|List.map (bA (V.int .i64) ah.w) n),(0,.var 58 [qi k,.row 1<|List.map (λl=>V.row 7<|List.map ae.w l) e,.row 1<|List.map (V.int .i64) i,.mm 1 .row,.sl 4])]⟩) [0,1,3,4,7] [1,0] I E pq4 ⟨⟨_,I,I,I,(vG _ b).symm⟩,pqo I I,pqo I I,⟨_,I,I,I,I,I⟩,(pqo1 I I)⟩ I ?_;refine gR 1 I<|qDs [3] 8 9<|qDr [(0,2),(1,2),(3,2),(4,3)] I I ?_;obtain⟨p,ξ,h⟩:=h;refine bM 2 ξ (by kernel_rfl) I (by kernel_rfl) I I .rfl I I ?_;obtain⟨o,ζ,h⟩:=h;refine gV 52 (qi ((o:Nat):Int)) I (bc ζ) I ?_;obtain⟨j,α,h⟩:=h;refine fB 5 I (by kernel_rfl) (ax (av (f:=V.str) α) ac I I I I) I I ?_;refine qDr [(6,0),(7,0),(8,1)] I I<|qDe<|gR 3 I ?_;subst h;exact gE E [(3,.var 42<|ak.c<|ak.mk 0 false j g)] [(6,.ptr 3 0)] [0,1,4,2] [.cell 6 42];refine gR 3 I<|go_sub (F':=(mkF 63 0 [(6,.ptr 2 0),(7,.ptr 3 0),(8,qi g),(10,qi a)])) (H':=⟨5,[(4,.row 44 6<|List.map aj.w b),(3,.var 98<|ae.c d),(2,vF 0 (.bool false) [] 0),(1,.mps 61 3 105<|List.map (bA (V.int .i64) ah.w) n),(0,.var 58 [qi k,.row 1<|List.map (λl=>V.row 7<|List.map ae.w l) e,.row 1<|List.map (V.int .i64) i,.mm 1 .row,.sl 4])]⟩) [0,1,3,4,7] [1,0] I E pq4 ⟨⟨_,I,I,I,(vG _ b).symm⟩,pqo I I,pqo I I,⟨_,I,I,I,I,I⟩,(pqo1 I I)⟩ I ?_;refine gR 6 I ?_;obtain⟨hb,h⟩:=h;refine gR 1 I<|gV 60 (qi<|d.index-a) I (am hb I) I ?_;obtain⟨hb,h⟩:=h;refine gR 1 I<|gV 61 (qi<|(d.index-a)+1) I (am hb I) I<|gR 5 I ?_;subst h;exact gE E [(3,vF ((ak.mk ((d.index-a)+1) false [] g).N) (.bool<|(ak.mk ((d.index-a)+1) false [] g).Flag) ((ak.mk ((d.index-a)+1) false [] g).Text)<|(ak.mk ((d.index-a)+1) false [] g).Ref)] [(6,.ptr 3 0)] [0,1,4,2] [.cell 6 42]
def ie(m:Nat)(f:Int)(a:(List<|List ae))(b:YI)(g:(List<|List<|Int×ah))(d:List aj)(E:Int)(e:ae)(i j:Int)(k:Bool)(G:ak):Prop:=y4 [1,0] f61 (z7 (.agg<|ak.c G) ⟨4,[(2,.row 44 6<|List.map aj.w d),(1,.mps 61 3 105<|List.map (bA (V.int .i64) ah.w) g),(0,vE f (.row 1<|List.map (λl=>V.row 7<|List.map ae.w l) a) b<|.mm 1 .row)]⟩) (xD<|ab f61) [] 69 [(0,.ptr 0 0),(1,qi E),(6,.ptr 2 0),(7,.ptr 3 0),(8,.ptr 4 0),(9,.ptr 5 0),(10,.bool k)] ⟨7,[(6,.row 44 6<|List.map aj.w d),(5,.var 105 [qi i,qi j]),(4,vF e.t.kind (.bool false) e.t.text 0),(3,vC e.t.kind e.t.text e.t.leads e.t.kids),(2,vF 0 (.bool false) [] 0),(1,.mps 61 3 105<|List.map (bA (V.int .i64) ah.w) g),(0,.var 58 [qi f,.row 1<|List.map (λl=>V.row 7<|List.map ae.w l) a,.row 1<|List.map (V.int .i64) b,.mm 1 .row,.sl 6])]⟩
theorem tL(m:Nat)(i:Int)(b:(List<|List ae))(d:YI)(a:(List<|List<|Int×ah))(e:List aj)(G E:Int)(U:ak)(h:∃o,G=((o:Nat):Int)∧∃t,b[o]?=some t∧∃p,E=((p:Nat):Int)∧∃q,t[p]?=some q∧∃r,G=((r:Nat):Int)∧∃j,a[r]?=some j∧((aC E j=none)->ie m i b d a e G q 0 0 false U)∧(∀(n:ah),aC E j=some n->ie m i b d a e G q n.module n.number true U)):jb i b d a e G E U:=by
 refine qA 69 [1,0] func61 λK J=>?_;refine gR 12 I ?_;obtain⟨o,z,h⟩:=h;refine gV 15 (qi ((o:Nat):Int)) I (bc z) I ?_;obtain⟨t,x,h⟩:=h;refine gY (ax (av (f:=(λl=>V.row 7<|List.map ae.w l)) x) ac I I I I) I I<|gR 2 I ?_;obtain⟨p,α,h⟩:=h;refine gV 18 (qi ((p:Nat):Int)) I (bc α) I ?_;obtain⟨q,y,h⟩:=h;refine gY (ax (av (f:=ae.w) y) ac I I I I) I I<|gR 24 I ?_;obtain⟨r,β,h⟩:=h;refine gV 32 (qi ((r:Nat):Int)) I (bc β) I ?_;obtain⟨j,g,h⟩:=h;refine gY (IM underlying56 (by kernel_rfl) I I I (by rw[aam];exact(List.getElem?_eq_some_iff.1 g).1)) I I ?_;refine gDo (.nop) (Tl (by kernel_rfl) I I (by rw[aam];exact(List.getElem?_eq_some_iff.1 g).1)) trivial I I I ?_;refine gR 1 I ?_;rcases s:aC E j with _|n
 replace h:=h.1 s;exact gDo (v:=some<|.tup [.agg [qi 0,qi 0],.bool false]) (.nop) (Sp bh (encV:=ah.w) (k:=E) (L:=a) (l:=j) (zv:=.agg [qi 0,qi 0]) s underlying61 zeroValue105 (by kernel_rfl) I I I g I) trivial I I I<|gR 8 I<|qJ J (h K J) [0,1,3,4,5,6,2];replace h:=h.2 n s;exact gDo (v:=some<|.tup [.agg<|ah.c n,.bool true]) (.nop) (SK bh (encV:=ah.w) (k:=E) (L:=a) (l:=j) (zv:=.agg [qi 0,qi 0]) s underlying61 zeroValue105 (by kernel_rfl) I I I g I) trivial I I I<|gR 8 I<|qJ J (h K J) [0,1,3,4,5,6,2]
theorem lp(m:Nat)(j:Int)(f:(List<|List ae))(g:YI)(k:(List<|List<|Int×ah))(c:List aj)(J:Int)(a:ae)(i n:Int)(l:Bool)(E:ak)(h:y8 l ((ak.mk a.t.kind false a.t.text 0)=E)<|∃b,cV j f g k c i n b∧y9 a.t.kind 16 (y9 i J (∃d,fz a.t.text d∧(ak.mk a.t.kind d [] b)=E)<|(ak.mk a.t.kind false [] b)=E) (y9 a.t.kind 9 (y9 i J (∃e,fz a.t.text e∧(ak.mk a.t.kind e [] b)=E)<|(ak.mk a.t.kind false [] b)=E)<|(ak.mk a.t.kind false [] b)=E)):ie (m+1) j f g k c J a i n l E:=by
 intro K G;refine gR 7 rfl<|qBh 40 rfl rfl rfl h bz bx ?_ ?_<;>intro h;refine gR 9 I ?_;subst h;exact gE G [(3,.var 42 (ak.c (ak.mk a.t.kind false a.t.text 0)))] [(6,.ptr 3 0)] [0,1,6,2] [.cell 6 42];refine gR 16 I ?_;obtain⟨b,o,h⟩:=h;refine qC o [0,1,6] ?_;refine gHR 9 (List.map aj.w c) rfl (vG _ c) rfl<|gR 11 rfl<|qBeZ 53 52 rfl rfl rfl rfl h ?_ ?_<;>intro h;refine gR 13 rfl<|qBeZ 62 61 rfl rfl rfl rfl h ?_ ?_<;>intro h;refine gR 2 I ?_;obtain⟨d,p,h⟩:=h;refine qC0 p I<|gR 12 I ?_;subst h;exact gE G [(3,vF ((ak.mk a.t.kind d [] b).N) (.bool ((ak.mk a.t.kind d [] b).Flag)) ((ak.mk a.t.kind d [] b).Text) ((ak.mk a.t.kind d [] b).Ref))] [(6,.ptr 3 0)] [0,1,9,2] [.cell 6 42];refine gR 15 I ?_;subst h;exact gE G [(3,vF ((ak.mk a.t.kind false [] b).N) (.bool ((ak.mk a.t.kind false [] b).Flag)) ((ak.mk a.t.kind false [] b).Text) ((ak.mk a.t.kind false [] b).Ref))] [(6,.ptr 3 0)] [0,1,9,2] [.cell 6 42];refine gR 6 rfl<|qBe 57 rfl rfl rfl h ?_ ?_<;>intro h;refine gR 7 rfl<|qBeZ 62 61 rfl rfl rfl rfl h ?_ ?_<;>intro h;refine gR 2 I ?_;obtain⟨e,q,h⟩:=h;refine qC0 q I<|gR 12 I ?_;subst h;exact gE G [(3,vF ((ak.mk a.t.kind e [] b).N) (.bool ((ak.mk a.t.kind e [] b).Flag)) ((ak.mk a.t.kind e [] b).Text) ((ak.mk a.t.kind e [] b).Ref))] [(6,.ptr 3 0)] [0,1,9,2] [.cell 6 42];refine gR 15 I ?_;subst h;exact gE G [(3,vF ((ak.mk a.t.kind false [] b).N) (.bool ((ak.mk a.t.kind false [] b).Flag)) ((ak.mk a.t.kind false [] b).Text) ((ak.mk a.t.kind false [] b).Ref))] [(6,.ptr 3 0)] [0,1,9,2] [.cell 6 42];refine gR 10 I ?_;subst h;exact gE G [(3,vF ((ak.mk a.t.kind false [] b).N) (.bool ((ak.mk a.t.kind false [] b).Flag)) ((ak.mk a.t.kind false [] b).Text) ((ak.mk a.t.kind false [] b).Ref))] [(6,.ptr 3 0)] [0,1,9,2] [.cell 6 42]
def cw(m:Nat)(c:Int)(a:(List<|List ae))(b:YI)(d:(List<|List<|Int×ah))(f:ae)(g:Int)(i:List aj)(j:Nat)(e:List aj):Prop:=z8 m [1,0] f26 (z7 (.tup []) ⟨3,[(2,.row 44 6<|List.map aj.w e),(1,.mps 61 3 105<|List.map (bA (V.int .i64) ah.w) d),(0,vE c (.row 1<|List.map (λl=>V.row 7<|List.map ae.w l) a) b<|.mm 1 .row)]⟩) (xK<|xD<|xH<|ab f26) [.blk 0] 72 [(0,.ptr 0 0),(7,qi g),(57,.row 1<|List.map V.str f.t.leads),(58,qi (f.t.leads.length:Int)),(59,qi (j:Int))] ⟨3,[(2,.row 44 6<|List.map aj.w i),(1,.mps 61 3 105<|List.map (bA (V.int .i64) ah.w) d),(0,vE c (.row 1<|List.map (λl=>V.row 7<|List.map ae.w l) a) b<|.mm 1 .row)]⟩
theorem qZ(m:Nat)(c:Int)(a:(List<|List ae))(b:YI)(d:(List<|List<|Int×ah))(g:List aj)(p1 p2:Int)(o:List aj)(h:∃s,p1=((s:Nat):Int)∧∃x,a[s]?=some x∧∃v,p2=((v:Nat):Int)∧∃e,x[v]?=some e∧∃i,cV c a b d g p1 p2 i∧∃q,nV e.t.kind q∧∃p,cd c a b d g i 1 (ak.mk q false [] 0) p∧∃y,ju c a b d p p1 p2 y∧∃n,cd c a b d p i 2 y n∧y9 q 5 (∃r,jb c a b d n p1 p2 r∧∃j,cd c a b d n i 4 r j∧cw m c a b d e i j 0 o) (∃k,cd c a b d n i 3 (ak.mk 0 false e.t.text 0) k∧cw m c a b d e i k 0 o)):fT c a b d g p1 p2 o:=by
 refine qA 72 [1,0] func26 λK hK=>?_;refine gR 7 I ?_;obtain⟨s,β,h⟩:=h;refine gV 15 (qi ((s:Nat):Int)) I (bc β) I ?_;obtain⟨x,z,h⟩:=h;refine gY (ax (av (f:=(λl=>V.row 7<|List.map ae.w l)) z) ac I I I I) I I<|gR 2 I ?_;obtain⟨v,γ,h⟩:=h;refine gV 18 (qi ((v:Nat):Int)) I (bc γ) I ?_;obtain⟨e,α,h⟩:=h;refine gY (ax (av (f:=ae.w) α) ac I I I I) I I<|gR 11 I ?_;obtain⟨i,δ,h⟩:=h;refine qC δ [0,1,2] ?_;refine gHR 6 (List.map aj.w g) I (vG _ g) I<|gR 7 I ?_;obtain⟨q,ε,h⟩:=h;refine qC0 ε I<|gR 9 I ?_;obtain⟨p,ζ,h⟩:=h;refine qC ζ [0,1,6] ?_;refine gHR 9 (List.map aj.w p) I (vG _ p) I<|gR 9 I ?_;obtain⟨y,η,h⟩:=h;refine qC η [0,1,9] ?_;refine gHR 12 (List.map aj.w p) I (vG _ p) I ?_;obtain⟨n,θ,h⟩:=h;refine qC θ [0,1,12] ?_;refine gHR 16 (List.map aj.w n) rfl (vG _ n) rfl<|gR 9 rfl<|qXe 42 rfl rfl rfl h ?_ ?_<;>intro hd h;refine gR 7 I ?_;obtain⟨r,ι,h⟩:=h;refine qC ι [0,1,16] ?_;refine gHR 19 (List.map aj.w n) I (vG _ n) I ?_;obtain⟨j,κ,h⟩:=h;refine qC κ [0,1,19] ?_;refine gHR 23 (List.map aj.w j) I (vG _ j) I<|gR 2 I<|go_sub (F':=(mkF 72 0 [(0,.ptr 0 0),(6,.ptr 2 0),(7,qi i)])) (H':=⟨4,[(3,.row 44 6<|List.map aj.w j),(2,vC e.t.kind e.t.text e.t.leads e.t.kids),(1,.mps 61 3 105<|List.map (bA (V.int .i64) ah.w) d),(0,.var 58 [qi c,.row 1<|List.map (λl=>V.row 7<|List.map ae.w l) a,.row 1<|List.map (V.int .i64) b,.mm 1 .row,.sl 3])]⟩) [0,1,3,23] [1,0] I hK pq3 ⟨⟨_,I,I,I,(vG _ j).symm⟩,pqo I I,⟨_,I,I,I,I,I⟩,(pqo1 I I)⟩ I ?_;exact gR 5 I<|gV 58 (qi (e.t.leads.length:Int)) I (aN<|az V.str _) I<|gLB 57 I (az V.str _) λν=>gR 4 I<|go_loop m<|qW hK h [0,1,3];refine gR 7 I ?_;obtain⟨k,μ,h⟩:=h;refine qC μ [0,1,16] ?_;refine gHR 19 (List.map aj.w k) I (vG _ k) I<|gR 2 I<|go_sub (F':=(mkF 72 0 [(0,.ptr 0 0),(6,.ptr 2 0),(7,qi i)])) (H':=⟨4,[(3,.row 44 6<|List.map aj.w k),(2,vC e.t.kind e.t.text e.t.leads e.t.kids),(1,.mps 61 3 105<|List.map (bA (V.int .i64) ah.w) d),(0,.var 58 [qi c,.row 1<|List.map (λl=>V.row 7<|List.map ae.w l) a,.row 1<|List.map (V.int .i64) b,.mm 1 .row,.sl 3])]⟩) [0,1,3,19] [1,0] I hK pq3 ⟨⟨_,I,I,I,(vG _ k).symm⟩,pqo I I,⟨_,I,I,I,I,I⟩,(pqo1 I I)⟩ I ?_;exact gR 5 I<|gV 58 (qi (e.t.leads.length:Int)) I (aN<|az V.str _) I<|gLB 57 I (az V.str _) λξ=>gR 4 I<|go_loop m<|qW hK h [0,1,3]
theorem js(m:Nat)(e:Int)(b:(List<|List ae))(c:YI)(g:(List<|List<|Int×ah))(i:ae)(k:Int)(l:List aj)(a:Nat)(d:List aj)(h:y6 (a<i.t.leads.length) (∃n,i.t.leads[a]?=some n∧8+a<=9223372036854775807∧∃j,cd e b c g l k ((8+a:Nat):Int) (ak.mk 0 false n 0) j∧a+1<=9223372036854775807∧cw m e b c g i k j (a+1) d)<|l=d):cw (m+1) e b c g i k l a d:=by
 refine qj λK G E q=>?_;refine gR 6 rfl<|qXh 60 rfl rfl rfl h bQ bS ?_ ?_<;>intro J h;refine gR 8 I ?_;obtain⟨n,o,h⟩:=h;refine gY (ax (av (f:=V.str) o) ac I I I I) I I<|gR 9 I ?_;obtain⟨hb,h⟩:=h;refine gR 1 I<|gV 67 (qi ((8+a:Nat):Int)) I (am (by omega)<|by omega) I<|gR 2 I ?_;obtain⟨j,p,h⟩:=h;refine qC p [0,1,2] ?_;refine gHR 5 (List.map aj.w j) I (vG _ j) I<|gR 4 I ?_;obtain⟨hb,h⟩:=h;exact gR 1 I<|gV 71 (qi ((a+1:Nat):Int)) I (am (by omega)<|by omega) I<|gR 2 I<|go_xloop<|qW E h [0,1,5];refine gR 3 I<|go_xloopE<|gR 1 I ?_;subst h;exact gE E [] [] [0,1,2] []
mutual
def flatK:Tree->Int->Int->Nat->List ae
 |.node k s l ks,par,ix,n=>⟨.node k s l ks,par,ix,fG ks<|n+1⟩::flatKs ks n 0 (n+1)
def flatKs:YT->Nat->Nat->Nat->List ae
 |[],_,_,_=>[]
 |t::r,a,i,n=>flatK t (a:Int) (i:Int) n++flatKs r a (i+1) (n+nN t)
end
theorem wz(t:Tree)(par ix:Int)(n:Nat):flatK t par ix n=⟨t,par,ix,fG t.kids<|n+1⟩::flatKs t.kids n 0 (n+1):=by cases t;simp only[flatK,Tree.kids]
theorem zC(t:Tree):∀(l:YT) (a i n:Nat),flatKs (l++[t]) a i n=flatKs l a i n++flatK t (a:Int) ((i+l.length:Nat):Int) (n+nNs l)
 |[],a,i,n=>by simp[flatKs,nNs]
 |u::r,a,i,n=>by simp only[aap,flatKs,zC t r,nNs,aak,aad];rw[show i+1+r.length=i+(r.length+1) by omega,show n+nN u+nNs r=n+(nN u+nNs r) by omega]
mutual
theorem flatK_len:∀(t:Tree) (par ix:Int) (n:Nat),(flatK t par ix n).length=nN t
 |.node k s l ks,par,ix,n=>by simp only[flatK,nN,aad,flatKs_len ks]
theorem flatKs_len:∀(l:YT) (a i n:Nat),(flatKs l a i n).length=nNs l
 |[],_,_,_=>rfl
 |t::r,a,i,n=>by simp only[flatKs,nNs,aac,flatK_len t,flatKs_len r]
end
theorem AS:∀(l:YT) (a i n j:Nat) (u:Tree) (k:Nat),l[j]?=some u->k<nN u->(flatKs l a i n)[nNs (l.take j)+k]?=(flatK u (a:Int) ((i+j:Nat):Int)<|n+nNs (l.take j))[k]?
 |[],a,i,n,j,u,k,h,_=>by simp at h
 |t::r,a,i,n,0,u,k,h,E=>by simp only[List.getElem?_cons_zero,aaa]at h;subst h;simp only[List.take_zero,nNs,flatKs,Nat.zero_add,Nat.add_zero];rw[List.getElem?_append_left (by rw[flatK_len];exact E)]
 |t::r,a,i,n,j+1,u,k,h,E=>by simp only[List.take_succ_cons,nNs,flatKs];rw[List.getElem?_append_right (by rw[flatK_len];omega),flatK_len,show nN t+nNs (List.take j r)+k-nN t=nNs (List.take j r)+k by omega,AS r a (i+1) (n+nN t) j u k (by simpa using h) E];rw[show i+1+j=i+(j+1) by omega,show n+nN t+nNs (List.take j r)=n+(nN t+nNs (List.take j r)) by omega]
theorem Gn:∀(q:YI) (t u:Tree) (par ix:Int) (n:Nat),atK t q=some u->∃par' ix',(flatK t par ix n)[ay t q]?=some ⟨u,par',ix',fG u.kids<|n+ay t q+1⟩∧(q=[]->par'=par∧ix'=ix)∧(∀r i,q=r++[i]->par'=((n+ay t r:Nat):Int)∧ix'=i)
 |[],t,u,par,ix,n,h=>by simp only[atK,aaa]at h;subst h;exact⟨par,ix,by rw[wz];simp[ay],λ_=>⟨rfl,rfl⟩,λr i h=>by simp at h⟩
 | i::q,t,u,par,ix,n,h=>by
  simp only[atK]at h;split at h
  ·cases h
  rename_i hi;split at h
  ·cases h
  rename_i y hy;have hb:=wO h;have hc:(flatK t par ix n)[ay t<|i::q]?=(flatK y (n:Int) i<|n+1+nNs (t.kids.take i.toNat))[ay y q]?:=by
   rw[wz,eC hy,show 1+nNs (t.kids.take i.toNat)+ay y q=nNs (t.kids.take i.toNat)+ay y q+1 by omega,List.getElem?_cons_succ,AS t.kids n 0 (n+1) i.toNat y _ hy hb,Nat.zero_add,Int.toNat_of_nonneg<|by omega]
  obtain⟨par',ix',h1,h2,h3⟩:=Gn q y u (n:Int) i (n+1+nNs (t.kids.take i.toNat)) h;refine⟨par',ix',?_,λh=>by simp at h,λr j hr=>?_⟩
  ·rw[hc,h1,eC hy]
   congr 3;omega
  ·cases r with
   |nil=>
    simp only[aal,List.cons.injEq]at hr;obtain⟨rfl,rfl⟩:=hr;obtain⟨e1,e2⟩:=h2 rfl;exact⟨by rw[e1];simp[ay],e2⟩
   |cons a r=>
    simp only[aap,List.cons.injEq]at hr;obtain⟨rfl,rfl⟩:=hr;obtain⟨e1,e2⟩:=h3 r j rfl;exact⟨by rw[e1,eC hy];congr 1;omega,e2⟩
def Cb(n i:Nat):YB:=[UInt8.ofNat<|97+i*(650/(n+1))/25,UInt8.ofNat<|98+i*(650/(n+1))%25]
def wW(n:Nat):List YB:=(List.range n).map λi=>Cb n<|i+1
theorem EA(n:Nat):(wW n).length=n:=by simp[wW]
theorem Qj{n i:Nat}(h:i<=n):i*(650/(n+1))<=650:=by
 have h1:=Nat.div_mul_le_self 650<|n+1;have h2:i*(650/(n+1))<=(n+1)*(650/(n+1)):=Nat.mul_le_mul_right _ (by omega);rw[Nat.mul_comm<|n+1]at h2;omega
theorem GR(n:Nat):Int.tdiv 650 ((n:Int)+1)=((650/(n+1):Nat):Int):=by rw[show(n:Int)+1=((n+1:Nat):Int) by omega];rfl
theorem Py(a:Nat):Int.tdiv (a:Int) 25=((a/25:Nat):Int):=rfl
theorem OQ(a:Nat):Int.tmod (a:Int) 25=((a%25:Nat):Int):=rfl
theorem IE{α:Type}(f:Nat->α)(i:Nat):(List.range i).map f++[f i]=(List.range<|i+1).map f:=by rw[List.range_succ,aaq];rfl
theorem Mk(n:Nat)(hn:n<=400):mR (n:Int) (wW n):=by
 have loop:∀k i,k+i=n->iz (k+1) (n:Int) ((List.range i).map λi=>Cb n<|i+1) i (wW n):=λk=>by
  induction k with
  |zero=>
   intro i hi;refine pQ 0 _ _ _ _ (⟨λh=>by omega,λ_=>?_⟩);rw[show i=n by omega];rfl
  | succ k ih=>
   intro i hi;have hm:=Qj (n:=n) (i:=i+1) (by omega);have e1:(((i+1:Nat):Int)*(Int.tdiv 650 ((n:Int)+1)))=(((i+1)*(650/(n+1)):Nat):Int):=by rw[GR];exact(Int.natCast_mul _ _).symm
   have :=ih (i+1) (by omega);refine pQ (k+1) _ _ _ _ (⟨λ_=>?_,λh=>by omega⟩);rw[e1,Py,OQ];obtain⟨a,ha⟩:∃a,a=(i+1)*(650/(n+1)):=⟨_,rfl⟩;rw[<-ha]at hm⊢;have e2:([UInt8.ofNat (97+((a/25:Nat):Int)).toNat,UInt8.ofNat (97+(1+((a%25:Nat):Int))).toNat]:YB)=Cb n (i+1):=by rw[show(97+((a/25:Nat):Int)).toNat=97+a/25 by omega,show(97+(1+((a%25:Nat):Int))).toNat=98+a%25 by omega,Cb,ha]
   rw[e2,IE];have hd:a/25<=26:=by omega
   have hr:a%25<25:=Nat.mod_lt _ (by omega);exact⟨by omega,by constructor<;>omega,⟨by omega,by constructor<;>omega⟩,by constructor<;>omega,by constructor<;>omega,by omega,by constructor<;>omega,by constructor<;>omega,by constructor<;>omega,by simp;omega,by omega,this⟩
 refine yy (n+1) _ _ (⟨λh=>by omega,λ_=>⟨λh=>by omega,λ_=>⟨by constructor<;>omega,⟨by omega,?_⟩,loop n 0<|by omega⟩⟩⟩);have h6:650/(n+1)<=650:=Nat.div_le_self _ _;rw[GR];obtain⟨a,ha⟩:∃a,a=650/(n+1):=⟨_,rfl⟩;rw[<-ha]at h6⊢;constructor<;>omega
def tc(b:Int):Bool:=decide<|1048576<=b∧b<34603008
def eE(b k:Int):Int×Int:=if tc b=true∧0<=k then(if 1048575-b%1048576<k then(0,17)else if b%1048576+k=0 then(0,5)else(b+k,0))else(0,5)
theorem Ia(b:Int):nI b (tc b):=by
 refine BO 0 _ _<|⟨λh=>?_,λh=>?_⟩
 ·simp only[tc];congr 1;apply propext;constructor<;>intro <;>omega
 ·simp only[tc];rw[decide_eq_false];omega
theorem Ag(b k:Int)(G:k<=9000000000000000000):lL b k (eE b k).1 (eE b k).2:=by
 refine Do 0 _ _ _ _ (⟨_,Ia b,λh=>by simp[eE,h],λh=>⟨λE=>by rw[eE,if_neg<|by omega];exact⟨rfl,rfl⟩,λE=>?_⟩⟩);have hb:1048576<=b∧b<34603008:=by simpa[tc]using h
 rw[eE,if_pos ⟨h,by omega⟩];refine⟨by constructor<;>omega,by constructor<;>omega,λh1=>by rw[if_pos h1];exact⟨I,I⟩,λh1=>?_⟩;rw[if_neg h1];refine⟨by constructor<;>omega,by constructor<;>omega,_,_,Dt 0 _ _ _ _ (⟨λh=>by omega,λ_=>⟨λh=>by omega,λ_=>⟨λh2=>?_,λh2=>⟨λh=>by omega,λ_=>?_⟩⟩⟩⟩),I,I⟩
 ·rw[if_pos<|by omega];exact⟨rfl,rfl⟩
 ·rw[if_neg<|by omega];exact⟨by constructor<;>omega,⟨by omega,by omega,by omega,by omega,by omega⟩,by omega,I⟩
def fV(d:Int)(a:(List<|List ae))(b:YI)(e:(List<|List<|Int×ah))(c:List aj)(f:(List<|List<|Int×ah)):Prop:=cb [] prog 24 [.ptr 0 0] ⟨3,[(2,.row 44 6<|List.map aj.w c),(1,.mps 61 3 105<|List.map (bA (V.int .i64) ah.w) e),(0,vE d (.row 1<|List.map (λl=>V.row 7<|List.map ae.w l) a) b<|.mm 1 .row)]⟩<|z7 (.tup []) ⟨3,[(2,.row 44 6<|List.map aj.w c),(1,.mps 61 3 105<|List.map (bA (V.int .i64) ah.w) f),(0,vE d (.row 1<|List.map (λl=>V.row 7<|List.map ae.w l) a) b<|.mm 1 .row)]⟩
def gx(d:Int)(a:(List<|List ae))(b:YI)(e:(List<|List<|Int×ah))(c:List aj)(E:YT)(f:(List<|List<|Int×ah)):Prop:=cb [] prog 25 [.ptr 0 0,.row 4<|kidsV E] ⟨3,[(2,.row 44 6<|List.map aj.w c),(1,.mps 61 3 105<|List.map (bA (V.int .i64) ah.w) e),(0,vE d (.row 1<|List.map (λl=>V.row 7<|List.map ae.w l) a) b<|.mm 1 .row)]⟩<|z7 (.tup []) ⟨3,[(2,.row 44 6<|List.map aj.w c),(1,.mps 61 3 105<|List.map (bA (V.int .i64) ah.w) f),(0,vE d (.row 1<|List.map (λl=>V.row 7<|List.map ae.w l) a) b<|.mm 1 .row)]⟩
def dy(m:Nat)(d:Int)(a:(List<|List ae))(b:YI)(c:List aj)(f:Nat)(g:(List<|List<|Int×ah))(e:(List<|List<|Int×ah)):Prop:=z8 m [1,0] f24 (z7 (.tup []) ⟨3,[(2,.row 44 6<|List.map aj.w c),(1,.mps 61 3 105<|List.map (bA (V.int .i64) ah.w) e),(0,vE d (.row 1<|List.map (λl=>V.row 7<|List.map ae.w l) a) b<|.mm 1 .row)]⟩) (cL<|xE<|ab f24) [.blk 0] 70 [(0,.ptr 0 0),(11,.row 1<|List.map (λl=>V.row 7<|List.map ae.w l) a),(12,qi (a.length:Int)),(13,qi (f:Int))] ⟨3,[(2,.row 44 6<|List.map aj.w c),(1,.mps 61 3 105<|List.map (bA (V.int .i64) ah.w) g),(0,vE d (.row 1<|List.map (λl=>V.row 7<|List.map ae.w l) a) b<|.mm 1 .row)]⟩
def cz(m:Nat)(d:Int)(a:(List<|List ae))(b:YI)(c:List aj)(g:List ae)(f:ae)(i j k:Nat)(n:(List<|List<|Int×ah))(e:(List<|List<|Int×ah)):Prop:=∀(K:Ctx) (E G:Nat),au K [1,0]->m<=E->m<=G->qLG K f24 (z7 (.tup []) ⟨3,[(2,.row 44 6<|List.map aj.w c),(1,.mps 61 3 105<|List.map (bA (V.int .i64) ah.w) e),(0,vE d (.row 1<|List.map (λl=>V.row 7<|List.map ae.w l) a) b<|.mm 1 .row)]⟩) (xK<|xA<|cK<|cA<|xA<|cL<|xE<|ab f24) [.loop (xK<|xA<|cK<|cA<|xA<|cL<|xE<|ab f24) E,.blk 2,.blk 1,.seq<|xH<|cL<|xE<|ab f24,.loop (cL<|xE<|ab f24) G,.blk 0] 70 (mkF 70 0 [(0,.ptr 0 0),(2,qi (j:Int)),(3,.row 7<|List.map ae.w g),(11,.row 1<|List.map (λl=>V.row 7<|List.map ae.w l) a),(12,qi (a.length:Int)),(13,qi (k:Int)),(21,.row 1<|List.map (V.int .i64) f.kids),(22,qi (f.kids.length:Int)),(23,qi (i:Int))]) ⟨3,[(2,.row 44 6<|List.map aj.w c),(1,.mps 61 3 105<|List.map (bA (V.int .i64) ah.w) n),(0,vE d (.row 1<|List.map (λl=>V.row 7<|List.map ae.w l) a) b<|.mm 1 .row)]⟩
def cy(m:Nat)(d:Int)(a:(List<|List ae))(b:YI)(c:List aj)(i:List ae)(f:ae)(j:Int)(g:List aF)(k:(List<|List<|Int×ah))(n o p q:Nat)(e:(List<|List<|Int×ah)):Prop:=∀(K:Ctx) (E G J:Nat),au K [1,0]->m<=E->m<=G->m<=J->qLG K f24 (z7 (.tup []) ⟨3,[(2,.row 44 6<|List.map aj.w c),(1,.mps 61 3 105<|List.map (bA (V.int .i64) ah.w) e),(0,vE d (.row 1<|List.map (λl=>V.row 7<|List.map ae.w l) a) b<|.mm 1 .row)]⟩) (xK<|xH<|cK<|cA<|xA<|xK<|xA<|cK<|cA<|xA<|cL<|xE<|ab f24) [.loop (xK<|xH<|cK<|cA<|xA<|xK<|xA<|cK<|cA<|xA<|cL<|xE<|ab f24) E,.blk 4,.blk 3,.seq<|xH<|xK<|xA<|cK<|cA<|xA<|cL<|xE<|ab f24,.loop (xK<|xA<|cK<|cA<|xA<|cL<|xE<|ab f24) G,.blk 2,.blk 1,.seq<|xH<|cL<|xE<|ab f24,.loop (cL<|xE<|ab f24) J,.blk 0] 70 (mkF 70 0 [(0,.ptr 0 0),(2,qi (o:Int)),(3,.row 7<|List.map ae.w i),(5,qi j),(11,.row 1<|List.map (λl=>V.row 7<|List.map ae.w l) a),(12,qi (a.length:Int)),(13,qi (p:Int)),(21,.row 1<|List.map (V.int .i64) f.kids),(22,qi (f.kids.length:Int)),(23,qi (q:Int)),(39,.row 3<|List.map aF.w g),(40,qi (g.length:Int)),(41,qi (n:Int))]) ⟨3,[(2,.row 44 6<|List.map aj.w c),(1,.mps 61 3 105<|List.map (bA (V.int .i64) ah.w) k),(0,vE d (.row 1<|List.map (λl=>V.row 7<|List.map ae.w l) a) b<|.mm 1 .row)]⟩
theorem rk(m:Nat)(d:Int)(a:(List<|List ae))(b:YI)(e:(List<|List<|Int×ah))(c:List aj)(f:(List<|List<|Int×ah))(h:dy m d a b c 0 e f):fV d a b e c f:=by
 refine qA 70 [1,0] func24 λK hK=>?_;exact gR 7 I<|gV 12 (qi (a.length:Int)) I (aN<|az (λl=>V.row 7<|List.map ae.w l) _) I<|gLB 11 I (az (λl=>V.row 7<|List.map ae.w l) _) λg=>gR 4 I<|go_loop m<|qW hK h [0,1,2]
theorem jP(m:Nat)(g:Int)(a:(List<|List ae))(c:YI)(d:List aj)(e:Nat)(k:(List<|List<|Int×ah))(b:(List<|List<|Int×ah))(h:y6 (e<a.length) (∃i,a[e]?=some i∧∃j,i[0]?=some j∧cz m g a c d i j 0 e e k b)<|k=b):dy (m+1) g a c d e k b:=by
 refine qj λK j1 hK q=>?_;refine gR 6 rfl<|qXh 14 rfl rfl rfl h bQ bS ?_ ?_<;>intro hd h;refine gR 8 I ?_;obtain⟨i,n,h⟩:=h;refine gY (ax (av (f:=(λl=>V.row 7<|List.map ae.w l)) n) ac I I I I) I I<|gR 8 I ?_;obtain⟨j,o,h⟩:=h;exact gY (ax (av (f:=ae.w) o) ac I I I I) I I<|gR 3 I<|gV 22 (qi (j.kids.length:Int)) I (aN<|az (V.int .i64) _) I<|gLB 21 I (az (V.int .i64) _) λp=>gR 4 I<|go_loop m<|qJ hK (h K _ _ hK (by omega)<|by omega) [0,1,2];refine gR 3 I<|go_xloopE<|gR 1 I ?_;subst h;exact gE hK [] [] [0,1,2] []
theorem fb(m:Nat)(d:Int)(a:(List<|List ae))(b:YI)(c:List aj)(l:List ae)(i:ae)(g v k:Nat)(o:(List<|List<|Int×ah))(e:(List<|List<|Int×ah))(h:y6 (g<i.kids.length) (∃n,i.kids[g]?=some n∧∃p,n=((p:Nat):Int)∧∃q,l[p]?=some q∧q3a q.t.kind 2 (g+1<=9223372036854775807∧cz m d a b c l i (g+1) v k o e) (∃r,n=((r:Nat):Int)∧∃x,l[r]?=some x∧∃s,mJ x.t s∧cy m d a b c l i n s o 0 v k g e))<|k+1<=9223372036854775807∧dy m d a b c (k+1) o e):cz (m+1) d a b c l i g v k o e:=by
 intro K j1 j2 hK ζ η;obtain⟨j1,rfl⟩:∃j,j1=j+1:=⟨j1-1,by omega⟩;obtain⟨j2,rfl⟩:∃j,j2=j+1:=⟨j2-1,by omega⟩;refine gR 6 rfl<|qXh 24 rfl rfl rfl h bQ bS ?_ ?_<;>intro hd h;refine gR 7 I ?_;obtain⟨n,y,h⟩:=h;refine gY (ax (av (f:=(V.int .i64)) y) ac I I I I) I I<|gR 9 I ?_;obtain⟨p,β,h⟩:=h;refine gV 28 (qi ((p:Nat):Int)) I (bc β) I ?_;obtain⟨q,z,h⟩:=h;refine gY (ax (av (f:=ae.w) z) ac rfl rfl rfl rfl) rfl rfl<|gR 6 rfl<|qXh 33 rfl rfl rfl h ig eP ?_ ?_<;>intro hd h;refine gR 6 I ?_;obtain⟨hb,h⟩:=h;exact gR 1 I<|gV 68 (qi ((g+1:Nat):Int)) I (am (by omega) (by omega)) I<|gR 2 I<|go_xloop<|qJ hK (h K _ _ hK (by omega) (by omega)) [0,1,2];refine gR 7 I ?_;obtain⟨r,γ,h⟩:=h;refine gV 35 (qi ((r:Nat):Int)) I (bc γ) I ?_;obtain⟨x,α,h⟩:=h;refine gY (ax (av (f:=ae.w) α) ac I I I I) I I<|gR 2 I ?_;obtain⟨s,δ,h⟩:=h;exact qC0 δ I<|gR 1 I<|gV 40 (qi (s.length:Int)) I (aN (az aF.w _)) I<|gLB 39 I (az aF.w _) λε=>gR 4 I<|go_loop m<|qJ hK (h K _ _ _ hK (by omega) (by omega)<|by omega) [0,1,2];refine gR 3 I<|go_xloopE<|gR 4 I ?_;obtain⟨hb,h⟩:=h;exact gR 1 I<|gV 69 (qi ((k+1:Nat):Int)) I (am (by omega)<|by omega) I<|gR 2 I<|go_xloop<|qW hK h [0,1,2]
theorem eZ(m:Nat)(i:Int)(a:(List<|List ae))(b:YI)(c:List aj)(p:List ae)(α:ae)(v:Int)(q:List aF)(o:(List<|List<|Int×ah))(e g β r:Nat)(n:(List<|List<|Int×ah))(h:y6 (e<q.length) (∃s,q[e]?=some s∧y8 s.Free (∃x,o[g]?=some x∧∃y,jz p v s.Path y∧∃z,jz p v s.Binder z∧e+1<=9223372036854775807∧cy m i a b c p α v q (o.set g<|aR y (ah.mk (g:Int) z) x) (e+1) g β r n) (e+1<=9223372036854775807∧cy m i a b c p α v q o (e+1) g β r n))<|r+1<=9223372036854775807∧cz m i a b c p α (r+1) g β o n):cy (m+1) i a b c p α v q o e g β r n:=by
 intro K G J U E ζ η θ;obtain⟨G,rfl⟩:∃j,G=j+1:=⟨G-1,by omega⟩;obtain⟨J,rfl⟩:∃j,J=j+1:=⟨J-1,by omega⟩;obtain⟨U,rfl⟩:∃j,U=j+1:=⟨U-1,by omega⟩;refine gR 6 rfl<|qXh 42 rfl rfl rfl h bQ bS ?_ ?_<;>intro Z h;refine gR 7 I ?_;obtain⟨s,γ,h⟩:=h;refine gY (ax (av (f:=aF.w) γ) ac rfl rfl rfl rfl) rfl rfl<|gR 12 rfl<|qXh 47 rfl rfl rfl h bz bx ?_ ?_<;>intro Z h;refine gR 1 I<|qDs [0,1,3] 19 20<|qDr (qR 0 3 2 [(3,3),(4,2)]) I I ?_;obtain⟨x,t,h⟩:=h;refine gYd 5 I (by kernel_rfl) (IM underlying56 (by kernel_rfl) I I I (by rw[aam];exact(List.getElem?_eq_some_iff.1 t).1)) I I ?_;refine MP 6 I (by kernel_rfl) I (by kernel_rfl) I I (by rw[aam];exact(List.getElem?_eq_some_iff.1 t).1) I ?_;refine qDr (qR 7 3 2 ((10,3)::(qR 12 4 2 [(16,3)]))) I I ?_;obtain⟨y,δ,h⟩:=h;refine bM 11 δ (by kernel_rfl) I (by kernel_rfl) I I .rfl I I ?_;obtain⟨z,ε,h⟩:=h;refine bM 17 ε (by kernel_rfl) I (by kernel_rfl) I I .rfl I I ?_;refine qDr [(18,0)] I I<|bW 19 (.set 1 (.mps 61 3 105 (List.map (bA (V.int .i64) ah.w) (o.set g (aR y (ah.mk (g:Int) z) x))))) I (by kernel_rfl) (JR bh (encV:=ah.w) (k:=y) (d:=(ah.mk (g:Int) z)) (L:=o) (l:=x) underlying61 I I I I I I t I) (Np I) I (by kernel_rfl) I I<|qDe<|gR 3 I ?_;obtain⟨hb,h⟩:=h;exact gR 1 I<|gV 67 (qi ((e+1:Nat):Int)) I (am (by omega) (by omega)) I<|gR 2 I<|go_xloop<|qJ E (h K _ _ _ E (by omega) (by omega) (by omega)) [0,1,2];refine gR 5 I ?_;obtain⟨hb,h⟩:=h;exact gR 1 I<|gV 67 (qi ((e+1:Nat):Int)) I (am (by omega) (by omega)) I<|gR 2 I<|go_xloop<|qJ E (h K _ _ _ E (by omega) (by omega) (by omega)) [0,1,2];refine gR 3 I<|go_xloopE<|gR 4 I ?_;obtain⟨hb,h⟩:=h;exact gR 1 I<|gV 68 (qi ((r+1:Nat):Int)) I (am (by omega) (by omega)) I<|gR 2 I<|go_xloop<|qJ E (h K _ _ E (by omega) (by omega)) [0,1,2]
def ch(m:Nat)(d:Int)(a:(List<|List ae))(b:YI)(c:List aj)(f:List aE)(g:Nat)(i:(List<|List<|Int×ah))(e:(List<|List<|Int×ah)):Prop:=z8 m [1,0] f25 (z7 (.tup []) ⟨3,[(2,.row 44 6<|List.map aj.w c),(1,.mps 61 3 105<|List.map (bA (V.int .i64) ah.w) e),(0,vE d (.row 1<|List.map (λl=>V.row 7<|List.map ae.w l) a) b<|.mm 1 .row)]⟩) (cL<|xE<|ab f25) [.blk 0] 119 [(0,.ptr 0 0),(13,.row 5<|List.map aE.w f),(14,qi (f.length:Int)),(15,qi (g:Int))] ⟨3,[(2,.row 44 6<|List.map aj.w c),(1,.mps 61 3 105<|List.map (bA (V.int .i64) ah.w) i),(0,vE d (.row 1<|List.map (λl=>V.row 7<|List.map ae.w l) a) b<|.mm 1 .row)]⟩
def cX(m:Nat)(e:Int)(a:(List<|List ae))(b:YI)(d:List aj)(i:List aE)(k:aE)(j f:ae)(n:(List<|List<|Int×ah))(o p:Nat)(g:(List<|List<|Int×ah)):Prop:=∀(K:Ctx) (E G:Nat),au K [1,0]->m<=E->m<=G->qLG K f25 (z7 (.tup []) ⟨3,[(2,.row 44 6<|List.map aj.w d),(1,.mps 61 3 105<|List.map (bA (V.int .i64) ah.w) g),(0,vE e (.row 1<|List.map (λl=>V.row 7<|List.map ae.w l) a) b<|.mm 1 .row)]⟩) (xK<|xD<|xD<|cB<|cK<|cA<|xA<|cL<|xE<|ab f25) [.loop (xK<|xD<|xD<|cB<|cK<|cA<|xA<|cL<|xE<|ab f25) E,.blk 2,.blk 1,.seq<|xH<|cL<|xE<|ab f25,.loop (cL<|xE<|ab f25) G,.blk 0] 119 (mkF 119 0 [(0,.ptr 0 0),(5,.ptr 2 0),(9,.ptr 3 0),(13,.row 5<|List.map aE.w i),(14,qi (i.length:Int)),(15,qi (p:Int)),(86,.row 1<|List.map (V.int .i64) f.kids),(87,qi (f.kids.length:Int)),(88,qi (o:Int))]) ⟨5,[(4,.row 44 6<|List.map aj.w d),(3,.var 98<|ae.c j),(2,.var 111<|aE.c k),(1,.mps 61 3 105<|List.map (bA (V.int .i64) ah.w) n),(0,.var 58 [qi e,.row 1<|List.map (λl=>V.row 7<|List.map ae.w l) a,.row 1<|List.map (V.int .i64) b,.mm 1 .row,.sl 4])]⟩
theorem rJ(m:Nat)(d:Int)(a:(List<|List ae))(b:YI)(e:(List<|List<|Int×ah))(c:List aj)(p1:YT)(f:(List<|List<|Int×ah))(h:∃g,pR p1 g∧ch m d a b c g 0 e f):gx d a b e c p1 f:=by
 refine qA 119 [1,0] func25 λK hK=>?_;refine gR 3 I ?_;obtain⟨g,i,h⟩:=h;exact qC0 i I<|gR 1 I<|gV 14 (qi (g.length:Int)) I (aN<|az aE.w _) I<|gLB 13 I (az aE.w _) λj=>gR 4 I<|go_loop m<|qW hK h [0,1,2]
theorem dK(m:Nat)(j:Int)(a:(List<|List ae))(g:YI)(e:List aj)(r:List aE)(i:Nat)(s:(List<|List<|Int×ah))(n:(List<|List<|Int×ah))(h:y6 (i<r.length) (∃b,r[i]?=some b∧y7 b.Free (i+1<=9223372036854775807∧ch m j a g e r (i+1) s n) (∃θ,b.Use.Module=((θ:Nat):Int)∧∃y,a[θ]?=some y∧∃p,jz y 0 b.Use.Path p∧∃ι,b.Module=((ι:Nat):Int)∧∃μ,a[ι]?=some μ∧∃ν,μ[0]?=some ν∧∃κ,b.Def=((κ:Nat):Int)∧∃v,ν.kids[κ]?=some v∧∃o,b.Use.Module=((o:Nat):Int)∧∃q,s[o]?=some q∧∃z,p=((z:Nat):Int)∧∃α,y[z]?=some α∧q3a α.t.kind 16 (i+1<=9223372036854775807∧ch m j a g e r (i+1) (s.set o<|aR p (ah.mk b.Module v) q) n) (∃β,b.Module=((β:Nat):Int)∧∃ζ,a[β]?=some ζ∧∃γ,v=((γ:Nat):Int)∧∃η,ζ[γ]?=some η∧∃δ,p=((δ:Nat):Int)∧∃ε,y[δ]?=some ε∧cX m j a g e r b η ε (s.set o<|aR p (ah.mk b.Module v) q) 0 i n)))<|s=n):ch (m+1) j a g e r i s n:=by
 refine qj λK j1 hK hj1=>?_;refine gR 6 rfl<|qXh 16 rfl rfl rfl h bQ bS ?_ ?_<;>intro hd h;refine gR 7 I ?_;obtain⟨b,υ,h⟩:=h;refine gY (ax (av (f:=aE.w) υ) ac rfl rfl rfl rfl) rfl rfl<|gR 12 rfl<|qXi 20 rfl rfl rfl h ?_ ?_<;>intro hd h;refine gR 6 I ?_;obtain⟨hb,h⟩:=h;exact gR 1 I<|gV 118 (qi ((i+1:Nat):Int)) I (am (by omega)<|by omega) I<|gR 2 I<|go_xloop<|qW hK h [0,1,2];refine gR 4 I<|qDs [0,3] 7 10<|qDr (qR 0 3 2<|(3,3)::(qR 4 3 0 [])) I I ?_;obtain⟨θ,ek1_2,h⟩:=h;refine gV 27 (qi ((θ:Nat):Int)) I (bc ek1_2) I ?_;obtain⟨y,φ,h⟩:=h;refine fB 7 I (by kernel_rfl) (ax (av (f:=(λl=>V.row 7<|List.map ae.w l)) φ) ac I I I I) I I ?_;refine qDr [(8,1),(9,1)] I I<|qDe<|gR 7 I ?_;obtain⟨p,hs18,h⟩:=h;refine qC0 hs18 I<|gR 4 I<|qDs [0,3] 15 16<|qDr (qR 0 3 2 [(3,3),(4,2),(5,3)]) I I ?_;obtain⟨ι,ek1_5,h⟩:=h;refine gV 40 (qi ((ι:Nat):Int)) I (bc ek1_5) I ?_;obtain⟨μ,χ,h⟩:=h;refine gYd 6 I (by kernel_rfl) (ax (av (f:=(λl=>V.row 7<|List.map ae.w l)) χ) ac I I I I) I I<|qDr [(7,2)] I I ?_;obtain⟨ν,ψ,h⟩:=h;refine gYd 8 I (by kernel_rfl) (ax (av (f:=ae.w) ψ) ac I I I I) I I<|qDr [(9,2),(10,2),(11,0),(12,0)] I I ?_;obtain⟨κ,ek1_8,h⟩:=h;refine gV 47 (qi ((κ:Nat):Int)) I (bc ek1_8) I ?_;obtain⟨v,ω,h⟩:=h;refine fB 13 I (by kernel_rfl) (ax (av (f:=(V.int .i64)) ω) ac I I I I) I I ?_;refine qDr [(14,0),(15,1)] I I<|qDe<|gR 2 I<|qDs [0,3,1] 14 15<|qDr (qR 0 3 2 [(3,3),(4,2),(5,2),(6,3)]) I I ?_;obtain⟨o,ek1_10,h⟩:=h;refine gV 56 (qi ((o:Nat):Int)) I (bc ek1_10) I ?_;obtain⟨q,x,h⟩:=h;refine gYd 7 I (by kernel_rfl) (IM underlying56 (by kernel_rfl) I I I (by rw[aam];exact(List.getElem?_eq_some_iff.1 x).1)) I I ?_;refine MP 8 I (by kernel_rfl) I (by kernel_rfl) I I (by rw[aam];exact(List.getElem?_eq_some_iff.1 x).1) I ?_;refine qDr [(9,2),(10,2),(11,3),(12,0),(13,0)] I I<|bW 14 (.set 1<|.mps 61 3 105<|List.map (bA (V.int .i64) ah.w)<|s.set o<|aR p (ah.mk b.Module v) q) I (by kernel_rfl) (JR bh (encV:=ah.w) (k:=p) (d:=(ah.mk b.Module v)) (L:=s) (l:=q) underlying61 I I I I I I x I) (Np I) I (by kernel_rfl) I I<|qDe<|gR 1 I<|go_sub (F':=(mkF 119 0 [(0,.ptr 0 0),(5,.ptr 2 0),(6,.row 7<|List.map ae.w y),(7,qi p),(8,qi v),(13,.row 5<|List.map aE.w r),(14,qi (r.length:Int)),(15,qi (i:Int))])) (H':=⟨4,[(3,.row 44 6<|List.map aj.w e),(2,.var 111<|aE.c b),(1,.mps 61 3 105<|List.map (bA (V.int .i64) ah.w)<|s.set o<|aR p (ah.mk b.Module v) q),(0,.var 58 [qi j,.row 1<|List.map (λl=>V.row 7<|List.map ae.w l) a,.row 1<|List.map (V.int .i64) g,.mm 1 .row,.sl 3])]⟩) [0,1,3,2] [1,0] I hK pq8 ⟨⟨_,I,I,I,(vG _ e).symm⟩,pqo I I,⟨_,I,I,I,I,I⟩,(pqo1 I I)⟩ I ?_;refine gR 5 I ?_;obtain⟨z,ek1_12,h⟩:=h;refine gV 65 (qi ((z:Nat):Int)) I (bc ek1_12) I ?_;obtain⟨α,ξ,h⟩:=h;refine gY (ax (av (f:=ae.w) ξ) ac rfl rfl rfl rfl) rfl rfl<|gR 6 rfl<|qXh 70 rfl rfl rfl h ig eP ?_ ?_<;>intro hd h;refine gR 6 I ?_;obtain⟨hb,h⟩:=h;exact gR 1 I<|gV 118 (qi ((i+1:Nat):Int)) I (am (by omega)<|by omega) I<|gR 2 I<|go_xloop<|qW hK h [0,1,3];refine gR 4 I<|qDs [0,2] 12 13<|qDr (qR 0 3 2 [(3,3),(4,2),(5,3)]) I I ?_;obtain⟨β,ek1_14,h⟩:=h;refine gV 76 (qi ((β:Nat):Int)) I (bc ek1_14) I ?_;obtain⟨ζ,ο,h⟩:=h;refine gYd 6 I (by kernel_rfl) (ax (av (f:=(λl=>V.row 7<|List.map ae.w l)) ο) ac I I I I) I I<|qDr [(7,2),(8,2)] I I ?_;obtain⟨γ,ek1_16,h⟩:=h;refine gV 79 (qi ((γ:Nat):Int)) I (bc ek1_16) I ?_;obtain⟨η,π,h⟩:=h;refine gYd 9 I (by kernel_rfl) (ax (av (f:=ae.w) π) ac I I I I) I I<|qDr [(10,2),(11,0),(12,1)] I I<|qDe<|gR 5 I ?_;obtain⟨δ,ek1_18,h⟩:=h;refine gV 83 (qi ((δ:Nat):Int)) I (bc ek1_18) I ?_;obtain⟨ε,τ,h⟩:=h;exact gY (ax (av (f:=ae.w) τ) ac I I I I) I I<|gR 3 I<|gV 87 (qi ((ε.kids.length:Nat):Int)) I (aN<|az (V.int .i64) _) I<|gLB 86 I (az (V.int .i64) _) λhl19=>gR 4 I<|go_loop m<|qJ hK (h K _ _ hK (by omega)<|by omega) [0,1,2,4,3];refine gR 3 I<|go_xloopE<|gR 1 I ?_;subst h;exact gE hK [] [] [0,1,2] []
theorem fS(m:Nat)(i:Int)(c:(List<|List ae))(e:YI)(g:List aj)(z:List aE)(p:aE)(b o:ae)(q:(List<|List<|Int×ah))(a r:Nat)(n:(List<|List<|Int×ah))(h:y6 (a<o.kids.length) (∃v,o.kids[a]?=some v∧y6 ((a:Int)<((b.kids.length:Int)-2)) (∃s,p.Use.Module=((s:Nat):Int)∧∃x,q[s]?=some x∧∃y,b.kids[a]?=some y∧a+1<=9223372036854775807∧cX m i c e g z p b o (q.set s<|aR v (ah.mk p.Module y) x) (a+1) r n) (a+1<=9223372036854775807∧cX m i c e g z p b o q (a+1) r n))<|r+1<=9223372036854775807∧ch m i c e g z (r+1) q n):cX (m+1) i c e g z p b o q a r n:=by
 intro K G J E ε ζ;obtain⟨G,rfl⟩:∃j,G=j+1:=⟨G-1,by omega⟩;obtain⟨J,rfl⟩:∃j,J=j+1:=⟨J-1,by omega⟩;refine gR 6 rfl<|qXh 89 rfl rfl rfl h bQ bS ?_ ?_<;>intro U h;refine gR 8 I ?_;obtain⟨v,α,h⟩:=h;refine gY (ax (av (f:=(V.int .i64)) α) ac rfl rfl rfl rfl) rfl rfl<|gR 11 rfl<|gV 96 (qi (b.kids.length:Int)) rfl (aN (az (V.int .i64) _)) rfl<|gLB 95 rfl (az (V.int .i64) _) λδ=>gR 1 rfl<|gV 97 (qi<|(b.kids.length:Int)-2) rfl (am (by have :=δ;omega) rfl) rfl<|gR 3 rfl<|qXd 98 rfl rfl rfl h ?_ ?_<;>intro U h;refine gR 1 I<|qDs [0,2,1,3] 18 19<|qDr (qR 0 3 2 [(3,3),(4,2),(5,2),(6,3)]) I I ?_;obtain⟨s,γ,h⟩:=h;refine gV 105 (qi ((s:Nat):Int)) I (bc γ) I ?_;obtain⟨x,t,h⟩:=h;refine gYd 7 I (by kernel_rfl) (IM underlying56 (by kernel_rfl) I I I (by rw[aam];exact(List.getElem?_eq_some_iff.1 t).1)) I I ?_;refine MP 8 I (by kernel_rfl) I (by kernel_rfl) I I (by rw[aam];exact(List.getElem?_eq_some_iff.1 t).1) I ?_;refine qDr [(9,2),(10,2),(11,3),(12,2),(13,3),(14,0)] I I ?_;obtain⟨y,β,h⟩:=h;refine fB 15 I (by kernel_rfl) (ax (av (f:=(V.int .i64)) β) ac I I I I) I I ?_;refine qDr [(16,0),(17,0)] I I<|bW 18 (.set 1<|.mps 61 3 105<|List.map (bA (V.int .i64) ah.w)<|q.set s<|aR v (ah.mk p.Module y) x) I (by kernel_rfl) (JR bh (encV:=ah.w) (k:=v) (d:=(ah.mk p.Module y)) (L:=q) (l:=x) underlying61 I I I I I I t I) (Np I) I (by kernel_rfl) I I<|qDe<|gR 3 I ?_;obtain⟨hb,h⟩:=h;exact gR 1 I<|gV 117 (qi ((a+1:Nat):Int)) I (am (by omega)<|by omega) I<|gR 2 I<|go_xloop<|qJ E (h K _ _ E (by omega)<|by omega) [0,1,2,3,4];refine gR 5 I ?_;obtain⟨hb,h⟩:=h;exact gR 1 I<|gV 117 (qi ((a+1:Nat):Int)) I (am (by omega)<|by omega) I<|gR 2 I<|go_xloop<|qJ E (h K _ _ E (by omega)<|by omega) [0,1,2,3,4];refine gR 3 I<|go_xloopE<|gR 4 I ?_;obtain⟨hb,h⟩:=h;exact gR 1 I<|gV 118 (qi ((r+1:Nat):Int)) I (am (by omega)<|by omega) I<|gR 2 I<|go_xloop<|qW E h [0,1,4]
abbrev Asg:=Nat×Int×ah
abbrev Mps:=List (List (Int×ah))
def dC(L:Mps):List Asg->Mps
 |[]=>L
 |a::r=>dC (L.set a.1 (aR a.2.1 a.2.2 (L.getD a.1 []))) r
theorem oc:∀(a b:List Asg) (L:Mps),dC L (a++b)=dC (dC L a) b
 |[],b,L=>rfl
 |x::a,b,L=>by simp only[aap,dC,oc a b]
theorem Aa:∀(a:List Asg) (L:Mps),(dC L a).length=L.length
 |[],L=>rfl
 |x::a,L=>by simp only[dC,Aa a,aay]
variable{m:Nat}
theorem Oh{L:Mps}{k:Int}{v:ah}{l:List<|Int×ah}(h:L[m]?=some l):L.set m (aR k v l)=dC L [(m,k,v)]:=by simp only[dC,List.getD_eq_getElem?_getD,h,Option.getD_some]
theorem zZ{L:Mps}{a:Nat}{l:List<|Int×ah}(E:m<L.length):(L.set a l).getD m []=if m=a then l else L.getD m []:=by
 simp only[List.getD_eq_getElem?_getD];by_cases h:m=a
 ·subst h;rw[if_pos rfl,List.getElem?_set_self E,Option.getD_some]
 ·rw[if_neg h,List.getElem?_set_ne λe=>h e.symm]
theorem Dk{m:Nat}{k:Int}{v0:ah}:∀(a:List Asg) (L:Mps),m<L.length->(∀v,(m,k,v)∈a->v=v0)->((∃v,(m,k,v)∈a)∨aC k (L.getD m [])=some v0)->aC k ((dC L a).getD m [])=some v0
 |[],L,hm,h1,h2=>by
  rcases h2 with⟨v,hv⟩|h2
  ·cases hv
  ·exact h2
 | x ::a,L,hm,h1,h2=>by
  simp only[dC];refine Dk a _ (by rw[aay];exact hm) (λv hv=>h1 v<|List.mem_cons_of_mem _ hv) ?_;by_cases hx:x.1=m∧x.2.1=k
  ·obtain⟨e1,e2⟩:=hx;right;rw[zZ hm,if_pos e1.symm,ik,if_pos e2.symm];have :=h1 x.2.2 (by rw[<-e1,<-e2];exact List.mem_cons_self);rw[this]
  ·have hkeep:aC k ((L.set x.1 (aR x.2.1 x.2.2 (L.getD x.1 []))).getD m [])=aC k (L.getD m []):=by
    rw[zZ hm];split
    ·rename_i e;rw[ik,if_neg λe2=>hx ⟨e.symm,e2.symm⟩,e]
    ·rfl
   rw[hkeep];rcases h2 with⟨v,hv⟩|h2
   ·rcases List.mem_cons.1 hv with e|hv
    ·exact absurd ⟨by rw[<-e],by rw[<-e]⟩ hx
    ·exact .inl ⟨v,hv⟩
   ·exact .inr h2
theorem CC{m:Nat}{k:Int}:∀(a:List Asg) (L:Mps),m<L.length->(∀v,(m,k,v)∉a)->aC k ((dC L a).getD m [])=aC k (L.getD m [])
 |[],L,hm,h1=>rfl
 | x::a,L,hm,h1=>by
  simp only[dC];rw[CC a _ (by rw[aay];exact hm) λv hv=>h1 v<|List.mem_cons_of_mem _ hv,zZ hm];split
  ·rename_i e;rw[ik,if_neg (λe2=>h1 x.2.2 (by rw[e,e2];exact List.mem_cons_self)),e]
  ·rfl
def bO(p:YT):List (List ae):=p.map λt=>flatK t (-1) 0 0
variable{p:YT}{t:Tree}
theorem ev(h:p[m]?=some t):(bO p)[m]?=some (flatK t (-1) 0 0):=by simp[bO,h]
variable{u:Tree}{q:YI}
theorem lP(h:atK t q=some u):∃par ix,(flatK t (-1) 0 0)[ay t q]?=some ⟨u,par,ix,fG u.kids<|ay t q+1⟩∧(q=[]->par=-1∧ix=0)∧(∀r i,q=r++[i]->par=((ay t r:Nat):Int)∧ix=i):=by obtain⟨par,ix,h1,h2,E⟩:=Gn q t u (-1) 0 0 h;simp only[Nat.zero_add]at h1 E;exact⟨par,ix,h1,h2,E⟩
theorem vv{v:Tree}{i:Nat}(h:atK t q=some u)(hi:u.kids[i]?=some v):(fG u.kids<|ay t q+1)[i]?=some ((ay t (q++[(i:Int)]):Nat):Int):=by rw[Fq _ _ _ (List.getElem?_eq_some_iff.1 hi).1,CA h hi]
theorem Ki:∀(q:YI) (t u:Tree) (r:YI),atK t q=some u->atK t (q++r)=atK u r
 |[],t,u,r,h=>by simp only[atK,aaa]at h;subst h;rfl
 |i::q,t,u,r,h=>by
  simp only[atK]at h;split at h
  ·cases h
  rename_i hi;split at h
  ·cases h
  rename_i y hy;rw[aap];simp only[atK,if_neg hi,hy];exact Ki q y u r h
theorem Fe:∀(r q:YI) (u v:Tree),atK t q=some u->atK u r=some v->r.length<=1000000000->jz (flatK t (-1) 0 0) ((ay t q:Nat):Int) r ((ay t (q++r):Nat):Int):=λr q u v hq hr hl=>by
 have loop:∀k i (q':YI) (u':Tree),k+i=r.length->atK t q'=some u'->atK u' (r.drop i)=some v->kZ (k+1) (flatK t (-1) 0 0) r ((ay t q':Nat):Int) i ((ay t (q'++r.drop i):Nat):Int):=λk=>by
  induction k with
  |zero=>
   intro i q' u' hi hq' hr';refine sr 0 _ _ _ _ _ (⟨λh=>by omega,λ_=>?_⟩);rw[List.drop_of_length_le (by omega),aaz]
  | succ k ih=>
   intro i q' u' hi hq' hr';obtain⟨x,hx⟩:∃x,r[i]?=some x:=⟨_,List.getElem?_eq_getElem (by omega)⟩;have hd:r.drop i=x::r.drop (i+1):=by obtain⟨hlt,hg⟩:=List.getElem?_eq_some_iff.1 hx;rw[aan hlt,hg]
   rw[hd]at hr'⊢;simp only[atK]at hr';split at hr'
   ·cases hr'
   rename_i h0;split at hr'
   ·cases hr'
   rename_i y hy;obtain⟨par,ix,f1,_⟩:=lP hq';obtain⟨c,rfl⟩:∃c:Nat,x=c:=⟨x.toNat,by omega⟩;rw[Int.toNat_natCast]at hy;have hqy:atK t (q'++[(c:Int)])=some y:=by rw[Ki q' t u' _ hq',atK,if_neg (by omega),Int.toNat_natCast,hy];rfl
   refine sr (k+1) _ _ _ _ _ (⟨λ_=>⟨_,hx,_,I,_,f1,c,I,_,vv hq' hy,by omega,?_⟩,λh=>by omega⟩);have :=ih (i+1) (q'++[(c:Int)]) y (by omega) hqy hr'
   rwa [aak,List.singleton_append]at this
 have :=loop r.length 0 q u (by omega) hq (by rw[List.drop_zero];exact hr);rw[List.drop_zero]at this;exact Bv _ _ _ _ _<|this
def dp(k:Int):Int:=if k=1 then 1 else if k=2 then 2 else if k=3 then 3 else if k=4 then 4 else 5
theorem MW(k:Int):nV k (dp k):=by
 refine zt 0 _ _<|?_;unfold dp;exact⟨λh=>by rw[if_pos h],λh=>by rw[if_neg h];exact⟨λh=>by rw[if_pos h],λh=>by rw[if_neg h];exact⟨λh=>by rw[if_pos h],λh=>by rw[if_neg h];exact⟨λh=>by rw[if_pos h],λh=>by rw[if_neg h]⟩⟩⟩⟩
def gh(t:Tree):Int:=if t.kind=1∨t.kind=16∨t.kind=18 then(t.kids.length:Int)else if t.kind=2 then(t.kids.length:Int)-2 else 0
theorem Nm(t:Tree):oq t (gh t):=by
 refine zu 1 _ _<|⟨λh=>?_,λh=>⟨λh'=>?_,λh'=>?_⟩⟩
 ·exact lR 0 _ _ _ (⟨λ_=>by rw[gh,if_pos<|.inl h],λh=>by cases h⟩)
 ·exact lR 0 _ _ _ (⟨λ_=>by rw[gh,if_pos<|.inr<|.inl h'],λh=>by cases h⟩)
 ·refine lR 0 _ _ _ (⟨λh2=>?_,λh2=>?_⟩)
  ·rw[gh,if_pos<|.inr<|.inr<|by simpa using h2]
  ·have G:t.kind≠18:=by simpa using h2
   refine⟨λE=>?_,λE=>?_⟩
   ·rw[gh,if_neg (by omega),if_pos E]
   ·rw[gh,if_neg (by omega),if_neg E]
def jY(v:ak):Bool:=decide<|v.N=0∧v.Flag=false∧v.Text=[]∧v.Ref=0
variable{b:Int}
theorem OC{sp:List<|List ae}{fi:YI}{us:Mps}{cs:List aj}(i f:Int)(v:ak)(E:cs.length+1<=1000000000):cd b sp fi us cs i f v (cs++if jY v=true then[]else[⟨i,f,v⟩]):=by
 refine wb 0 _ _ _ _ _ _ _ _ _<|⟨λh=>?_,λh=>?_⟩
 ·rw[if_neg (by rw[jY,aas];exact h)];exact⟨by simp;omega,rfl⟩
 ·rw[if_pos (by rw[jY,aas];exact h),aaz]
def dL:Nat->YT->YI
 |_,[]=>[]
 |n,t::r=>(n:Int)::dL (n+nN t) r
theorem Fw:∀(l:YT) (n m:Nat),m<l.length->(dL n l)[m]?=some ((n+nNs (l.take m):Nat):Int)
 |[],n,m,h=>by simp at h
 |t::r,n,0,h=>by simp[dL,nNs]
 |t::r,n,m+1,h=>by
  simp only[dL,List.getElem?_cons_succ,List.take_succ_cons,nNs];rw[Fw r _ m<|by simpa using h]
  congr 2;omega
def idK(b:Int)(p:YT)(m n:Nat):Int:=(eE b ((nNs (p.take m)+n+1:Nat):Int)).1
theorem Qv{us:Mps}{cs:List aj}{n:Nat}(E:m<p.length)(hn:nNs (p.take m)+n+1<=2000000000):cV b (bO p) (dL 0 p) us cs (m:Int) (n:Int) (idK b p m n):=by
 have hf:=Fw p 0 m E;rw[Nat.zero_add]at hf;have h1:=Ag b ((nNs (p.take m)+n+1:Nat):Int) (by omega);rw[show((nNs (p.take m)+n+1:Nat):Int)=((nNs (p.take m):Nat):Int)+(n:Int)+1 by omega]at h1;have e:idK b p m n=(eE b<|((nNs (p.take m):Nat):Int)+(n:Int)+1).1:=by rw[idK,show((nNs (p.take m)+n+1:Nat):Int)=((nNs (p.take m):Nat):Int)+(n:Int)+1 by omega]
 rw[e];exact xk 0 _ _ _ _ _ _ _ _ (⟨m,I,_,hf,by constructor<;>omega,by constructor<;>omega,_,_,h1,I⟩)
def kJ:List ai->YB->YI×Bool
 |[],_=>([],false)
 |b::r,w=>if b.name=w then(b.path,true)else kJ r w
theorem No{α:Type}{l:List α}{n:Nat}{x:α}(h:l[n]?=some x):(l.take<|n+1).reverse=x::(l.take n).reverse:=by rw[List.take_add_one,h];simp
theorem MQ(stk:List ai)(w:YB)(hs:stk.length<=1000000000)(hp:∀b∈stk,b.path.length<=1000000000):kI stk w (kJ stk.reverse w).1 (kJ stk.reverse w).2:=by
 have loop:∀n,n<=stk.length->gi (n+1) stk w ((n:Int)-1) (kJ (stk.take n).reverse w).1 (kJ (stk.take n).reverse w).2:=λn=>by
  induction n with
  |zero=>intro _;exact oC 0 _ _ _ _ _ ⟨λh=>by omega,λ_=>⟨rfl,rfl⟩⟩
  | succ n ih=>
   intro hn;obtain⟨x,hx,_⟩|h':=aZ stk n
   ·rw[No hx,kJ];refine oC (n+1) _ _ _ _ _ ⟨λ_=>⟨n,by omega,x,hx,λh=>⟨n,by omega,x,hx,_,PU _<|hp x<|List.mem_of_getElem? hx,by rw[if_pos h],by rw[if_pos h]⟩,λh=>⟨by omega,?_⟩⟩,λh=>by omega⟩;rw[if_neg h,show((n+1:Nat):Int)-1-1=(n:Int)-1 by omega];exact ih (by omega)
   ·omega
 have :=loop stk.length<|aag _;rw[List.take_length]at this;exact xd (stk.length+1) _ _ _ _ this
mutual
def nodE:Tree->YI->List ai->List (YI×Tree×List ai)
 |.node k s ls ks,q,E=>(q,.node k s ls ks,E)::nodEs k s ks q 0 E
def nodEs(k:Int)(s:YB):YT->YI->Nat->List ai->List (YI×Tree×List ai)
 |[],_,_,_=>[]
 |t::r,q,i,E=>nodE t (q++[(i:Int)]) (if k=20∧i=1 then E++[⟨s,q⟩]else E)++nodEs k s r q (i+1) E
end
theorem Ie(t:Tree)(q:YI)(E:List ai):nodE t q E=(q,t,E)::nodEs t.kind t.text t.kids q 0 E:=by cases t;simp only[nodE];rfl
mutual
theorem nodE_nodK:∀(t:Tree) (q:YI) (E:List ai),(nodE t q E).map (λx=>(x.1,x.2.1))=nodK t q
 |.node k s ls ks,q,E=>by simp only[nodE,nodK,aah,nodEs_nodKs ks]
theorem nodEs_nodKs{k:Int}{s:YB}:∀(l:YT) (q:YI) (i:Nat) (E:List ai),(nodEs k s l q i E).map (λx=>(x.1,x.2.1))=nodKs l q i
 |[],q,i,E=>by simp only[nodEs,nodKs,aau]
 |t::r,q,i,E=>by simp only[nodEs,nodKs,aaq,nodE_nodK t,nodEs_nodKs r]
end
theorem NT(t:Tree)(q:YI)(E:List ai):(nodE t q E).length<=tbulk t:=by have :=nodK_len t q;rw[<-nodE_nodK t q E,aam]at this;exact this
def MX(q:YI)(w:YB)(E:List ai):aF:=⟨q,(kJ E.reverse w).1,!(kJ E.reverse w).2⟩
def iw:List (YI×Tree×List ai)->List aF
 |[]=>[]
 |x::r=>(if x.2.1.kind=12 then[MX x.1 x.2.1.text x.2.2]else[])++iw r
theorem CZ:∀a b,iw (a++b)=iw a++iw b
 |[],b=>rfl
 |x::r,b=>by simp only[aap,iw,CZ r b,aak]
theorem CF:∀a,(iw a).length<=a.length
 |[]=>aag _
 |x::r=>by have :=CF r;simp only[iw,aac,aad];split<;>simp <;>omega
theorem Oj:∀(t:Tree) (E:List ai) (q:List Int) (fd:List aF),q.length+tbulk t<=1000000000->fd.length+tbulk t<=1000000000->E.length+tbulk t<=1000000000->(∀b∈E,b.path.length<=1000000000)->eF E q fd t E q (fd++iw (nodE t q E)):=df λt ih E q fd hq hf hE hp=>by
 have hk:=cS t;have ht:=cU t;have hb:=bt t;have loop:∀k i fd,t.kids.length-i<=k->fd.length+kbulk (t.kids.drop i)<=1000000000->co (3*k+1) t fd E q i E q (fd++iw (nodEs t.kind t.text (t.kids.drop i) q i E)):=λk=>by
  induction k with
  |zero=>
   intro i fd hi hf;refine lf 0 _ _ _ _ _ _ _ _ ⟨λh=>by omega,λh=>⟨I,I,?_⟩⟩;rw[List.drop_of_length_le<|by omega];simp[nodEs,iw]
  | succ k ihk=>
   intro i fd hi hf;rw[show 3*(k+1)+1=(3*k+1+1+1)+1 by omega];refine lf _ _ _ _ _ _ _ _ _ ⟨λh=>?_,λh=>⟨I,I,?_⟩⟩
   ·obtain⟨u,hu,_⟩|h':=aZ t.kids i
    ·have hd:=bJ hu;rw[hd,kbulk]at hf;have hbu:=dx hu;have key:∀b:Bool,((b=true)↔(t.kind=20∧i=1))->dY (3*k+1+1+1) t fd u E q i b i E q (fd++iw (nodEs t.kind t.text (t.kids.drop i) q i E)):=λb hbb=>by
      have hl:=NT u (q++[(i:Int)]) (if t.kind=20∧i=1 then E++[⟨t.text,q⟩]else E);have hl2:=CF (nodE u (q++[(i:Int)]) (if t.kind=20∧i=1 then E++[⟨t.text,q⟩]else E));have hih:=ih i u hu (if t.kind=20∧i=1 then E++[⟨t.text,q⟩]else E) (q++[(i:Int)]) fd (by simp;omega) (by omega) (by
       split
       ·simp only[aac,aad,aae];omega
       ·omega) (by
       split
       ·intro b hb;simp only[aaj,List.mem_singleton]at hb;rcases hb with hb|rfl
        ·exact hp b hb
        ·simp only;omega
       ·exact hp)
      have hnx:=ihk (i+1) (fd++iw (nodE u (q++[(i:Int)])<|if t.kind=20∧i=1 then E++[⟨t.text,q⟩]else E)) (by omega) (by simp;omega);rw[hd,nodEs,CZ,<-aak];cases b with
      |true=>
       have hc:=hbb.1 rfl;rw[if_pos hc]at hih hnx⊢;refine kS _ _ _ _ _ _ _ _ _ _ _ _ ⟨λ_=>⟨_,AD q (by omega),by simp;omega,?_⟩,λh=>by cases h⟩;refine lb _ _ _ _ _ _ _ _ _ _ _ _ ⟨by simp;omega,_,_,_,hih,q.length,by simp,by simp,λ_=>⟨E.length,by simp,by simp,by omega,?_⟩,λh=>by cases h⟩;simpa using hnx
      |false=>
       have hc:¬(t.kind=20∧i=1):=λh=>by have :=hbb.2 h;cases this
       rw[if_neg hc]at hih hnx⊢;refine kS _ _ _ _ _ _ _ _ _ _ _ _ ⟨λh=>(by cases h),λ_=>?_⟩;refine lb _ _ _ _ _ _ _ _ _ _ _ _ ⟨by simp;omega,_,_,_,hih,q.length,by simp,by simp,λh=>(by cases h),λ_=>⟨by omega,?_⟩⟩;simpa using hnx
     refine⟨u,hu,λh20=>key _ ?_,λh20=>key _ ?_⟩
     ·simp[h20];omega
     ·simp[h20]
    ·exact absurd h h'
   ·rw[List.drop_of_length_le<|by omega];simp[nodEs,iw]
 rw[Ie,iw];refine sy (3*t.kids.length+1) _ _ _ _ _ _ _ ⟨λh=>?_,λh=>?_⟩
 ·simp only;rw[if_pos h];refine⟨_,_,MQ E t.text (by omega) hp,_,AD q (by omega),by simp;omega,?_⟩;have :=loop t.kids.length 0 (fd++[MX q t.text E]) (by omega) (by simp;omega);rw[<-aak];exact this
 ·simp only;rw[if_neg h];have :=loop t.kids.length 0 fd (by omega) (by rw[List.drop_zero];omega);simpa using this
def zT0:Tree:=.node 0 [] [] []
def atD(t:Tree)(q:YI):Tree:=(atK t q).getD zT0
def pc(t:Tree)(q:YI):Nat->List YI
 |0=>[]
 |n+1=>(if(atD t<|q.take n).kind=20∧q[n]?=some 1 then[q.take n]else[])++pc t q n
def BN(n:Nat):List YI:=(List.range n).map λ(i:Nat)=>[(i:Int)]
def arP(t:Tree)(q:YI):List YI:=if(atK t q).isSome=false then[]else match q with
 |[]=>[]
 |i::_=>if i=(t.kids.length:Int)-1 then pc t q q.length++BN (t.kids.length-2)else[]
def iq(t:Tree)(x:YI):ai:=⟨(atD t x).text,x⟩
def nJ(t:Tree):Bool:=t.kind==2&&shapeK t
theorem SQ(t:Tree)(ht:tbulk t<=1000000000):ot t (nJ t):=zy 0 _ _ ⟨λh=>⟨_,Az t ht,by simp[nJ,h]⟩,λh=>by simp[nJ,h]⟩
theorem DJ(h:nJ t=true):2<=t.kids.length:=by
 simp only[nJ,aab,aar]at h;have h2:=h.2;rw[dQ,h.1]at h2;simp only[aab,aas]at h2;have :=h2.1.1;simp only[bB,f0]at this
 repeat' split at this
 all_goals omega
theorem Df:∀{l:YT} {q:YI} {i:Nat} {x:YI×Tree},x∈nodKs l q i->∃j w,l[j]?=some w∧x∈nodK w (q++[((i+j:Nat):Int)])
 |[],q,i,x,h=>by simp[nodKs]at h
 | t::r,q,i,x,h=>by
  simp only[nodKs,aaj]at h;rcases h with h|h
  ·exact⟨0,t,I,h⟩
  ·obtain⟨j,w,h1,h2⟩:=Df h;exact⟨j+1,w,by simpa using h1,by rw[show i+(j+1)=i+1+j by omega];exact h2⟩
theorem Dj{k:Int}{s:YB}:∀{l:YT} {q:YI} {i:Nat} {E:List ai} {x:YI×Tree×List ai},x∈nodEs k s l q i E->∃j w,l[j]?=some w∧x∈nodE w (q++[((i+j:Nat):Int)]) (if k=20∧i+j=1 then E++[⟨s,q⟩]else E)
 |[],q,i,E,x,h=>by simp[nodEs]at h
 | t::r,q,i,E,x,h=>by
  simp only[nodEs,aaj]at h;rcases h with h|h
  ·exact⟨0,t,I,h⟩
  ·obtain⟨j,w,h1,h2⟩:=Dj h;exact⟨j+1,w,by simpa using h1,by rw[show i+(j+1)=i+1+j by omega];exact h2⟩
theorem vh{k n:Int}:∀{l:YT} {i j:Nat} {u:Tree},shapeKs k n i l=true->l[j]?=some u->gZ k n ((i+j:Nat):Int) u.kind=true∧shapeK u=true
 |[],i,j,u,_,h=>by simp at h
 |t::r,i,0,u,h,E=>by simp only[shapeKs,aab]at h;simp only[List.getElem?_cons_zero,aaa]at E;subst E;exact⟨by simpa using h.1.1,h.1.2⟩
 |t::r,i,j+1,u,h,E=>by simp only[shapeKs,aab]at h;have :=vh (i:=i+1) (j:=j) h.2 (by simpa using E);exact⟨by rw[show i+(j+1)=i+1+j by omega];exact this.1,this.2⟩
theorem TA:∀(v:Tree) (q:YI),shapeK v=true->(nP v.kind=true∨v.kind=4)->∀x∈nodK v q,x.2.kind≠12:=df λv ih q hs J x hx=>by
 rw[BU,aai]at hx;rw[dQ]at hs;simp only[aab,aas]at hs;have U:(5<=v.kind∧v.kind<=9)∨v.kind=4:=by
  rcases J with h|h
  ·exact .inl (by simpa[nP]using h)
  ·exact .inr h
 rcases hx with rfl|hx
 ·simp only;omega
 ·obtain⟨j,w,E,Z⟩:=Df hx;obtain⟨h1,h2⟩:=vh hs.2 E;have G:=(List.getElem?_eq_some_iff.1 E).1;refine ih j w E _ h2 (.inl ?_) x Z;have hl:=hs.1.1;by_cases h4:v.kind=4
  ·rw[h4]at h1;simpa[gZ]using h1
  ·by_cases h8:v.kind=8
   ·rw[h8]at h1;simpa[gZ]using h1
   ·exfalso;have h5:v.kind=5∨v.kind=6∨v.kind=7∨v.kind=9:=by omega
    have :bB v.kind v.kids.length=f0 v.kids.length 0 1 0 0:=by
     rcases h5 with e|e|e|e<;>rw[e]<;>rfl
    have h6:f0 v.kids.length 0 1 0 0=-1:=by unfold f0;rw[if_pos ⟨by omega,by omega⟩]
    omega
theorem Ec(t:Tree)(q s:YI):∀n,n<=q.length->pc t (q++s) n=pc t q n
 |0,_=>rfl
 |n+1,h=>by
  simp only[pc,Ec t q s n<|by omega];rw[List.take_append_of_le_length (by omega),List.getElem?_append_left<|by omega]
theorem NH{v:Tree}{r:YI}{j:Nat}(hq:q=b::r)(hb:b=(t.kids.length:Int)-1)(h1:atK t q=some v)(h2:(atK t<|q++[(j:Int)]).isSome=true):arP t (q++[(j:Int)])=(if v.kind=20∧j=1 then[q]else[])++arP t q:=by
 subst hq;have G:arP t (b::r)=pc t (b::r) (b::r).length++BN (t.kids.length-2):=by unfold arP;rw[h1];simp[hb]
 have J:arP t (b::r++[(j:Int)])=pc t (b::r++[(j:Int)]) (b::r++[(j:Int)]).length++BN (t.kids.length-2):=by unfold arP;rw[if_neg (by rw[h2];simp)];simp only[aap];rw[if_pos hb]
 rw[G,J,<-aak]
 congr 1
 rw[aac,List.length_singleton,pc,Ec t (b::r) _ _<|aag _]
 congr 1
 have U:(b::r++[(j:Int)]).take (b::r).length=b::r:=by rw[List.take_append_of_le_length<|aag _,List.take_length]
 have Z:(b::r++[(j:Int)])[(b::r).length]?=some (j:Int):=by rw[List.getElem?_append_right<|aag _];simp
 rw[U,Z];have e5:atD t (b::r)=v:=by unfold atD;rw[h1];rfl
 rw[e5];by_cases h:v.kind=20∧j=1
 ·rw[if_pos h,if_pos ⟨h.1,by rw[h.2];rfl⟩]
 ·rw[if_neg h,if_neg (λE=>h ⟨E.1,by have :=E.2;injection this with this;omega⟩)]
theorem QF(hb:b=(t.kids.length:Int)-1):∀(v:Tree) (q:YI) (E:List ai),atK t q=some v->(∃r,q=b::r)->E.reverse=(arP t q).map (iq t)->∀x∈nodE v q E,x.2.2.reverse=(arP t x.1).map (iq t):=df λv ih q E hq hr J x hx=>by
 rw[Ie,aai]at hx;rcases hx with rfl|hx
 ·exact J
 ·obtain⟨j,w,U,Z⟩:=Dj hx;rw[Nat.zero_add]at Z;have G:atK t (q++[(j:Int)])=some w:=by rw[wj,hq];exact lT U
  obtain⟨r,hr⟩:=hr;refine ih j w U _ _ G ⟨r++[(j:Int)],by rw[hr];rfl⟩ ?_ x Z;rw[NH hr hb hq (by rw[G];rfl),aaq,<-J];by_cases h:v.kind=20∧j=1
  ·rw[if_pos h,if_pos h,List.reverse_append];have :iq t q=⟨v.text,q⟩:=by unfold iq atD;rw[hq];rfl
   simp[this]
  ·rw[if_neg h,if_neg h];rfl
def kr(t:Tree):List (YI×Tree)->List aF
 |[]=>[]
 |x::r=>(if x.2.kind=12 then[⟨x.1,(kJ ((arP t x.1).map<|iq t) x.2.text).1,!(kJ ((arP t x.1).map<|iq t) x.2.text).2⟩]else[])++kr t r
theorem DL(t:Tree):∀a b,kr t (a++b)=kr t a++kr t b
 |[],b=>rfl
 |x::r,b=>by simp only[aap,kr,DL t r b,aak]
theorem Fu(t:Tree):∀a,(kr t a).length<=a.length
 |[]=>aag _
 |x::r=>by have :=Fu t r;simp only[kr,aac,aad];split<;>simp <;>omega
theorem De(t:Tree):∀a,(∀x∈a,x.2.kind≠12)->kr t a=[]
 |[],_=>rfl
 |x::r,h=>by rw[kr,if_neg (h x<|by simp),De t r λy hy=>h y<|by simp[hy]];rfl
theorem FL{t:Tree}:∀X:List<|YI×Tree×List ai,(∀x∈X,x.2.2.reverse=(arP t x.1).map (iq t))->iw X=kr t (X.map λx=>(x.1,x.2.1))
 |[],_=>rfl
 |x::r,h=>by
  rw[aah,kr,iw,FL r λy hy=>h y<|by simp[hy]]
  congr 1
  rw[MX,h x<|by simp]
def pm:Nat->YT->List ai
 |_,[]=>[]
 |i,t::r=>⟨t.text,[(i:Int)]⟩::pm (i+1) r
theorem yQ:∀(i:Nat) (l:YT) (t:Tree),pm i (l++[t])=pm i l++[⟨t.text,[((i+l.length:Nat):Int)]⟩]
 |i,[],t=>rfl
 |i,u::r,t=>by simp only[aap,pm,yQ (i+1) r t,aad];rw[show i+1+r.length=i+(r.length+1) by omega]
theorem Eu:∀(i:Nat) (l:YT),(pm i l).length=l.length
 |i,[]=>rfl
 |i,t::r=>by simp[pm,Eu (i+1) r]
theorem Cy:∀(i:Nat) (l:YT),∀b∈pm i l,b.path.length=1
 |i,[],b,h=>by simp[pm]at h
 |i,t::r,b,h=>by
  simp only[pm,aai]at h;rcases h with rfl|h
  ·rfl
  ·exact Cy (i+1) r b h
def yk(t:Tree):List ai:=(pm 0<|t.kids.take<|t.kids.length-2).reverse
theorem Nx(t:Tree)(h2:2<=t.kids.length)(ht:t.kids.length<=400000000):pZ t (yk t):=by
 have loop:∀(n:Nat) (l:List ai),n<=t.kids.length->l.length+n<=1000000000->lc (n+1) t l ((n:Int)-1) (l++(pm 0<|t.kids.take n).reverse):=λn=>by
  induction n with
  |zero=>intro l _ _;exact sh 0 _ _ _ _ ⟨λh=>by omega,λ_=>by simp[pm]⟩
  | succ n ih=>
   intro l hn hl;obtain⟨x,hx,_⟩|h':=aZ t.kids n
   ·refine sh (n+1) _ _ _ _ ⟨λ_=>⟨n,by omega,x,hx,by simp;omega,by omega,?_⟩,λh=>by omega⟩;rw[show((n+1:Nat):Int)-1-1=(n:Int)-1 by omega];have :=ih (l++[⟨x.text,[((n+1:Nat):Int)-1]⟩]) (by omega) (by simp;omega);rw[List.take_add_one,hx,Option.toList_some,yQ,aaB,List.reverse_append];rw[show min n t.kids.length=n by omega,Nat.zero_add];rw[show((n+1:Nat):Int)-1=(n:Int) by omega]at this⊢;simpa using this
   ·omega
 have :=loop (t.kids.length-2) [] (by omega) (by simp;omega);rw[show((t.kids.length-2:Nat):Int)-1=(t.kids.length:Int)-3 by omega]at this;exact Bu _ _ _ (by simpa[yk]using this)
def il(t:Tree):List aF:=if nJ t=true then kr t (nodK t [])else[]
theorem LM(hf:nJ t=true)(hu:t.kids[t.kids.length-1]?=some u):iw (nodE u [(t.kids.length:Int)-1]<|yk t)=kr t (nodK t []):=by
 have h2:=DJ hf;have hb:((t.kids.length-1:Nat):Int)=(t.kids.length:Int)-1:=by omega
 have hat:atK t [(t.kids.length:Int)-1]=some u:=by rw[<-hb];exact lT hu
 have henv:=QF (t:=t) (b:=(t.kids.length:Int)-1) rfl u [(t.kids.length:Int)-1] (yk t) hat ⟨[],rfl⟩ (by
  rw[yk,List.reverse_reverse];have e:arP t [(t.kids.length:Int)-1]=pc t [(t.kids.length:Int)-1] 1++BN (t.kids.length-2):=by unfold arP;rw[hat];simp
  simp only[nJ,aab,aar]at hf;have e2:pc t [(t.kids.length:Int)-1] 1=[]:=by simp only[pc,aaz];rw[if_neg];intro h;have :=h.1;simp only[List.take_zero,atD,atK,Option.getD_some]at this;omega
  rw[e,e2,aal,BN,List.map_map];have key:∀n,n<=t.kids.length->pm 0 (t.kids.take n)=(List.range n).map (iq t∘λ(i:Nat)=>[(i:Int)]):=λn=>by
   induction n with
   |zero=>intro _;simp[pm]
   | succ n ih=>
    intro hn;obtain⟨x,hx,_⟩|h':=aZ t.kids n
    ·rw[List.take_add_one,hx,Option.toList_some,yQ,ih (by omega),List.range_succ,aaq,aaB];rw[show min n t.kids.length=n by omega,Nat.zero_add]
     congr 1
     simp only[aah,aau,Function.comp];have :atK t [(n:Int)]=some x:=lT hx;simp[iq,atD,this]
    ·omega
  exact key _ (by omega))
 rw[FL _ henv,nodE_nodK,BU t []];simp only[nJ,aab,aar]at hf;rw[kr,if_neg (by simp only;omega),aal];have hs:=hf.2;rw[dQ,hf.1]at hs;simp only[aab]at hs;have key:∀k i,t.kids.length-1-i=k->i<=t.kids.length-1->kr t (nodKs (t.kids.drop i) [] i)=kr t (nodK u [(t.kids.length:Int)-1]):=λk=>by
  induction k with
  |zero=>
   intro i hk hi;have e:i=t.kids.length-1:=by omega
   subst e;rw[bJ hu,nodKs,List.drop_of_length_le (by omega),nodKs,aaz,hb];rfl
  | succ k ih=>
   intro i hk hi;obtain⟨x,hx,_⟩|h':=aZ t.kids i
   ·rw[bJ hx,nodKs,DL,ih (i+1) (by omega)<|by omega];obtain⟨g1,g2⟩:=vh hs.2 hx;rw[Nat.zero_add]at g1;rw[De t _<|TA x _ g2 ?_]
    ·rfl
    ·simp only[gZ]at g1;rw[if_neg (by omega),if_pos trivial,if_neg<|by omega]at g1;split at g1
     ·exact .inl g1
     ·exact .inr (by simpa using g1)
   ·omega
 exact(key _ 0 I<|by omega).symm
theorem Ey(t:Tree)(ht:tbulk t<=100000000):mJ t (il t):=by
 have J:=cS t;refine yM 0 _ _ ⟨_,SQ t (by omega),λh=>by simp[il,h],λh=>?_⟩;have h2:=DJ h;obtain⟨u,E,_⟩|h':=aZ t.kids<|t.kids.length-1
 ·have G:=dx E;have hs:(yk t).length<=t.kids.length:=by
   rw[yk,List.length_reverse,Eu,aaB];omega
  have hv:=Oj u (yk t) [(t.kids.length:Int)-1] [] (by simp;omega) (by simp;omega) (by omega) (λb hb=>by have :=Cy 0 _ b (List.mem_reverse.1 hb);omega)
  rw[aal,LM h E]at hv;exact⟨_,Nx t h2 (by omega),t.kids.length-1,by omega,u,E,_,_,_,hv,by simp[il,h]⟩
 ·omega
open Go.RowKit
set_option maxHeartbeats 1000000 in
theorem Iw(s:ByteArray)(c:Int)(w:World):Calls prog 176 #[.string s,.int .u8 c] w λe w'=>e=.returned (.int .i64<|Lib.indexByte s.data.toList c.toNat.toUInt8)∧w=w':=by
 go_enter func176,ntmps176
 go_wp2
 rw[run_callFunc_extern func195 (by kernel_rfl) (by kernel_rfl) (by kernel_rfl) (e:=Extern.BytealgIndexByte.indexByte) (by kernel_rfl),Lib.run_indexByteString];simp only[Result.andThen];rw[Oper.upon_value]
 go_wp2
 go_ret
 exact⟨I,I⟩
theorem IW(s:ByteArray)(c:Int)(w:World):Calls prog 134 #[.string s,.int .u8 c] w λe w'=>e=.returned (.int .i64<|Lib.indexByte s.data.toList c.toNat.toUInt8)∧w=w':=by
 go_enter func134,ntmps134
 go_wp2_with (go_at_call 176;refine qmm (Iw _ _ _) ?_)
 go_ret
 exact⟨I,I⟩
def im(s:YB):YT->Nat->Int
 |[],_=>-1
 |t::r,i=>if t.text=s then(i:Int)else im s r (i+1)
theorem sZ(s:YB):∀(l:YT) (i:Nat),im s l i=-1∨∃k t,im s l i=((i+k:Nat):Int)∧l[k]?=some t∧t.text=s∧∀j u,j<k->l[j]?=some u->u.text≠s
 |[],i=>.inl rfl
 | t::r,i=>by
  simp only[im];split
  ·rename_i h;exact .inr ⟨0,t,I,I,h,λj u hj _=>by omega⟩
  ·rename_i h;rcases sZ s r (i+1)with h1|⟨k,u,h1,h2,h3,h4⟩
   ·exact .inl h1
   ·refine .inr ⟨k+1,u,by rw[h1];congr 1;omega,by simpa using h2,h3,λj x hj hx=>?_⟩;cases j with
    |zero=>simp at hx;subst hx;exact h
    |succ j=>exact h4 j x (by omega) (by simpa using hx)
theorem Mn(t:Tree)(s:YB):qy t s (t.text==s):=AZ 0 _ _ _ rfl
theorem Gw(l:YT)(s:YB)(hl:l.length<=1000000000):ln l s (im s l 0):=by
 have loop:∀m i,l.length-i<=m->gQ (m+1) l s i (im s (l.drop i) i):=λm=>by
  induction m with
  |zero=>
   intro i hi;refine pz 0 _ _ _ _ ⟨λh=>by omega,λh=>?_⟩;rw[List.drop_of_length_le (by omega),im]
  | succ m ihm=>
   intro i hi;refine pz (m+1) _ _ _ _ ⟨λh=>?_,λh=>?_⟩
   ·obtain⟨u,hu,_⟩|h':=aZ l i
    ·rw[bJ hu,im];refine⟨u,hu,_,Mn u s,λh1=>?_,λh1=>⟨by omega,?_⟩⟩
     ·rw[if_pos<|by simpa using h1]
     ·rw[if_neg<|by simpa using h1];exact ihm (i+1) (by omega)
    ·exact absurd h h'
   ·rw[List.drop_of_length_le (by omega),im]
 exact xU _ _ _ _ (loop l.length 0<|by omega)
theorem Hu(l:YT)(s:YB)(hl:l.length<=1000000000):oM l s (im s l 0):=Dr 0 _ _ _ ⟨_,Gw l s hl,rfl⟩
def hU:YB->Nat->Int
 |[],_=>-1
 |c::r,i=>if c=46 then(i:Int)else hU r (i+1)
theorem Bn:∀(l:YB) (i:Nat),hU l i=-1∨∃k,hU l i=((i+k:Nat):Int)∧k<l.length
 |[],i=>.inl rfl
 | c::r,i=>by
  simp only[hU];split
  ·exact .inr ⟨0,rfl,by simp⟩
  ·rcases Bn r (i+1)with h1|⟨k,h1,h2⟩
   ·exact .inl h1
   ·exact .inr ⟨k+1,by rw[h1];congr 1;omega,by simp;omega⟩
theorem Ox(c:UInt8):∀(l:YB),-1<=Lib.indexByte l c
 |[]=>by simp[Lib.indexByte]
 |b::r=>by
  have :=Ox c r;simp only[Lib.indexByte];split
  ·omega
  ·split<;>omega
theorem xO:∀(l:YB) (i:Nat),hU l i=if Lib.indexByte l 46=-1 then-1 else Lib.indexByte l 46+(i:Int)
 |[],i=>by simp[hU,Lib.indexByte]
 | c::r,i=>by
  have ih:=xO r<|i+1;have :=Ox 46 r;simp only[hU,Lib.indexByte,ih];by_cases h:c=46
  ·simp[h]
  ·have h':(c==46)=false:=by simpa using h
   simp only[if_neg h,h'];by_cases h2:Lib.indexByte r 46=-1
   ·simp[h2]
   ·have h3:(Lib.indexByte r 46==-1)=false:=by simpa using h2
    simp only[if_neg h2,h3,aaD,if_false];rw[if_neg<|by omega];omega
theorem GC(l:YB):gy l 46 (hU l 0):=sum0_calls rfl rfl λS w ρ xs hx=>by
 simp only[LRel]at hx;obtain⟨x,ys,rfl,h1,y,zs,rfl,h2,rfl⟩:=hx;simp only[VRel]at h1 h2;subst h1 h2;refine(Iw _ _ w).mono λe w' ⟨h1,h2⟩=>⟨_,h1,?_,h2▸Chg.refl _ _⟩;simp only[VRel];have e:hU l 0=Lib.indexByte l 46:=by
  rw[xO];split
  ·rename_i h;rw[h]
  ·simp
 rw[e];rfl
theorem GV(l:YB):cF l (hU l 0):=by
 refine nu 1 _ _ ⟨λh=>?_,λh=>mO 0 _ _ ?_⟩
 ·subst h;rfl
 ·exact⟨_,GC l,I⟩
theorem RT(l:YB)(hl:l.length<=1000000000):mM l (if 0<=hU l 0 then l.take (hU l 0).toNat else l) (if 0<=hU l 0 then l.drop ((hU l 0).toNat+1)else[]) (decide<|0<=hU l 0):=by
 refine yf 0 _ _ _ _ ⟨_,_,_,?_,I,I,I⟩;refine oL 0 _ _ _ _ ⟨_,GV l,λh=>?_,λh=>?_⟩
 ·rcases Bn l 0 with h1|⟨k,h1,h2⟩
  ·rw[h1]at h;omega
  ·rw[h1];exact⟨k,by simp,by omega,by omega,k+1,by simp,by omega,by simp,by simp,by simp⟩
 ·simp[h]
def inK(p:YT)(m:Int)(w:YB):Int×Int×Bool:=if m<0 then(0,0,false)else match p[m.toNat]? with
 |none=>(0,0,false)
 |some t=>if im w t.kids 0<0 then(0,0,false)else(m,im w t.kids 0,true)
def dV(p:YT)(m:Int)(w:YB):Int×Int×Bool:=if 0<=hU w 0 then inK p (im (w.take (hU w 0).toNat) p 0) (w.drop<|(hU w 0).toNat+1)else inK p m w
theorem GP{m:Int}{w:YB}(E:m<p.length)(hp:kbulk p<=1000000000):lW 1 p m w (inK p m w).1 (inK p m w).2.1 (inK p m w).2.2:=by
 refine AK 0 _ _ _ _ _ _ ⟨λh=>by simp[inK,h],λh=>?_⟩;obtain⟨t,ht,_⟩|h':=aZ p m.toNat
 ·have :=cP ht;have :=cS t;refine⟨m.toNat,by omega,t,ht,_,Hu _ _ (by omega),λh1=>?_,λh1=>?_⟩
  ·simp[inK,h,ht,h1]
  ·simp[inK,h,ht,h1]
 ·omega
theorem ND{m:Int}{w:YB}(Z:0<=m)(E:m<p.length)(hp:kbulk p<=1000000000)(G:w.length<=1000000000):rz p m w (dV p m w).1 (dV p m w).2.1 (dV p m w).2.2:=by
 have J:=it p;refine BK 1 _ _ _ _ _ _ ⟨λh=>by omega,λh=>⟨λh=>by omega,λh=>⟨_,_,_,RT w G,λh1=>?_,λh1=>?_⟩⟩⟩
 ·have h1:0<=hU w 0:=by simpa using h1
  simp only[if_pos h1,dV];refine⟨_,Hu _ _ (by omega),?_⟩;refine GP ?_ hp;rcases sZ (w.take (hU w 0).toNat) p 0 with h2|⟨k,t,h2,U,_⟩
  ·rw[h2];omega
  ·have :=(List.getElem?_eq_some_iff.1 U).1;rw[h2];omega
 ·have h1:¬0<=hU w 0:=by simpa using h1
  simp only[dV,if_neg h1];exact GP E hp
def uW(u:Tree):Bool:=u.kind==16||u.kind==9
def tgK(p:YT)(m:Int)(q:YI)(u:Tree):aE:=⟨⟨m,q⟩,(dV p m u.text).1,(dV p m u.text).2.1,!(dV p m u.text).2.2⟩
def kE(p:YT)(m:Int):List (YI×Tree)->List aE
 |[]=>[]
 |x::r=>(if uW x.2 then[tgK p m x.1 x.2]else[])++kE p m r
theorem Fl(p:YT)(m:Int):∀a b,kE p m (a++b)=kE p m a++kE p m b
 |[],b=>rfl
 |x::r,b=>by simp only[aap,kE,Fl p m r b,aak]
theorem wM(p:YT)(m:Int):∀a,(kE p m a).length<=a.length
 |[]=>aag _
 |x::r=>by have :=wM p m r;simp only[kE,aac,aad];split<;>simp <;>omega
theorem PX{M:Int}(h0:0<=M)(hM:M<p.length)(hp:kbulk p<=1000000000):∀(t:Tree) (q:YI) (fd:List aE),q.length+tbulk t<=1000000000->fd.length+tbulk t<=1000000000->fv p M q fd t p M q (fd++kE p M (nodK t q)):=df λt ih q fd hq hf=>by
 have hk:=cS t;have ht:=cU t;have hb:=bt t;have loop:∀k i fd,t.kids.length-i<=k->fd.length+kbulk (t.kids.drop i)<=1000000000->du (k+1) t fd p M q i p M q (fd++kE p M (nodKs (t.kids.drop i) q i)):=λk=>by
  induction k with
  |zero=>
   intro i fd hi hf;refine lI 0 _ _ _ _ _ _ _ _ _ _ ⟨λh=>by omega,λh=>⟨I,I,I,?_⟩⟩;rw[List.drop_of_length_le<|by omega];simp[nodKs,kE]
  | succ k ihk=>
   intro i fd hi hf;refine lI (k+1) _ _ _ _ _ _ _ _ _ _ ⟨λh=>?_,λh=>⟨I,I,I,?_⟩⟩
   ·obtain⟨u,hu,_⟩|h':=aZ t.kids i
    ·have hd:=bJ hu;rw[hd,kbulk]at hf;have hbu:=dx hu;have hl:=nodK_len u<|q++[(i:Int)];have hl2:=wM p M<|nodK u<|q++[(i:Int)];refine⟨u,hu,by simp;omega,_,_,_,_,ih i u hu (q++[(i:Int)]) fd (by simp;omega) (by omega),q.length,by simp,by simp,by omega,?_⟩;have :=ihk (i+1) (fd++kE p M (nodK u<|q++[(i:Int)])) (by omega) (by simp;omega);rw[hd,nodKs,Fl,<-aak];simpa using this
    ·exact absurd h h'
   ·rw[List.drop_of_length_le<|by omega];simp[nodKs,kE]
 have key:∀b,b=uW t->eL (t.kids.length+3) p M q fd t b p M q (fd++kE p M (nodK t q)):=λb hbb=>by
  rw[BU,kE];refine sR (t.kids.length+2) _ _ _ _ _ _ _ _ _ _ ⟨λh=>?_,λh=>?_⟩
  ·rw[if_pos (by rw[<-hbb];exact h)];refine⟨_,_,_,ND h0 hM hp (by omega),_,AD q (by omega),sX (t.kids.length+1) _ _ _ _ _ _ _ _ _ _ _ _ _ ⟨by simp;omega,?_⟩⟩;have :=loop t.kids.length 0 (fd++[tgK p M q t]) (by omega) (by simp;omega);rw[<-aak];exact this
  ·rw[if_neg (by rw[<-hbb,h];simp)];have :=loop (t.kids.length+1) 0 fd (by omega) (by simp;omega);simpa using this
 refine tr (t.kids.length+3) _ _ _ _ _ _ _ _ _ ⟨λh=>key _ (by simp[uW,h]),λh=>key _<|by simp[uW,h]⟩
def ea:YT->Bool
 |[]=>true
 |t::r=>t.kind==1&&shapeK t&&ea r
theorem LU(p:YT)(hp:kbulk p<=1000000000):ql p (ea p):=by
 have hl:=it p;have loop:∀m i,p.length-i<=m->kU (m+1) p i (ea<|p.drop i):=λm=>by
  induction m with
  |zero=>
   intro i hi;refine sQ 0 _ _ _ ⟨λh=>by omega,λh=>?_⟩;rw[List.drop_of_length_le (by omega),ea]
  | succ m ihm=>
   intro i hi;refine sQ (m+1) _ _ _ ⟨λh=>?_,λh=>?_⟩
   ·obtain⟨u,hu,_⟩|h':=aZ p i
    ·rw[bJ hu,ea];have :=cP hu;refine⟨u,hu,λh1=>by simp[h1],λh1=>⟨_,Az u (by omega),λh2=>by simp[h1,h2],λh2=>⟨by omega,?_⟩⟩⟩;simp only[h1,h2,beq_self_eq_true,Bool.true_and];exact ihm (i+1) (by omega)
    ·exact absurd h h'
   ·rw[List.drop_of_length_le (by omega),ea]
 exact AJ _ _ _ (loop p.length 0<|by omega)
def pD(p:YT):Nat->YT->List aE
 |_,[]=>[]
 |i,t::r=>kE p i (nodK t [])++pD p (i+1) r
theorem CY(p:YT):∀(i:Nat) (l:YT),(pD p i l).length<=kbulk l
 |_,[]=>aag _
 |i,t::r=>by
  have :=CY p (i+1) r;have :=wM p i<|nodK t [];have :=nodK_len t [];simp only[pD,kbulk,aac];omega
def cH(p:YT):List aE:=if ea p then pD p 0 p else[]
theorem Kn(p:YT)(hp:kbulk p<=100000000):pR p (cH p):=by
 have hl:=it p;have loop:∀m i z fd,p.length-i<=m->fd.length+kbulk (p.drop i)<=1000000000->ll (m+1) p p z [] fd i (fd++pD p i (p.drop i)):=λm=>by
  induction m with
  |zero=>
   intro i z fd hi hf;refine sw 0 _ _ _ _ _ _ _ ⟨λh=>by omega,λh=>?_⟩;rw[List.drop_of_length_le<|by omega];simp[pD]
  | succ m ihm=>
   intro i z fd hi hf;refine sw (m+1) _ _ _ _ _ _ _ ⟨λh=>?_,λh=>?_⟩
   ·obtain⟨u,hu,_⟩|h':=aZ p i
    ·have :=cP hu;have hd:=bJ hu;rw[hd,kbulk]at hf;have :=wM p i<|nodK u [];have :=nodK_len u [];refine⟨u,hu,_,_,_,_,PX (p:=p) (M:=(i:Int)) (by omega) (by omega) (by omega) u [] fd (by simp;omega) (by omega),by omega,?_⟩;rw[hd,pD,<-aak];exact ihm (i+1) _ _ (by omega) (by simp;omega)
    ·exact absurd h h'
   ·rw[List.drop_of_length_le<|by omega];simp[pD]
 refine AX (p.length+1) _ _ ⟨_,LU p (by omega),λh=>by simp[cH,h],λh=>?_⟩;have :=loop p.length 0 0 [] (by omega) (by simp;omega);simpa[cH,h]using this
theorem Lc{M:Int}{w:YB}(h:(inK p M w).2.2=true):∃(i d:Nat) (t u:Tree),M=(i:Int)∧(inK p M w).1=(i:Int)∧(inK p M w).2.1=(d:Int)∧p[i]?=some t∧t.kids[d]?=some u∧u.text=w∧∀j v,j<d->t.kids[j]?=some v->v.text≠w:=by
 unfold inK at h⊢;by_cases hM:M<0
 ·rw[if_pos hM]at h;cases h
 ·rw[if_neg hM]at h⊢;cases ht:p[M.toNat]? with
  |none=>rw[ht]at h;cases h
  | some t=>
   rw[ht]at h;simp only at h⊢;rcases sZ w t.kids 0 with e|⟨k,u,e1,e2,e3,e4⟩
   ·simp[e]at h
   ·have hn:¬im w t.kids 0<0:=by omega
    rw[if_neg hn];exact⟨M.toNat,k,t,u,by omega,by simp only[];omega,by simp only[];omega,ht,e2,e3,e4⟩
theorem zN{M:Int}{w:YB}(h:(dV p M w).2.2=true):∃(i d:Nat) (t u:Tree),(dV p M w).1=(i:Int)∧(dV p M w).2.1=(d:Int)∧p[i]?=some t∧t.kids[d]?=some u:=by
 unfold dV at h⊢;split at h
 ·rename_i E;rw[if_pos E];obtain⟨i,d,t,u,_,a1,a2,a3,G,_⟩:=Lc h;exact⟨i,d,t,u,a1,a2,a3,G⟩
 ·rename_i E;rw[if_neg E];obtain⟨i,d,t,u,_,a1,a2,a3,G,_⟩:=Lc h;exact⟨i,d,t,u,a1,a2,a3,G⟩
theorem rR{k n:Int}:∀{l:YT} {i j:Nat} {u:Tree},shapeKs k n i l=true->l[j]?=some u->gZ k n ((i+j:Nat):Int) u.kind=true∧shapeK u=true
 |[],i,j,u,_,h=>by simp at h
 |t::r,i,0,u,h,E=>by simp only[shapeKs,aab]at h;simp only[List.getElem?_cons_zero,aaa]at E;subst E;exact⟨by simpa using h.1.1,h.1.2⟩
 |t::r,i,j+1,u,h,E=>by simp only[shapeKs,aab]at h;have :=rR (i:=i+1) (j:=j) h.2 (by simpa using E);exact⟨by rw[show i+(j+1)=i+1+j by omega];exact this.1,this.2⟩
theorem nW:∀(q:YI) (t u:Tree),shapeK t=true->atK t q=some u->shapeK u=true
 |[],t,u,h,hu=>by simp only[atK,aaa]at hu;subst hu;exact h
 | i::r,t,u,h,hu=>by
  simp only[atK]at hu;split at hu
  ·cases hu
  ·cases hv:t.kids[i.toNat]? with
   |none=>rw[hv]at hu;cases hu
   |some v=>
    rw[hv]at hu;rw[dQ]at h;simp only[aab]at h;exact nW r v u (rR h.2 hv).2 hu
theorem ym:∀{p:YT} {i:Nat} {t:Tree},ea p=true->p[i]?=some t->t.kind=1∧shapeK t=true
 |[],i,t,_,h=>by simp at h
 |v::r,0,t,h,hi=>by simp only[ea,aab,aar]at h;simp only[List.getElem?_cons_zero,aaa]at hi;subst hi;exact h.1
 |v::r,i+1,t,h,hi=>by simp only[ea,aab]at h;exact ym h.2 (by simpa using hi)
theorem Af:∀{l:List ai} {w:YB},(kJ l w).2=true->∃b∈l,b.path=(kJ l w).1
 |[],w,h=>by simp[kJ]at h
 | b::r,w,h=>by
  unfold kJ at h⊢;split
  ·exact⟨b,by simp,rfl⟩
  ·rename_i hn;rw[if_neg hn]at h;obtain⟨c,hc,e⟩:=Af h;exact⟨c,List.mem_cons_of_mem _ hc,e⟩
theorem GN:∀(q:YI) (n:Nat) (t u:Tree),atK t q=some u->(atK t<|q.take n).isSome=true
 |[],n,t,u,h=>by simp[atK]
 |i::q,0,t,u,h=>by simp[atK]
 |i::q,n+1,t,u,h=>by
  simp only[atK]at h;split at h
  ·cases h
  rename_i hi;split at h
  ·cases h
  rename_i y hy;simp only[List.take_succ_cons,atK,if_neg hi,hy];exact GN q n y u h
theorem Hk{t u:Tree}{q:YI}(h:atK t q=some u):∀n,∀x∈pc t q n,(atK t x).isSome=true∧x.length<=q.length
 |0,x,hx=>by simp[pc]at hx
 | n+1,x,hx=>by
  simp only[pc,aaj]at hx;rcases hx with hx|hx
  ·split at hx
   ·rw[List.mem_singleton]at hx;subst hx;exact⟨GN q n t u h,by rw[aaB];omega⟩
   ·cases hx
  ·exact Hk h n x hx
theorem KB{x:YI}(hx:x∈arP t q):(atK t x).isSome=true∧x.length<=q.length+1:=by
 unfold arP at hx;split at hx
 ·cases hx
 ·rename_i hs;cases hu:atK t q with
  |none=>rw[hu]at hs;exact absurd rfl hs
  | some u=>
   cases q with
   |nil=>cases hx
   | cons i r=>
    simp only at hx;split at hx
    ·rcases List.mem_append.1 hx with h|h
     ·obtain⟨a,b⟩:=Hk hu _ x h;exact⟨a,by omega⟩
     ·simp only[BN,List.mem_map,List.mem_range]at h;obtain⟨k,hk,rfl⟩:=h;refine⟨?_,by simp⟩;obtain⟨v,hv⟩:∃v,t.kids[k]?=some v:=⟨_,List.getElem?_eq_getElem<|by omega⟩;simp[atK,hv]
    ·cases hx
theorem xn{t:Tree}{x:aF}:∀{l:List<|YI×Tree},x∈kr t l↔∃y∈l,y.2.kind=12∧x=⟨y.1,(kJ ((arP t y.1).map<|iq t) y.2.text).1,!(kJ ((arP t y.1).map<|iq t) y.2.text).2⟩
 |[]=>by simp[kr]
 | y ::r=>by
  simp only[kr,aaj,xn (l:=r),aai];constructor
  ·rintro(h|⟨z,hz,h⟩)
   ·split at h
    ·rename_i hk;rw[List.mem_singleton]at h;exact⟨y,.inl I,hk,h⟩
    ·cases h
   ·exact⟨z,.inr hz,h⟩
  ·rintro⟨z,rfl|hz,h1,h2⟩
   ·left;rw[if_pos h1,List.mem_singleton];exact h2
   ·exact .inr ⟨z,hz,h1,h2⟩
theorem HJ{x:aF}(h:x∈il t):∃u,atK t x.Path=some u∧u.kind=12∧x.Path.length<=tbulk t∧(x.Free=false->(atK t x.Binder).isSome=true∧x.Binder.length<=tbulk t+1):=by
 unfold il at h;split at h
 ·obtain⟨y,hy,U,rfl⟩:=xn.1 h;have G:=nodK_at t t [] rfl y hy;have hb:=nodK_bnd t [] y hy;simp only[aae,Nat.zero_add]at hb;refine⟨y.2,G,U,by simp only;omega,λhf=>?_⟩;simp only[Bool.not_eq_false']at hf;obtain⟨b,J,E⟩:=Af hf;obtain⟨z,hz,rfl⟩:=List.mem_map.1 J;simp only[iq]at E;simp only[<-E];obtain⟨a1,a2⟩:=KB hz;exact⟨a1,by omega⟩
 ·cases h
def wt(m:Nat)(t:Tree)(d:Nat):List aF->List Asg
 |[]=>[]
 |x::r=>(if x.Free=true then[]else[(m,((ay t ((d:Int)::x.Path):Nat):Int),⟨(m:Int),((ay t ((d:Int)::x.Binder):Nat):Int)⟩)])++wt m t d r
def uZ(m:Nat)(t:Tree):Nat->YT->List Asg
 |_,[]=>[]
 |d,f::r=>(if f.kind=2 then wt m t d (il f)else[])++uZ m t (d+1) r
def rx:Nat->YT->List Asg
 |_,[]=>[]
 |m,t::r=>uZ m t 0 t.kids++rx (m+1) r
theorem bV{α:Type}{l:List α}{i:Nat}{x:α}(h:l[i]?=some x):l.drop i=x::l.drop (i+1):=by obtain⟨E,G⟩:=List.getElem?_eq_some_iff.1 h;rw[aan E,G]
theorem GD {b:Int} {cs:List aj} {p:List Tree} (hb:kbulk p<=100000000) (us:Mps) (hu:us.length=p.length):fV b (bO p) (dL 0 p) us cs (dC us<|rx 0 p):=by
 have hpl:=it p;have hsl:(bO p).length=p.length:=by simp[bO]
 have l0 :∀k i (us:Mps),k+i=p.length->us.length=p.length->∃M,dy M b (bO p) (dL 0 p) cs i us (dC us<|rx i<|p.drop i):=λk=>by
  induction k with
  |zero=>
   intro i us hi hu;refine⟨1,jP 0 _ _ _ _ _ _ _ (⟨λh=>by omega,λ_=>?_⟩)⟩;rw[List.drop_of_length_le<|by omega];rfl
  | succ k ih=>
   intro i us hi hu;obtain⟨t,ht⟩:∃t,p[i]?=some t:=⟨_,List.getElem?_eq_getElem (by omega)⟩;have hbt:=cP ht;have hkl:=cS t;rw[bV ht,rx,oc];have hx1:=ev ht;have hx2:(flatK t (-1) 0 0)[0]?=some ⟨t,-1,0,fG t.kids 1⟩:=by rw[wz];rfl
   have l1:∀j d (us:Mps),j+d=t.kids.length->us.length=p.length->∃M,cz M b (bO p) (dL 0 p) cs (flatK t (-1) 0 0) ⟨t,-1,0,fG t.kids 1⟩ d i i us (dC (dC us<|uZ i t d<|t.kids.drop d)<|rx (i+1)<|p.drop<|i+1):=λj=>by
    induction j with
    |zero=>
     intro d us hd hu;obtain⟨M,hM⟩:=ih (i+1) us (by omega) hu;refine⟨M+1,fb M _ _ _ _ _ _ _ _ _ _ _ (⟨λh=>by rw[gD]at h;omega,λ_=>⟨by omega,?_⟩⟩)⟩;rw[List.drop_of_length_le (by omega),uZ];exact hM
    | succ j ihj=>
     intro d us hd hu;obtain⟨f,hf⟩:∃f,t.kids[d]?=some f:=⟨_,List.getElem?_eq_getElem (by omega)⟩;have hbf:=dx hf;have hat:atK t [(d:Int)]=some f:=lT hf;have hnum:=vv (t:=t) (q:=[]) rfl hf;rw[show ay t []+1=1 by simp[ay],aal]at hnum;obtain⟨par,ix,hsp,_⟩:=lP hat;rw[bV hf,uZ,oc];by_cases h2:f.kind=2
     ·rw [if_pos h2];have l2:∀n c (us:Mps),n+c=(il f).length->us.length=p.length->∃M,cy M b (bO p) (dL 0 p) cs (flatK t (-1) 0 0) ⟨t,-1,0,fG t.kids 1⟩ ((ay t [(d:Int)]:Nat):Int) (il f) us c i i d (dC (dC (dC us<|wt i t d<|(il f).drop c)<|uZ i t (d+1)<|t.kids.drop<|d+1)<|rx (i+1)<|p.drop<|i+1):=λn=>by
       induction n with
       |zero=>
        intro c us hc hu;obtain⟨M,hM⟩:=ihj (d+1) us (by omega) hu;refine⟨M+1,eZ M _ _ _ _ _ _ _ _ _ _ _ _ _ _ (⟨λh=>by omega,λ_=>⟨by omega,?_⟩⟩)⟩;rw[List.drop_of_length_le (by omega),wt];exact hM
       | succ n ihn=>
        intro c us hc hu;have hvl:(il f).length<=tbulk f:=by
         unfold il;split
         ·exact aao (Fu f _)<|nodK_len f []
         ·exact aat _
        obtain⟨x,hx⟩:∃x,(il f)[c]?=some x:=⟨_,List.getElem?_eq_getElem<|by omega⟩;obtain⟨u,a1,a2,a3,a4⟩:=HJ<|List.mem_of_getElem? hx;rw[bV hx,wt,oc];by_cases hfr:x.Free=true
        ·rw[if_pos hfr];obtain⟨M,hM⟩:=ihn (c+1) us (by omega) hu;exact⟨M+1,eZ M _ _ _ _ _ _ _ _ _ _ _ _ _ _<|⟨λ_=>⟨x,hx,λh=>(by rw[hfr]at h;cases h),λ_=>⟨by omega,hM⟩⟩,λh=>by omega⟩⟩
        ·rw[if_neg hfr];obtain⟨b1,b2⟩:=a4 (by simpa using hfr);cases hbd:atK f x.Binder with
         |none=>rw[hbd]at b1;cases b1
         |some v=>
          obtain⟨l,hl⟩:∃l,us[i]?=some l:=⟨_,List.getElem?_eq_getElem<|by omega⟩;have f1:=Fe x.Path [(d:Int)] f u hat a1 (by omega);have f2:=Fe x.Binder [(d:Int)] f v hat hbd (by omega);rw[List.singleton_append]at f1 f2;obtain⟨M,hM⟩:=ihn (c+1) (us.set i<|aR ((ay t ((d:Int)::x.Path):Nat):Int) ⟨(i:Int),((ay t ((d:Int)::x.Binder):Nat):Int)⟩ l) (by omega) (by rw[aay];exact hu);refine⟨M+1,eZ M _ _ _ _ _ _ _ _ _ _ _ _ _ _<|⟨λ_=>⟨x,hx,λ_=>⟨l,hl,_,f1,_,f2,by omega,?_⟩,λh=>absurd h hfr⟩,λh=>by omega⟩⟩;rw[<-Oh hl];exact hM
      obtain⟨M,hM⟩:=l2 (il f).length 0 us (by omega) hu;rw[List.drop_zero]at hM;exact⟨M+1,fb M _ _ _ _ _ _ _ _ _ _ _<|⟨λ_=>⟨_,hnum,_,I,_,hsp,λh=>absurd h2 h,λ_=>⟨_,I,_,hsp,_,Ey f (by omega),hM⟩⟩,λh=>by rw[gD]at h;omega⟩⟩
     ·rw[if_neg h2];obtain⟨M,hM⟩:=ihj (d+1) us (by omega) hu;exact⟨M+1,fb M _ _ _ _ _ _ _ _ _ _ _<|⟨λ_=>⟨_,hnum,_,I,_,hsp,λ_=>⟨by omega,hM⟩,λh=>absurd h h2⟩,λh=>by rw[gD]at h;omega⟩⟩
   obtain⟨M,hM⟩:=l1 t.kids.length 0 us (by omega) hu;rw[List.drop_zero]at hM;exact⟨M+1,jP M _ _ _ _ _ _ _<|⟨λ_=>⟨_,hx1,_,hx2,hM⟩,λh=>by omega⟩⟩
 obtain⟨M,hM⟩:=l0 p.length 0 us (by omega) hu;exact rk M _ _ _ _ _ _ (by rwa [List.drop_zero]at hM)
theorem Di{p:YT}{M:Int}:∀{a:List<|YI×Tree} {x:aE},x∈kE p M a↔∃q u,(q,u)∈a∧uW u=true∧x=tgK p M q u
 |[],x=>by simp[kE]
 | (q,u)::r,x=>by
  simp only[kE,aaj,Di (a:=r),aai];constructor
  ·rintro(h|⟨q',u',h1,h2,h3⟩)
   ·split at h
    ·rename_i hu;rw[List.mem_singleton]at h;exact⟨q,u,.inl I,hu,h⟩
    ·cases h
   ·exact⟨q',u',.inr h1,h2,h3⟩
  ·rintro⟨q',u',h1|h1,h2,h3⟩
   ·injection h1 with e1 e2
    subst e1 e2;left;rw[if_pos h2,List.mem_singleton];exact h3
   ·exact .inr ⟨q',u',h1,h2,h3⟩
theorem wK{p:YT}:∀{i:Nat} {l:YT} {x:aE},x∈pD p i l↔∃j t q u,l[j]?=some t∧(q,u)∈nodK t []∧uW u=true∧x=tgK p ((i+j:Nat):Int) q u
 |i,[],x=>by simp[pD]
 | i,t::r,x=>by
  simp only[pD,aaj,Di,wK (l:=r)];constructor
  ·rintro(⟨q,u,a1,a2,a3⟩|⟨j,t',q,u,a0,a1,a2,a3⟩)
   ·exact⟨0,t,q,u,I,a1,a2,a3⟩
   ·exact⟨j+1,t',q,u,by simpa using a0,a1,a2,by rw[a3];congr 2;omega⟩
  ·rintro⟨j,t',q,u,a0,a1,a2,a3⟩;cases j with
   |zero=>
    simp only[List.getElem?_cons_zero,aaa]at a0;subst a0;exact .inl ⟨q,u,a1,a2,a3⟩
   |succ j=>exact .inr ⟨j,t',q,u,by simpa using a0,a1,a2,by rw[a3];congr 2;omega⟩
def ro(p:YT)(m:Int):Tree:=p.getD m.toNat zT0
theorem oK(h:p[m]?=some t):ro p (m:Int)=t:=by simp[ro,List.getD_eq_getElem?_getD,h]
def wR(t:Tree)(d:Int):Tree:=t.kids.getD d.toNat zT0
theorem vS{f:Tree}{d:Nat}(h:t.kids[d]?=some f):wR t (d:Int)=f:=by simp[wR,List.getD_eq_getElem?_getD,h]
theorem fZ(h:atK t q=some u):atD t q=u:=by simp[atD,h]
def xX(m:Nat)(t tm:Tree)(q:YI)(gm gd n:Int):Nat->Nat->List Asg
 |0,_=>[]
 |k+1,i=>(if(i:Int)<n then[(m,((ay t (q++[(i:Int)]):Nat):Int),⟨gm,((ay tm [gd,(i:Int)]:Nat):Int)⟩)]else[])++xX m t tm q gm gd n k (i+1)
def yq(p:YT)(g:aE):List Asg:=if g.Free=true then[]else
 (g.Use.Module.toNat,((ay (ro p g.Use.Module) g.Use.Path:Nat):Int),⟨g.Module,((ay (ro p g.Module) [g.Def]:Nat):Int)⟩)::
  (if(atD (ro p g.Use.Module) g.Use.Path).kind=16 then xX g.Use.Module.toNat (ro p g.Use.Module) (ro p g.Module) g.Use.Path g.Module g.Def (((wR (ro p g.Module) g.Def).kids.length:Int)-2) (atD (ro p g.Use.Module) g.Use.Path).kids.length 0 else[])
def uV(p:YT):List aE->List Asg
 |[]=>[]
 |g::r=>yq p g++uV p r
theorem FD{us:Mps}{k:Int}{v:ah}{l:List<|Int×ah}(h:us[m]?=some l)(r:List Asg):dC us ((m,k,v)::r)=dC (us.set m<|aR k v l) r:=by simp only[dC,List.getD_eq_getElem?_getD,h,Option.getD_some]
theorem Kl {b:Int} {cs:List aj} {p:List Tree} (hb:kbulk p<=100000000) (us:Mps) (hu:us.length=p.length):gx b (bO p) (dL 0 p) us cs p (dC us<|uV p<|cH p):=by
 have hpl:=it p;have htl:(cH p).length<=kbulk p:=by
  unfold cH;split
  ·exact CY p 0 p
  ·exact aat _
 have hall:∀g∈cH p,∃(j:Nat) (t:Tree) (q:YI) (u:Tree),p[j]?=some t∧atK t q=some u∧q.length<=100000000∧g=tgK p (j:Int) q u:=λg hg=>by
  unfold cH at hg;split at hg
  ·obtain⟨j,t,q,u,a0,a1,a2,a3⟩:=wK.1 hg;have hbt:=cP a0;have :=nodK_bnd t [] _ a1;simp only[aae,Nat.zero_add]at this;exact⟨j,t,q,u,a0,nodK_at t t [] I _ a1,by omega,by rw[a3,Nat.zero_add]⟩
  ·cases hg
 have l0:∀k i (us:Mps),k+i=(cH p).length->us.length=p.length->∃M,ch M b (bO p) (dL 0 p) cs (cH p) i us (dC us<|uV p<|(cH p).drop i):=λk=>by
  induction k with
  |zero=>
   intro i us hi hu;refine⟨1,dK 0 _ _ _ _ _ _ _ _ (⟨λh=>by omega,λ_=>?_⟩)⟩;rw[List.drop_of_length_le<|by omega];rfl
  | succ k ih=>
   intro i us hi hu;obtain⟨g,hg⟩:∃g,(cH p)[i]?=some g:=⟨_,List.getElem?_eq_getElem (by omega)⟩;rw[bV hg,uV,oc];by_cases hfr:g.Free=true
   ·obtain⟨M,hM⟩:=ih (i+1) us (by omega) hu;rw[yq,if_pos hfr];exact⟨M+1,dK M _ _ _ _ _ _ _ _<|⟨λ_=>⟨g,hg,λ_=>⟨by omega,hM⟩,λh=>(by rw[hfr]at h;cases h)⟩,λh=>by omega⟩⟩
   ·obtain⟨j,t,q,u,ht,hq,hql,e⟩:=hall g<|List.mem_of_getElem? hg;have hbt:=cP ht;have hlk:(dV p (j:Int) u.text).2.2=true:=by rw[e]at hfr;simpa[tgK]using hfr
    obtain⟨jm,d,tm,f,e1,e2,htm,hf⟩:=zN hlk;have g1:g.Use.Module=(j:Int):=by rw[e];rfl
    have g2:g.Use.Path=q:=by rw[e];rfl
    have g3:g.Module=(jm:Int):=by rw[e];exact e1
    have g4:g.Def=(d:Int):=by rw[e];exact e2
    have hjl:=(List.getElem?_eq_some_iff.1 ht).1;have hx2:(flatK tm (-1) 0 0)[0]?=some ⟨tm,-1,0,fG tm.kids 1⟩:=by rw[wz];rfl
    have hatf:atK tm [(d:Int)]=some f:=lT hf;have hnum:=vv (t:=tm) (q:=[]) rfl hf;rw[show ay tm []+1=1 by simp[ay],aal]at hnum;obtain⟨par,ix,hsp,_⟩:=lP hq;obtain⟨par',ix',hsf,_⟩:=lP hatf;have f1:=Fe q [] t u rfl hq (by omega);rw[aal,show ay t []=0 by simp[ay]]at f1;obtain⟨l,hl⟩:∃l,us[j]?=some l:=⟨_,List.getElem?_eq_getElem<|by omega⟩;have hag:yq p g=(j,((ay t q:Nat):Int),⟨(jm:Int),((ay tm [(d:Int)]:Nat):Int)⟩)::(if u.kind=16 then xX j t tm q (jm:Int) (d:Int) ((f.kids.length:Int)-2) u.kids.length 0 else[]):=by rw[yq,if_neg hfr,g1,g2,g3,g4,oK ht,oK htm,vS hf,fZ hq,Int.toNat_natCast]
    rw[hag,FD hl];obtain⟨us1,hus1⟩:∃us1,us1=us.set j (aR ((ay t q:Nat):Int) ⟨(jm:Int),((ay tm [(d:Int)]:Nat):Int)⟩ l):=⟨_,rfl⟩;have hul1:us1.length=p.length:=by rw[hus1,aay];exact hu
    rw[<-hus1];by_cases h16:u.kind=16
    ·rw [if_pos h16];have l1:∀n c (us:Mps),n+c=u.kids.length->us.length=p.length->∃M,cX M b (bO p) (dL 0 p) cs (cH p) g ⟨f,par',ix',fG f.kids<|ay tm [(d:Int)]+1⟩ ⟨u,par,ix,fG u.kids<|ay t q+1⟩ us c i (dC (dC us<|xX j t tm q (jm:Int) (d:Int) ((f.kids.length:Int)-2) n c)<|uV p<|(cH p).drop<|i+1):=λn=>by
      induction n with
      |zero=>
       intro c us hc hu;obtain⟨M,hM⟩:=ih (i+1) us (by omega) hu;exact⟨M+1,fS M _ _ _ _ _ _ _ _ _ _ _ _ (⟨λh=>by rw[gD]at h;omega,λ_=>⟨by omega,hM⟩⟩)⟩
      | succ n ihn=>
       intro c us hc hu;obtain⟨a,ha⟩:∃a,u.kids[c]?=some a:=⟨_,List.getElem?_eq_getElem (by omega)⟩;have hna:=vv hq ha;have hkl:=cS u;have hbu:=aao (cS u) (aag _);have hcl:c<=9223372036854775806:=by have h1:=nN_bulk t;have h2:=oI q t u hq;have h3:=wc u.kids;rw[DA u]at h2;omega
       rw[xX,oc];by_cases hlt:(c:Int)<(f.kids.length:Int)-2
       ·rw[if_pos hlt];obtain⟨k,hk⟩:∃k,f.kids[c]?=some k:=⟨_,List.getElem?_eq_getElem<|by omega⟩;have hnk:=vv hatf hk;rw[List.singleton_append]at hnk;obtain⟨l',hl'⟩:∃l,us[j]?=some l:=⟨_,List.getElem?_eq_getElem<|by omega⟩;rw[FD hl',dC];obtain⟨M,hM⟩:=ihn (c+1) (us.set j<|aR ((ay t (q++[(c:Int)]):Nat):Int) ⟨(jm:Int),((ay tm [(d:Int),(c:Int)]:Nat):Int)⟩ l') (by omega) (by rw[aay];exact hu);refine⟨M+1,fS M _ _ _ _ _ _ _ _ _ _ _ _<|⟨λ_=>⟨_,hna,λ_=>⟨j,g1,l',hl',_,hnk,by omega,?_⟩,λh=>absurd (by rw[gD];exact hlt) h⟩,λh=>by rw[gD]at h;omega⟩⟩;rw[g3];exact hM
       ·rw[if_neg hlt];obtain⟨M,hM⟩:=ihn (c+1) us (by omega) hu;exact⟨M+1,fS M _ _ _ _ _ _ _ _ _ _ _ _<|⟨λ_=>⟨_,hna,λh=>absurd (by rw[gD]at h;exact h) hlt,λ_=>⟨by omega,hM⟩⟩,λh=>by rw[gD]at h;omega⟩⟩
     obtain⟨M,hM⟩:=l1 u.kids.length 0 us1 (by omega) hul1;refine⟨M+1,dK M _ _ _ _ _ _ _ _<|⟨λ_=>⟨g,hg,λh=>absurd h hfr,λ_=>⟨j,g1,_,ev ht,_,by rw[g2];exact f1,jm,g3,_,ev htm,_,hx2,d,g4,_,hnum,j,g1,l,hl,_,I,_,hsp,λh=>absurd h16 h,λ_=>⟨jm,g3,_,ev htm,_,I,_,hsf,_,I,_,hsp,?_⟩⟩⟩,λh=>by omega⟩⟩;rw[g3,<-hus1];exact hM
    ·rw[if_neg h16,dC];obtain⟨M,hM⟩:=ih (i+1) us1 (by omega) hul1;refine⟨M+1,dK M _ _ _ _ _ _ _ _<|⟨λ_=>⟨g,hg,λh=>absurd h hfr,λ_=>⟨j,g1,_,ev ht,_,by rw[g2];exact f1,jm,g3,_,ev htm,_,hx2,d,g4,_,hnum,j,g1,l,hl,_,I,_,hsp,λ_=>⟨by omega,?_⟩,λh=>absurd h h16⟩⟩,λh=>by omega⟩⟩;rw[g3,<-hus1];exact hM
 obtain⟨M,hM⟩:=l0 (cH p).length 0 us (by omega) hu;exact rJ M _ _ _ _ _ _ _ (⟨_,Kn p hb,by rwa [List.drop_zero]at hM⟩)
theorem OM{k n i:Int}(h:gZ k n i 17=true):k=16:=by
 unfold gZ at h
 repeat' split at h
 all_goals first|omega|(exfalso;revert h;simp[mb,nP,ux])
theorem Pa{n i kk:Int}(h:gZ 16 n i kk=true):kk=17:=by simpa[gZ]using h
def yc(f:Tree)(r:YI)(w:YB):YI×Bool:=kJ ((arP f r).map<|iq f) w
def usK(p:YT)(m:Nat)(t:Tree)(q:YI):Option ah:=
 if(atD t q).kind=12 then
  (if nJ (wR t<|q.getD 0 0)=true∧(yc (wR t<|q.getD 0 0) (q.drop 1) (atD t q).text).2=true then some ⟨(m:Int),((ay t (q.getD 0 0::(yc (wR t<|q.getD 0 0) (q.drop 1) (atD t q).text).1):Nat):Int)⟩else none)
 else if(atD t q).kind=16∨(atD t q).kind=9 then
  (if(dV p (m:Int) (atD t q).text).2.2=true then some ⟨(dV p (m:Int) (atD t q).text).1,((ay (ro p (dV p (m:Int) (atD t q).text).1) [(dV p (m:Int) (atD t q).text).2.1]:Nat):Int)⟩else none)
 else if(atD t q).kind=17 then
  (if(dV p (m:Int) (atD t (q.take (q.length-1))).text).2.2=true∧q.getD (q.length-1) 0<((wR (ro p (dV p (m:Int) (atD t (q.take (q.length-1))).text).1) (dV p (m:Int) (atD t (q.take (q.length-1))).text).2.1).kids.length:Int)-2 then
   some ⟨(dV p (m:Int) (atD t (q.take (q.length-1))).text).1,((ay (ro p (dV p (m:Int) (atD t (q.take (q.length-1))).text).1) [(dV p (m:Int) (atD t (q.take (q.length-1))).text).2.1,q.getD (q.length-1) 0]:Nat):Int)⟩else none)
 else none
theorem Ab{m:Nat}{t:Tree}{d:Nat}{a:Asg}:∀{l:List aF},a∈wt m t d l↔∃x∈l,x.Free=false∧a=(m,((ay t ((d:Int)::x.Path):Nat):Int),⟨(m:Int),((ay t ((d:Int)::x.Binder):Nat):Int)⟩)
 |[]=>by simp[wt]
 | x ::r=>by
  simp only[wt,aaj,Ab (l:=r),aai];constructor
  ·rintro(h|⟨y,hy,h⟩)
   ·split at h
    ·cases h
    ·rename_i hf;rw[List.mem_singleton]at h;exact⟨x,.inl I,by simpa using hf,h⟩
   ·exact⟨y,.inr hy,h⟩
  ·rintro⟨y,rfl|hy,h1,h2⟩
   ·left;rw[if_neg (by rw[h1];simp),List.mem_singleton];exact h2
   ·exact .inr ⟨y,hy,h1,h2⟩
theorem Ai{m:Nat}{t:Tree}{a:Asg}:∀{l:YT} {d:Nat},a∈uZ m t d l↔∃j f,l[j]?=some f∧f.kind=2∧a∈wt m t (d+j) (il f)
 |[],d=>by simp[uZ]
 | f ::r,d=>by
  simp only[uZ,aaj,Ai (l:=r)];constructor
  ·rintro(h|⟨j,g,h1,h2,h3⟩)
   ·split at h
    ·rename_i hk;exact⟨0,f,I,hk,h⟩
    ·cases h
   ·exact⟨j+1,g,by simpa using h1,h2,by rwa [show d+(j+1)=d+1+j by omega]⟩
  ·rintro⟨j,g,h1,h2,h3⟩;cases j with
   |zero=>
    simp only[List.getElem?_cons_zero,aaa]at h1;subst h1;left;rw[if_pos h2];exact h3
   |succ j=>exact .inr ⟨j,g,by simpa using h1,h2,by rwa [show d+1+j=d+(j+1) by omega]⟩
theorem Ax{a:Asg}:∀{l:YT} {m:Nat},a∈rx m l↔∃j t,l[j]?=some t∧a∈uZ (m+j) t 0 t.kids
 |[],m=>by simp[rx]
 | t::r,m=>by
  simp only[rx,aaj,Ax (l:=r)];constructor
  ·rintro(h|⟨j,u,h1,h2⟩)
   ·exact⟨0,t,I,h⟩
   ·exact⟨j+1,u,by simpa using h1,by rwa [show m+(j+1)=m+1+j by omega]⟩
  ·rintro⟨j,u,h1,h2⟩;cases j with
   |zero=>
    simp only[List.getElem?_cons_zero,aaa]at h1;subst h1;exact .inl h2
   |succ j=>exact .inr ⟨j,u,by simpa using h1,by rwa [show m+1+j=m+(j+1) by omega]⟩
theorem zO{m:Nat}{t tm:Tree}{q:YI}{gm gd n:Int}{a:Asg}:∀{k i:Nat},a∈xX m t tm q gm gd n k i↔∃c:Nat,i<=c∧c<i+k∧(c:Int)<n∧a=(m,((ay t (q++[(c:Int)]):Nat):Int),⟨gm,((ay tm [gd,(c:Int)]:Nat):Int)⟩)
 |0,i=>by simp only[xX,List.not_mem_nil,false_iff];rintro⟨c,h1,h2,_⟩;omega
 | k +1,i=>by
  simp only[xX,aaj,zO (k:=k)];constructor
  ·rintro(h|⟨c,h1,h2,h3⟩)
   ·split at h
    ·rename_i hk;rw[List.mem_singleton]at h;exact⟨i,aag _,by omega,hk,h⟩
    ·cases h
   ·exact⟨c,by omega,by omega,h3⟩
  ·rintro⟨c,h1,h2,h3,h4⟩;by_cases hc:c=i
   ·subst hc;left;rw[if_pos h3,List.mem_singleton];exact h4
   ·exact .inr ⟨c,by omega,by omega,h3,h4⟩
theorem xf{p:YT}{a:Asg}:∀{l:List aE},a∈uV p l↔∃g∈l,a∈yq p g
 |[]=>by simp[uV]
 |g::r=>by simp only[uV,aaj,xf (l:=r),aai,exists_eq_or_imp]
theorem uY(hp:ea p=true){g:aE}:g∈cH p↔∃(j:Nat) (t:Tree) (q:YI) (u:Tree),p[j]?=some t∧(q,u)∈nodK t []∧uW u=true∧g=tgK p (j:Int) q u:=by rw[cH,if_pos hp,wK];simp only[Nat.zero_add]
theorem BT(h:atK t q=some u):(q,u)∈nodK t []:=by have :=AA q t u [] h;rw[aal]at this;exact List.mem_of_getElem? this
theorem vp{r:YI}{i:Int}(h:atK t (r++[i])=some u):∃(v:Tree) (c:Nat),i=c∧atK t r=some v∧v.kids[c]?=some u:=by
 rw[wj]at h;cases hv:atK t r with
 |none=>rw[hv]at h;simp at h
 |some v=>
  rw[hv]at h;simp only[Option.bind_some,atK]at h;split at h
  ·cases h
  rename_i hi;split at h
  ·cases h
  rename_i y hy;injection h with h
  subst h;exact⟨v,i.toNat,by omega,I,hy⟩
theorem EV(hp:ea p=true)(ht:p[m]?=some t)(hq:atK t q=some u){v:ah}:(m,((ay t q:Nat):Int),v)∈rx 0 p++uV p (cH p)↔usK p m t q=some v:=by
 have hu:=fZ hq;obtain⟨hk1,hst⟩:=ym hp ht;have inj:∀{G:YI} {w:Tree},atK t G=some w->((ay t q:Nat):Int)=((ay t G:Nat):Int)->G=q∧w=u:=λ{G w} h1 h2=>by obtain⟨a,b⟩:=EN hq h1 (by omega);exact⟨a.symm,b.symm⟩
 rw[aaj];constructor
 ·rintro(h|h)
  ·obtain⟨j,t',h1,h2⟩:=Ax.1 h;obtain⟨d,f,h3,h4,h5⟩:=Ai.1 h2;obtain⟨x,h6,h7,h8⟩:=Ab.1 h5;simp only[Nat.zero_add,Prod.mk.injEq]at h8;obtain⟨rfl,e1,e2⟩:=h8;rw[ht]at h1;injection h1 with h1
   subst h1;obtain⟨w,a1,a2,_,a4⟩:=HJ h6;have hw:atK t ((d:Int)::x.Path)=some w:=by rw[atK,if_neg (by omega),Int.toNat_natCast,h3];exact a1
   obtain⟨rfl,rfl⟩:=inj hw e1;have hfine:nJ f=true:=by
    unfold il at h6;split at h6
    ·assumption
    ·cases h6
   unfold il at h6;rw[if_pos hfine]at h6;obtain⟨y,hy,_,rfl⟩:=xn.1 h6;have hyw:=nodK_at f f [] rfl y hy;simp only at hyw a1 e2 h7⊢;rw[hyw]at a1;injection a1 with a1
   rw[usK,hu,if_pos a2];simp only[List.getD_cons_zero,List.drop_succ_cons,List.drop_zero];rw[vS h3,if_pos ⟨hfine,by rw[yc,<-a1];simpa using h7⟩,e2,yc,<-a1]
  ·obtain⟨g,g1,g2⟩:=xf.1 h;obtain⟨j,t',G,u',h1,h2,h3,rfl⟩:=(uY hp).1 g1;have J:=nodK_at t' t' [] rfl _ h2;simp only at J;rw[yq]at g2;split at g2
   ·cases g2
   rename_i hfr;have hlk:(dV p (j:Int) u'.text).2.2=true:=by simpa[tgK]using hfr
   simp only[tgK,oK h1,Int.toNat_natCast,fZ J,aai]at g2;have hk:u'.kind=16∨u'.kind=9:=by simpa[uW]using h3
   rcases g2 with e|g2
   ·simp only[Prod.mk.injEq]at e;obtain⟨rfl,e1,e2⟩:=e;rw[ht]at h1;injection h1 with h1
    subst h1;obtain⟨rfl,rfl⟩:=inj J e1;rw[usK,hu,if_neg (by omega),if_pos hk,if_pos hlk,e2]
   ·split at g2
    ·rename_i E;obtain⟨c,_,c2,c3,e⟩:=zO.1 g2;simp only[Prod.mk.injEq]at e;obtain⟨rfl,e1,e2⟩:=e;rw[ht]at h1;injection h1 with h1
     subst h1;obtain⟨a,ha⟩:∃a,u'.kids[c]?=some a:=⟨_,List.getElem?_eq_getElem<|by omega⟩;have hat:atK t (G++[(c:Int)])=some a:=by rw[wj,J];exact lT ha
     obtain⟨rfl,rfl⟩:=inj hat e1;have hs:=nW G t u' hst J;rw[dQ]at hs;simp only[aab]at hs;have U:=(rR hs.2 ha).1;rw[E]at U;have U:=Pa U;have el:(G++[(c:Int)]).length-1=G.length:=by simp
     have et:(G++[(c:Int)]).take G.length=G:=by simp
     have eg:(G++[(c:Int)]).getD G.length 0=(c:Int):=by simp[List.getD_eq_getElem?_getD]
     rw[usK,hu,if_neg (by omega),if_neg (by omega),if_pos U,el,et,eg,fZ J,if_pos ⟨hlk,c3⟩,e2]
    ·cases g2
 ·intro h;unfold usK at h;rw[hu]at h;split at h
  ·rename_i h12;split at h
   ·rename_i Z;injection h with h
    subst h;left;cases q with
    |nil=>
     simp only[atK,aaa]at hq;subst hq;omega
    |cons d r=>
     simp only[List.getD_cons_zero,List.drop_succ_cons,List.drop_zero]at Z⊢;simp only[atK]at hq;split at hq
     ·cases hq
     rename_i hd;split at hq
     ·cases hq
     rename_i f hf;obtain⟨d,rfl⟩:∃n:Nat,d=n:=⟨d.toNat,by omega⟩;rw[Int.toNat_natCast]at hf;rw[vS hf]at Z⊢;have hk2:f.kind=2:=by have :=Z.1;simp only[nJ,aab,aar]at this;exact this.1
     refine Ax.2 ⟨m,t,ht,Ai.2 ⟨d,f,hf,hk2,Ab.2 ⟨⟨r,(yc f r u.text).1,!(yc f r u.text).2⟩,?_,by rw[Z.2];rfl,by simp only[Nat.zero_add]⟩⟩⟩;rw[il,if_pos Z.1];exact xn.2 ⟨(r,u),BT hq,h12,I⟩
   ·cases h
  ·rename_i h12;split at h
   ·rename_i hk;split at h
    ·rename_i hlk;injection h with h
     subst h;right;refine xf.2 ⟨tgK p (m:Int) q u,(uY hp).2 ⟨m,t,q,u,ht,BT hq,by simpa[uW]using hk,I⟩,?_⟩;rw[yq,if_neg<|by simp[tgK,hlk]];simp only[tgK,oK ht,Int.toNat_natCast];exact List.mem_cons_self
    ·cases h
   ·split at h
    ·rename_i U;split at h
     ·rename_i Z;injection h with h
      subst h;right;rcases List.eq_nil_or_concat q with rfl|⟨r,i,rfl⟩
      ·simp only[atK,aaa]at hq;subst hq;omega
      rw[List.concat_eq_append]at hq Z⊢;obtain⟨w,c,rfl,hw,hc2⟩:=vp hq;have el:(r++[(c:Int)]).length-1=r.length:=by simp
      have et:(r++[(c:Int)]).take r.length=r:=by simp
      have eg:(r++[(c:Int)]).getD r.length 0=(c:Int):=by simp[List.getD_eq_getElem?_getD]
      rw[el,et,eg,fZ hw]at Z⊢;have hs:=nW r t w hst hw;rw[dQ]at hs;simp only[aab]at hs;have E:=(rR hs.2 hc2).1;rw[U]at E;have E:=OM E;refine xf.2 ⟨tgK p (m:Int) r w,(uY hp).2 ⟨m,t,r,w,ht,BT hw,by simp[uW,E],rfl⟩,?_⟩;rw[yq,if_neg<|by simp[tgK,Z.1]];simp only[tgK,oK ht,Int.toNat_natCast,fZ hw,if_pos E];exact List.mem_cons_of_mem _ (zO.2 ⟨c,by omega,by have :=(List.getElem?_eq_some_iff.1 hc2).1;omega,Z.2,I⟩)
     ·cases h
    ·cases h
def jk(p:YT):Mps:=dC (dC (List.replicate p.length [])<|rx 0 p)<|uV p<|cH p
theorem MU(p:YT):(jk p).length=p.length:=by simp[jk,Aa]
theorem Pj(hp:ea p=true)(ht:p[m]?=some t)(hq:atK t q=some u):∃l,(jk p)[m]?=some l∧aC ((ay t q:Nat):Int) l=usK p m t q:=by
 have E:=(List.getElem?_eq_some_iff.1 ht).1;obtain⟨l,hl⟩:∃l,(jk p)[m]?=some l:=⟨_,List.getElem?_eq_getElem (by rw[MU];exact E)⟩;refine⟨l,hl,?_⟩;have G:(jk p).getD m []=l:=by rw[List.getD_eq_getElem?_getD,hl];rfl
 rw[<-G,jk,<-oc];have J:aC ((ay t q:Nat):Int) ((List.replicate p.length ([]:List<|Int×ah)).getD m [])=none:=by rw[List.getD_eq_getElem?_getD,List.getElem?_replicate_of_lt E];rfl
 cases h:usK p m t q with
 |none=>
  rw[CC _ _ (by simpa using E) (λv hv=>by have :=(EV hp ht hq).1 hv;rw[h]at this;cases this),J]
 |some v=>
  refine Dk _ _ (by simpa using E) (λw U=>?_)<|.inl ⟨v,(EV hp ht hq).2 h⟩;have :=(EV hp ht hq).1 U;rw[h]at this;injection this with this
  exact this.symm
end Go.Proofs.YtehhanlhfdoiaaaGreat
