/- Contracts of the functions that the law reaches, part 3. -/
import Derived.Test.YthnohcipianijaaGreatDoorTy2
set_option linter.unusedVariables false
set_option linter.unusedSimpArgs false
namespace Go.Proofs.YthnohcipianijaaGreatDoor
open _root_.Go.Proofs.Tryz
open Go.RowKit Lx Sx
set_option maxRecDepth 100000
set_option maxHeartbeats 4000000
def Gy(G:YB)(J:Int):Prop:=qS 143 [.str G]<|qi J
def yh(G:YB)(J:Int):Prop:=qS 140 [.str G]<|qi J
def rN(G p1 J:Int):Prop:=qS 97 [qi G,qi p1]<|qi J
def ga(G p1 p2 J:Int):Prop:=qS 142 [qi G,qi p1,qi p2]<|qi J
def mu(G:Int)(J:Bool):Prop:=qS 146 [qi G]<|.bool J
def eQ(G:Int)(J:Bool):Prop:=qS 145 [qi G]<|.bool J
def qY(G:Int)(J:Bool):Prop:=qS 147 [qi G]<|.bool J
def nP(G:YB)(J:Bool):Prop:=qS 144 [.str G]<|.bool J
def re(G:Int)(p1:YB)(J:Bool):Prop:=qS 98 [qi G,.str p1]<|.bool J
def rR(G:Tree)(p1:Int)(J:Bool):Prop:=qS 99 [.agg<|ao G,qi p1]<|.bool J
def dW(G:Tree)(J:Bool):Prop:=qS 66 [.agg<|ao G]<|.bool J
def fT(G p1 J:Int):Prop:=qS 108 [qi G,qi p1]<|qi J
def cD(G p1 p2 J:Int):Prop:=qS 153 [qi G,qi p1,qi p2]<|qi J
def ic(G:Int)(J:Bool):Prop:=qS 156 [qi G]<|.bool J
def fh(G:Int)(J:Bool):Prop:=qS 155 [qi G]<|.bool J
def io(G:Int)(J:Bool):Prop:=qS 157 [qi G]<|.bool J
def iL(G:YB)(J:Bool):Prop:=qS 154 [.str G]<|.bool J
def jY(G:Int)(p1:YB)(J:Bool):Prop:=qS 109 [qi G,.str p1]<|.bool J
def nN(G:Tree)(p1 p2:Int)(J:Bool):Prop:=qS 110 [.agg<|ao G,qi p1,qi p2]<|.bool J
def fk(G:Tree)(J:Bool):Prop:=qS 70 [.agg<|ao G]<|.bool J
def aT(m:Nat)(p1:Int)(a b c:Nat)(d G:Int):Prop:=z8 [] f97 (q9<|qi G) (xJ<|aj f97) [] 69 [(1,qi p1),(5,qi (a:Int)),(6,qi d),(7,qi (b:Int)),(8,qi (c:Int))] ⟨0,[]⟩
def mh(m:Nat)(G p1:Int)(a:Bool)(J:Int):Prop:=z8 [] f97 (q9<|qi J) (cB<|xG<|xM<|cB<|aj f97) [.blk 0,.seq<|xJ<|aj f97] 69 [(1,qi p1),(5,qi 0),(6,qi 0),(7,qi 1),(8,qi 0),(9,qi G),(22,.bool a)] ⟨0,[]⟩
def mg(m:Nat)(p1:Int)(a b c:Nat)(d G:Int):Prop:=z8 [] f97 (q9<|qi G) (xA<|xH<|aj f97) [] 69 [(1,qi p1),(5,qi (a:Int)),(6,qi d),(7,qi (b:Int)),(8,qi (c:Int))] ⟨0,[]⟩
theorem AX(m:Nat)(G p1 O:Int)(h:((G=1)->∃a,ga p1 0 3 a∧a=O)∧((G≠1)->((G=2)->aT m p1 2 6 2 (-1) O)∧((G≠2)->((G=16)->aT m p1 0 3 0 (-1) O)∧((G≠16)->((G=18)->aT m p1 1 2 0 (-1) O)∧((G≠18)->((G=3)->aT m p1 1 3 0 1 O)∧((G≠3)->((G=4)->mh m G p1 true O)∧((G≠4)->((G=8)->mh m G p1 true O)∧((G≠8)->mh m G p1 (G==22) O)))))))):rN G p1 O:=by
 refine⟨I,I,?_⟩;refine qA 69 [] func97 λK J=>?_;refine gR 30 rfl<|qBeZ 10 11 rfl rfl rfl rfl h ?_ ?_<;>intro h;refine gR 4 I ?_;obtain⟨a,b,h⟩:=h;refine qC0 b I<|gR 6 I ?_;subst h;exact qN [.tmp 4];refine gR 7 rfl<|qBeZ 14 15 rfl rfl rfl rfl h ?_ ?_<;>intro h;exact gR 9 I<|qJ J (h K J) [];refine gR 7 rfl<|qBeZ 16 17 rfl rfl rfl rfl h ?_ ?_<;>intro h;exact gR 9 I<|qJ J (h K J) [];refine gR 7 rfl<|qBeZ 18 19 rfl rfl rfl rfl h ?_ ?_<;>intro h;exact gR 9 I<|qJ J (h K J) [];refine gR 7 rfl<|qBeZ 20 21 rfl rfl rfl rfl h ?_ ?_<;>intro h;exact gR 8 I<|qJ J (h K J) [];refine gR 8 rfl<|qBeZ 22 23 rfl rfl rfl rfl h ?_ ?_<;>intro h;exact gR 3 I<|qJ J (h K J) [];refine gR 7 rfl<|qBeZ 22 24 rfl rfl rfl rfl h ?_ ?_<;>intro h;exact gR 3 I<|qJ J (h K J) [];exact gR 6 I<|qJ J (h K J) []
theorem Ac(m:Nat)(p1:Int)(b c d:Nat)(a G:Int)(h:y5 (0<=a) (y5 (a<p1) ((-1)=G)<|mg m p1 b c d a G)<|mg m p1 b c d a G):aT (m+1) p1 b c d a G:=by
 intro K J;refine gR 6 rfl<|qBdZ 47 46 rfl rfl rfl rfl h ?_ ?_<;>intro h;refine gR 6 rfl<|qBd 51 rfl rfl rfl h ?_ ?_<;>intro h;refine gR 8 I ?_;subst h;exact qN [.tmp 4];exact gR 3 I<|qJ J (h K J) [];exact gR 9 I<|qJ J (h K J) []
theorem Ae(m:Nat)(O p1:Int)(a:Bool)(J:Int)(h:y6 a (aT m p1 1 2 0 1 J)<|y8 O 17 (aT m p1 1 0 0 1 J)<|y8 O 19 (aT m p1 3 3 0 3 J)<|y8 O 20 (aT m p1 2 4 0 2 J)<|y8 O 21 (aT m p1 2 1 0 2 J)<|y8 O 5 (aT m p1 0 1 0 0 J)<|y8 O 6 (aT m p1 0 1 0 0 J)<|y8 O 7 (aT m p1 0 1 0 0 J)<|y8 O 9 (aT m p1 0 1 0 0 J)<|y8 O 10 (aT m p1 0 1 0 0 J)<|y8 O 11 (aT m p1 0 1 0 0 J)<|y8 O 12 (aT m p1 0 1 0 0 J)<|y8 O 13 (aT m p1 0 1 0 0 J)<|y8 O 14 (aT m p1 0 1 0 0 J)<|y8 O 15 (aT m p1 0 1 0 0 J)<|(-1)=J):mh (m+1) O p1 a J:=by
 intro K G;refine qBi 22 rfl rfl rfl h ?_ ?_<;>intro h;exact gR 8 I<|qJ G (h K G) [];refine gR 7 rfl<|qBeZ 26 27 rfl rfl rfl rfl h ?_ ?_<;>intro h;exact gR 8 I<|qJ G (h K G) [];refine gR 7 rfl<|qBeZ 28 29 rfl rfl rfl rfl h ?_ ?_<;>intro h;exact gR 8 I<|qJ G (h K G) [];refine gR 7 rfl<|qBeZ 30 31 rfl rfl rfl rfl h ?_ ?_<;>intro h;exact gR 8 I<|qJ G (h K G) [];refine gR 7 rfl<|qBeZ 32 33 rfl rfl rfl rfl h ?_ ?_<;>intro h;exact gR 8 I<|qJ G (h K G) [];refine gR 8 rfl<|qBeZ 34 35 rfl rfl rfl rfl h ?_ ?_<;>intro h;exact gR 7 I<|qJ G (h K G) [];refine gR 7 rfl<|qBeZ 34 36 rfl rfl rfl rfl h ?_ ?_<;>intro h;exact gR 7 I<|qJ G (h K G) [];refine gR 7 rfl<|qBeZ 34 37 rfl rfl rfl rfl h ?_ ?_<;>intro h;exact gR 7 I<|qJ G (h K G) [];refine gR 7 rfl<|qBeZ 34 38 rfl rfl rfl rfl h ?_ ?_<;>intro h;exact gR 7 I<|qJ G (h K G) [];refine gR 7 rfl<|qBeZ 34 39 rfl rfl rfl rfl h ?_ ?_<;>intro h;exact gR 7 I<|qJ G (h K G) [];refine gR 7 rfl<|qBeZ 34 40 rfl rfl rfl rfl h ?_ ?_<;>intro h;exact gR 7 I<|qJ G (h K G) [];refine gR 7 rfl<|qBeZ 34 41 rfl rfl rfl rfl h ?_ ?_<;>intro h;exact gR 7 I<|qJ G (h K G) [];refine gR 7 rfl<|qBeZ 34 42 rfl rfl rfl rfl h ?_ ?_<;>intro h;exact gR 7 I<|qJ G (h K G) [];refine gR 7 rfl<|qBeZ 34 43 rfl rfl rfl rfl h ?_ ?_<;>intro h;exact gR 7 I<|qJ G (h K G) [];refine gR 6 rfl<|qBeZ 34 44 rfl rfl rfl rfl h ?_ ?_<;>intro h;exact gR 4 I<|qJ G (h K G) [];refine gR 9 I ?_;subst h;exact qN [.tmp 4]
theorem Ab(m:Nat)(p1:Int)(c b a:Nat)(d G:Int)(h:y5 (d<0) (y5 ((a:Int)<p1) (InI (p1-(a:Int))∧InI ((p1-(a:Int))-1)∧InI ((b:Int)+((p1-(a:Int))-1))∧∃e,ga p1 (c:Int) ((b:Int)+((p1-(a:Int))-1)) e∧e=G)<|∃f,ga p1 (c:Int) (b:Int) f∧f=G)<|∃g,ga p1 (c:Int) (b:Int) g∧g=G):mg (m+1) p1 c b a d G:=by
 intro K J;refine gR 6 rfl<|qBdZ 54 53 rfl rfl rfl rfl h ?_ ?_<;>intro h;refine gR 6 rfl<|qBd 58 rfl rfl rfl h ?_ ?_<;>intro h;refine gR 5 I ?_;obtain⟨hb,h⟩:=h;refine gR 1 I<|gV 62 (qi (p1-(a:Int))) I (am hb I) I ?_;obtain⟨hb,h⟩:=h;refine gR 1 I<|gV 63 (qi ((p1-(a:Int))-1)) I (am hb I) I ?_;obtain⟨hb,h⟩:=h;refine gR 1 I<|gV 64 (qi ((b:Int)+((p1-(a:Int))-1))) I (am hb I) I<|gR 8 I ?_;obtain⟨e,i,h⟩:=h;refine qC0 i I<|gR 4 I ?_;subst h;exact qN [.tmp 4];refine gR 8 I ?_;obtain⟨f,j,h⟩:=h;refine qC0 j I<|gR 4 I ?_;subst h;exact qN [.tmp 4];refine gR 14 I ?_;obtain⟨g,k,h⟩:=h;refine qC0 k I<|gR 4 I ?_;subst h;exact qN [.tmp 4]
theorem zH(m:Nat)(G p1 p2 J:Int)(h:((G<p1)->(-1)=J)∧((¬G<p1)->p2=J)):ga G p1 p2 J:=by
 refine⟨I,I,?_⟩;refine qA 11 [] func142 λK O=>?_;refine gR 13 rfl<|qBd 9 rfl rfl rfl h ?_ ?_<;>intro h;refine gR 8 I ?_;subst h;exact qN [.tmp 6];refine gR 10 I ?_;subst h;exact qN [.tmp 6]
theorem AE(m:Nat)(G:Int)(J:Bool)(h:((5<=G)->decide (G<=9)=J)∧((¬5<=G)->false=J)):mu G J:=by
 refine⟨I,I,?_⟩;refine qA 9 [] func146 λK O=>?_;refine gR 10 rfl<|qBdZ 5 4 rfl rfl rfl rfl h ?_ ?_<;>intro h;refine gR 7 I ?_;subst h;exact qN [.tmp 2];refine gR 7 I ?_;subst h;exact qN [.tmp 2]
theorem vM(m:Nat)(G:Int)(J:Bool)(h:((10<=G)->((G<=22)->(G !=17)=J)∧((¬G<=22)->false=J))∧((¬10<=G)->false=J)):eQ G J:=by
 refine⟨I,I,?_⟩;refine qA 13 [] func145 λK O=>?_;refine gR 10 rfl<|qBdZ 5 4 rfl rfl rfl rfl h ?_ ?_<;>intro h;refine gR 4 rfl<|qBdZ 9 8 rfl rfl rfl rfl h ?_ ?_<;>intro h;refine gR 7 I ?_;subst h;exact qN [.tmp 2];refine gR 7 I ?_;subst h;exact qN [.tmp 2];refine gR 11 I ?_;subst h;exact qN [.tmp 2]
theorem zZ(m:Nat)(G:Int)(J:Bool)(h:∃a,eQ G a∧((a=true)->((G≠19)->((G≠20)->(G !=21)=J)∧((G=20)->false=J))∧((G=19)->false=J))∧((a=false)->false=J)):qY G J:=by
 refine⟨I,I,?_⟩;refine qA 17 [] func147 λK O=>?_;refine gR 8 I ?_;obtain⟨a,b,h⟩:=h;refine qC0 b rfl<|gR 1 rfl<|qBiZ 5 4 rfl rfl rfl rfl h ?_ ?_<;>intro h;refine gR 4 rfl<|qBhZ 9 8 rfl rfl rfl rfl h cz bH ?_ ?_<;>intro h;refine gR 4 rfl<|qBhZ 13 12 rfl rfl rfl rfl h cz bH ?_ ?_<;>intro h;refine gR 7 I ?_;subst h;exact qN [.tmp 2];refine gR 7 I ?_;subst h;exact qN [.tmp 2];refine gR 11 I ?_;subst h;exact qN [.tmp 2];refine gR 15 I ?_;subst h;exact qN [.tmp 2]
theorem yw(m:Nat)(G:YB)(J:Bool)(h:((G=[43])->true=J)∧((G≠[43])->((G=[45])->true=J)∧((G≠[45])->((G=[42])->true=J)∧((G≠[42])->((G=[60])->true=J)∧((G≠[60])->((G=[61,61])->true=J)∧((G≠[61,61])->false=J)))))):nP G J:=by
 refine⟨I,I,?_⟩;refine qA 10 [] func144 λK O=>?_;refine gR 19 rfl<|qBeZ 4 5 rfl rfl rfl rfl h ?_ ?_<;>intro h;refine gR 12 I ?_;subst h;exact qN [.tmp 2];refine gR 7 rfl<|qBeZ 4 6 rfl rfl rfl rfl h ?_ ?_<;>intro h;refine gR 12 I ?_;subst h;exact qN [.tmp 2];refine gR 7 rfl<|qBeZ 4 7 rfl rfl rfl rfl h ?_ ?_<;>intro h;refine gR 12 I ?_;subst h;exact qN [.tmp 2];refine gR 7 rfl<|qBeZ 4 8 rfl rfl rfl rfl h ?_ ?_<;>intro h;refine gR 12 I ?_;subst h;exact qN [.tmp 2];refine gR 6 rfl<|qBeZ 4 9 rfl rfl rfl rfl h ?_ ?_<;>intro h;refine gR 9 I ?_;subst h;exact qN [.tmp 2];refine gR 10 I ?_;subst h;exact qN [.tmp 2]
def oT(m:Nat)(G:Int)(p1:YB)(a:Int)(b J:Bool):Prop:=z8 [] f98 (q9<|.bool J) (cB<|xF<|aj f98) [.blk 0,.seq<|xH<|aj f98] 51 [(1,.str p1),(5,qi a),(8,qi G),(9,.bool b)] ⟨0,[]⟩
def iM(m:Nat)(G:Int)(p1:YB)(a:Int)(b J:Bool):Prop:=z8 [] f98 (q9<|.bool J) (cB<|xM<|aj f98) [.blk 0,.seq<|xH<|aj f98] 51 [(1,.str p1),(5,qi a),(8,qi G),(14,.bool b)] ⟨0,[]⟩
theorem zV(m:Nat)(G:Int)(p1:YB)(O:Bool)(h:∃a,Gy p1 a∧((G=1)->oT m G p1 a true O)∧((G≠1)->oT m G p1 a (G==3) O)):re G p1 O:=by
 refine⟨I,I,?_⟩;refine qA 51 [] func98 λK J=>?_;refine gR 8 I ?_;obtain⟨a,b,h⟩:=h;refine qC0 b rfl<|gR 17 rfl<|qBeZ 9 10 rfl rfl rfl rfl h ?_ ?_<;>intro h;exact gR 3 I<|qJ J (h K J) [];exact gR 6 I<|qJ J (h K J) []
theorem zK(m:Nat)(G:Int)(p1:YB)(a:Int)(b O:Bool)(h:y6 b ((a==2)=O)<|y8 G 2 (iM m G p1 a true O)<|y8 G 4 (iM m G p1 a true O)<|y8 G 12 (iM m G p1 a true O)<|iM m G p1 a (G==20) O):oT (m+1) G p1 a b O:=by
 intro K J;refine qBi 9 rfl rfl rfl h ?_ ?_<;>intro h;refine gR 11 I ?_;subst h;exact qN [.tmp 4];refine gR 8 rfl<|qBeZ 14 15 rfl rfl rfl rfl h ?_ ?_<;>intro h;exact gR 3 I<|qJ J (h K J) [];refine gR 7 rfl<|qBeZ 14 16 rfl rfl rfl rfl h ?_ ?_<;>intro h;exact gR 3 I<|qJ J (h K J) [];refine gR 7 rfl<|qBeZ 14 17 rfl rfl rfl rfl h ?_ ?_<;>intro h;exact gR 3 I<|qJ J (h K J) [];exact gR 6 I<|qJ J (h K J) []
theorem zJ(m:Nat)(J:Int)(p1:YB)(a:Int)(b G:Bool)(h:y6 b ((a==1)=G)<|y8 J 9 (y8 a 2 (true=G)<|(a==4)=G)<|y8 J 16 (y8 a 1 (true=G)<|(a==3)=G)<|y8 J 10 ((a==5)=G)<|y8 J 11 ((a==6)=G)<|y8 J 21 (∃c,nP p1 c∧c=G)<|(p1==[])=G):iM (m+1) J p1 a b G:=by
 intro K O;refine qBi 14 rfl rfl rfl h ?_ ?_<;>intro h;refine gR 11 I ?_;subst h;exact qN [.tmp 4];refine gR 7 rfl<|qBeZ 21 22 rfl rfl rfl rfl h ?_ ?_<;>intro h;refine gR 6 rfl<|qBeZ 25 24 rfl rfl rfl rfl h ?_ ?_<;>intro h;refine gR 9 I ?_;subst h;exact qN [.tmp 4];refine gR 9 I ?_;subst h;exact qN [.tmp 4];refine gR 7 rfl<|qBeZ 29 30 rfl rfl rfl rfl h ?_ ?_<;>intro h;refine gR 6 rfl<|qBeZ 33 32 rfl rfl rfl rfl h ?_ ?_<;>intro h;refine gR 9 I ?_;subst h;exact qN [.tmp 4];refine gR 9 I ?_;subst h;exact qN [.tmp 4];refine gR 7 rfl<|qBeZ 37 38 rfl rfl rfl rfl h ?_ ?_<;>intro h;refine gR 11 I ?_;subst h;exact qN [.tmp 4];refine gR 7 rfl<|qBeZ 41 42 rfl rfl rfl rfl h ?_ ?_<;>intro h;refine gR 11 I ?_;subst h;exact qN [.tmp 4];refine gR 7 rfl<|qBeZ 45 46 rfl rfl rfl rfl h ?_ ?_<;>intro h;refine gR 4 I ?_;obtain⟨c,d,h⟩:=h;refine qC0 d I<|gR 6 I ?_;subst h;exact qN [.tmp 4];refine gR 12 I ?_;subst h;exact qN [.tmp 4]
def mx(m:Nat)(G:Tree)(p1:Int)(a:Tree)(b J:Bool):Prop:=z8 [] f99 (q9<|.bool J) (cB<|xC<|xF<|aj f99) [.blk 0,.seq<|xH<|aj f99] 67 [(1,qi p1),(5,qi a.kind),(13,qi G.kind),(43,.bool b)] ⟨0,[]⟩
theorem Bx(m:Nat)(G:Tree)(p1:Int)(J:Bool)(h:∃b,p1=((b:Nat):Int)∧∃a,G.kids[b]?=some a∧((G.kind=1)->((a.kind=2)->true=J)∧((a.kind≠2)->(a.kind==3)=J))∧((G.kind≠1)->((G.kind=2)->((p1=((G.kids.length:Int)-1))->∃c,eQ a.kind c∧c=J)∧((p1≠((G.kids.length:Int)-1))->((p1=((G.kids.length:Int)-2))->∃d,mu a.kind d∧d=J)∧((p1≠((G.kids.length:Int)-2))->(a.kind==4)=J)))∧((G.kind≠2)->((G.kind=3)->mx m G p1 a true J)∧((G.kind≠3)->((G.kind=4)->mx m G p1 a true J)∧((G.kind≠4)->mx m G p1 a (G.kind==8) J))))):rR G p1 J:=by
 refine⟨I,I,?_⟩;refine qA 67 [] func99 λK O=>?_;refine gR 3 I<|gFP 0 I I I I<|gR 8 I ?_;obtain⟨b,g,h⟩:=h;refine gV 8 (qi ((b:Nat):Int)) I (bd g) I ?_;obtain⟨a,e,h⟩:=h;refine gY (aI (ay e) ai rfl rfl rfl rfl) rfl rfl<|gR 19 rfl<|qXeZ 14 15 rfl rfl rfl rfl h ?_ ?_<;>intro Z h;refine gR 6 rfl<|qXeZ 18 17 rfl rfl rfl rfl h ?_ ?_<;>intro Z h;refine gR 9 I ?_;subst h;exact qN [.tmp 4];refine gR 9 I ?_;subst h;exact qN [.tmp 4];refine gR 7 rfl<|qXeZ 22 23 rfl rfl rfl rfl h ?_ ?_<;>intro Z h;refine gR 13 rfl<|gV 28 (qi (G.kids.length:Int)) rfl (aP<|aJ _) rfl<|gLB 27 rfl (aJ _) λf=>gR 1 rfl<|gV 29 (qi<|(G.kids.length:Int)-1) rfl (am (by have :=f;omega) rfl) rfl<|gR 4 rfl<|qXeZ 25 30 rfl rfl rfl rfl h ?_ ?_<;>intro Z h;refine gR 4 I ?_;obtain⟨c,i,h⟩:=h;refine qC0 i I<|gR 8 I ?_;subst h;exact qN [.tmp 4];refine gR 6 rfl<|gV 36 (qi (G.kids.length:Int)) rfl (aP<|aJ _) rfl<|gR 1 rfl<|gV 37 (qi<|(G.kids.length:Int)-2) rfl (am (by have :=f;omega) rfl) rfl<|gR 4 rfl<|qXeZ 33 38 rfl rfl rfl rfl h ?_ ?_<;>intro Z h;refine gR 4 I ?_;obtain⟨d,j,h⟩:=h;refine qC0 j I<|gR 8 I ?_;subst h;exact qN [.tmp 4];refine gR 14 I ?_;subst h;exact qN [.tmp 4];refine gR 8 rfl<|qXeZ 43 44 rfl rfl rfl rfl h ?_ ?_<;>intro Z h;exact gR 3 I<|qJ O (h K O) [];refine gR 7 rfl<|qXeZ 43 45 rfl rfl rfl rfl h ?_ ?_<;>intro Z h;exact gR 3 I<|qJ O (h K O) [];exact gR 6 I<|qJ O (h K O) []
theorem Ak(m:Nat)(J:Tree)(p1:Int)(a:Tree)(c G:Bool)(h:y6 c (∃d,mu a.kind d∧d=G)<|y8 J.kind 16 ((a.kind==17)=G)<|y8 J.kind 21 (∃b,qY a.kind b∧y6 b (true=G) (y8 p1 0 ((a.kind==21)=G)<|false=G))<|∃e,eQ a.kind e∧e=G):mx (m+1) J p1 a c G:=by
 intro K O;refine qBi 43 rfl rfl rfl h ?_ ?_<;>intro h;refine gR 4 I ?_;obtain⟨d,f,h⟩:=h;refine qC0 f I<|gR 6 I ?_;subst h;exact qN [.tmp 4];refine gR 7 rfl<|qBeZ 49 50 rfl rfl rfl rfl h ?_ ?_<;>intro h;refine gR 11 I ?_;subst h;exact qN [.tmp 4];refine gR 7 rfl<|qBeZ 53 54 rfl rfl rfl rfl h ?_ ?_<;>intro h;refine gR 4 I ?_;obtain⟨b,g,h⟩:=h;refine qC0 g rfl<|gR 1 rfl<|qBiZ 57 56 rfl rfl rfl rfl h ?_ ?_<;>intro h;refine gR 13 I ?_;subst h;exact qN [.tmp 4];refine gR 3 rfl<|qBeZ 60 59 rfl rfl rfl rfl h ?_ ?_<;>intro h;refine gR 10 I ?_;subst h;exact qN [.tmp 4];refine gR 10 I ?_;subst h;exact qN [.tmp 4];refine gR 7 I ?_;obtain⟨e,i,h⟩:=h;refine qC0 i I<|gR 4 I ?_;subst h;exact qN [.tmp 4]
def lF(m:Nat)(G:Tree)(a:Nat)(J:Bool):Prop:=z7 m [] f66 (q9<|.bool J) (xI<|aj f66) [.blk 0,.seq<|xH<|aj f66] 38 [(1,.box (ao G) 0),(21,.row 4<|kidsV G.kids),(22,qi (G.kids.length:Int)),(23,qi (a:Int))] ⟨0,[]⟩
theorem Ag(m:Nat)(p0:Tree)(r0:Bool)(h:∃a,rN p0.kind (p0.kids.length:Int) a∧((a<0)->false=r0)∧((¬a<0)->∃b,re p0.kind p0.text b∧((b=false)->false=r0)∧((b=true)->lF m p0 0 r0))):dW p0 r0:=by
 refine⟨I,I,?_⟩;refine qA 38 [] func66 λK hK=>?_;refine gR 3 I<|gFP 0 I I I I<|gR 11 I<|gV 9 (qi (p0.kids.length:Int)) I (aP<|aJ _) I<|gLB 8 I (aJ _) λe=>?_;obtain⟨a,c,h⟩:=h;refine qC0 c rfl<|gR 2 rfl<|qXdZ 12 11 rfl rfl rfl rfl h ?_ ?_<;>intro hd h;refine gR 17 I ?_;subst h;exact qN [.tmp 2];refine gR 4 I ?_;obtain⟨b,d,h⟩:=h;refine qC0 d rfl<|gR 4 rfl<|qXh 19 rfl rfl rfl h cv cu ?_ ?_<;>intro hd h;refine gR 8 I ?_;subst h;exact qN [.tmp 2];exact gR 9 I<|gV 22 (qi (p0.kids.length:Int)) I (aP<|aJ _) I<|gR 4 I<|go_loop m<|qW hK h []
theorem sU(m:Nat)(G:Tree)(a:Nat)(J:Bool)(h:y5 (a<G.kids.length) (∃d,G.kids[a]?=some d∧∃b,rR G (a:Int) b∧y7 b (false=J) (∃c,dW d c∧y7 c (false=J) (a+1<=9223372036854775807∧lF m G (a+1) J)))<|true=J):lF (m+1) G a J:=by
 refine qj λK j1 Z i=>?_;refine gR 6 rfl<|qXh 24 rfl rfl rfl h cg ch ?_ ?_<;>intro O h;refine gR 8 I ?_;obtain⟨d,e,h⟩:=h;refine gY (aI (ay e) ai I I I I) I I<|gR 10 I ?_;obtain⟨b,f,h⟩:=h;refine qC0 f rfl<|gR 2 rfl<|qXhZ 32 31 rfl rfl rfl rfl h cv cu ?_ ?_<;>intro O h;refine gR 15 I<|go_xloopR<|gR 2 I ?_;subst h;exact qN [.tmp 2];refine gR 1 I ?_;obtain⟨c,g,h⟩:=h;refine qC0 g rfl<|gR 4 rfl<|qXh 36 rfl rfl rfl h cv cu ?_ ?_<;>intro O h;refine gR 9 I<|go_xloopR<|gR 2 I ?_;subst h;exact qN [.tmp 2];refine gR 5 I ?_;obtain⟨hb,h⟩:=h;exact gR 1 I<|gV 37 (qi ((a+1:Nat):Int)) I (am (by omega)<|by omega) I<|gR 2 I<|go_xloop<|qW Z h [];refine gR 3 I<|go_xloopE<|gR 8 I ?_;subst h;exact qN [.tmp 2]
def ix(m:Nat)(G p1:Int)(a:Bool)(J:Int):Prop:=z8 [] f108 (q9<|qi J) (cB<|xC<|xB<|xE<|cB<|aj f108) [.blk 0,.seq<|xA<|aj f108] 71 [(1,qi p1),(5,qi G),(22,.bool a)] ⟨0,[]⟩
def bF(m:Nat)(G p1:Int)(a:Bool)(J:Int):Prop:=z8 [] f108 (q9<|qi J) (cB<|xG<|xE<|cB<|aj f108) [.blk 0,.seq<|xA<|aj f108] 71 [(1,qi p1),(5,qi G),(28,.bool a)] ⟨0,[]⟩
theorem xr(m:Nat)(G p1 J:Int)(h:((G=1)->((0<=p1)->3=J)∧((¬0<=p1)->(-1)=J))∧((G≠1)->((G=2)->((2<=p1)->InI (p1-3)∧InI (6+(max 0<|p1-3))∧(6+(max 0<|p1-3))=J)∧((¬2<=p1)->(-1)=J))∧((G≠2)->((G=3)->∃a,cD p1 1 3 a∧a=J)∧((G≠3)->((G=4)->ix m G p1 true J)∧((G≠4)->((G=8)->ix m G p1 true J)∧((G≠8)->ix m G p1 (G==22) J)))))):fT G p1 J:=by
 refine⟨I,I,?_⟩;refine qA 71 [] func108 λK O=>?_;refine gR 18 rfl<|qBeZ 6 7 rfl rfl rfl rfl h ?_ ?_<;>intro h;refine gR 7 rfl<|qBd 9 rfl rfl rfl h ?_ ?_<;>intro h;refine gR 9 I ?_;subst h;exact qN [.tmp 4];refine gR 10 I ?_;subst h;exact qN [.tmp 4];refine gR 7 rfl<|qBeZ 10 11 rfl rfl rfl rfl h ?_ ?_<;>intro h;refine gR 7 rfl<|qBd 13 rfl rfl rfl h ?_ ?_<;>intro h;refine gR 4 I ?_;obtain⟨hb,h⟩:=h;refine gR 1 I<|gV 15 (qi<|p1-3) I (am hb I) I<|gR 1 I ?_;obtain⟨hb,h⟩:=h;refine gR 1 I<|gV 17 (qi<|6+(max 0<|p1-3)) I (am hb I) I<|gR 6 I ?_;subst h;exact qN [.tmp 4];refine gR 10 I ?_;subst h;exact qN [.tmp 4];refine gR 7 rfl<|qBeZ 18 19 rfl rfl rfl rfl h ?_ ?_<;>intro h;refine gR 4 I ?_;obtain⟨a,b,h⟩:=h;refine qC0 b I<|gR 6 I ?_;subst h;exact qN [.tmp 4];refine gR 8 rfl<|qBeZ 22 23 rfl rfl rfl rfl h ?_ ?_<;>intro h;exact gR 3 I<|qJ O (h K O) [];refine gR 7 rfl<|qBeZ 22 24 rfl rfl rfl rfl h ?_ ?_<;>intro h;exact gR 3 I<|qJ O (h K O) [];exact gR 6 I<|qJ O (h K O) []
theorem wv(m:Nat)(G p1:Int)(a:Bool)(O:Int)(h:y6 a (∃b,cD p1 1 2 b∧b=O)<|y8 G 5 (bF m G p1 true O)<|y8 G 6 (bF m G p1 true O)<|y8 G 7 (bF m G p1 true O)<|y8 G 9 (bF m G p1 true O)<|y8 G 10 (bF m G p1 true O)<|y8 G 11 (bF m G p1 true O)<|y8 G 12 (bF m G p1 true O)<|y8 G 13 (bF m G p1 true O)<|y8 G 14 (bF m G p1 true O)<|bF m G p1 (G==15) O):ix (m+1) G p1 a O:=by
 intro K J;refine qBi 22 rfl rfl rfl h ?_ ?_<;>intro h;refine gR 4 I ?_;obtain⟨b,c,h⟩:=h;refine qC0 c I<|gR 6 I ?_;subst h;exact qN [.tmp 4];refine gR 8 rfl<|qBeZ 28 29 rfl rfl rfl rfl h ?_ ?_<;>intro h;exact gR 3 I<|qJ J (h K J) [];refine gR 7 rfl<|qBeZ 28 30 rfl rfl rfl rfl h ?_ ?_<;>intro h;exact gR 3 I<|qJ J (h K J) [];refine gR 7 rfl<|qBeZ 28 31 rfl rfl rfl rfl h ?_ ?_<;>intro h;exact gR 3 I<|qJ J (h K J) [];refine gR 7 rfl<|qBeZ 28 32 rfl rfl rfl rfl h ?_ ?_<;>intro h;exact gR 3 I<|qJ J (h K J) [];refine gR 7 rfl<|qBeZ 28 33 rfl rfl rfl rfl h ?_ ?_<;>intro h;exact gR 3 I<|qJ J (h K J) [];refine gR 7 rfl<|qBeZ 28 34 rfl rfl rfl rfl h ?_ ?_<;>intro h;exact gR 3 I<|qJ J (h K J) [];refine gR 7 rfl<|qBeZ 28 35 rfl rfl rfl rfl h ?_ ?_<;>intro h;exact gR 3 I<|qJ J (h K J) [];refine gR 7 rfl<|qBeZ 28 36 rfl rfl rfl rfl h ?_ ?_<;>intro h;exact gR 3 I<|qJ J (h K J) [];refine gR 7 rfl<|qBeZ 28 37 rfl rfl rfl rfl h ?_ ?_<;>intro h;exact gR 3 I<|qJ J (h K J) [];exact gR 6 I<|qJ J (h K J) []
theorem wA(m:Nat)(J p1:Int)(a:Bool)(G:Int)(h:y6 a (∃b,cD p1 0 1 b∧b=G)<|y8 J 16 (y5 (0<=p1) (InI (p1-1)∧InI (3+(max 0<|p1-1))∧(3+(max 0<|p1-1))=G)<|(-1)=G)<|y8 J 17 (∃c,cD p1 1 0 c∧c=G)<|y8 J 18 (y5 (1<=p1) (InI (1+p1)∧(1+p1)=G)<|(-1)=G)<|y8 J 19 (∃d,cD p1 3 3 d∧d=G)<|y8 J 20 (∃e,cD p1 2 4 e∧e=G)<|y8 J 21 (∃f,cD p1 2 1 f∧f=G)<|(-1)=G):bF (m+1) J p1 a G:=by
 intro K O;refine qBi 28 rfl rfl rfl h ?_ ?_<;>intro h;refine gR 4 I ?_;obtain⟨b,g,h⟩:=h;refine qC0 g I<|gR 6 I ?_;subst h;exact qN [.tmp 4];refine gR 7 rfl<|qBeZ 41 42 rfl rfl rfl rfl h ?_ ?_<;>intro h;refine gR 7 rfl<|qBd 44 rfl rfl rfl h ?_ ?_<;>intro h;refine gR 4 I ?_;obtain⟨hb,h⟩:=h;refine gR 1 I<|gV 46 (qi (p1-1)) I (am hb I) I<|gR 1 I ?_;obtain⟨hb,h⟩:=h;refine gR 1 I<|gV 48 (qi (3+(max 0 (p1-1)))) I (am hb I) I<|gR 6 I ?_;subst h;exact qN [.tmp 4];refine gR 10 I ?_;subst h;exact qN [.tmp 4];refine gR 7 rfl<|qBeZ 49 50 rfl rfl rfl rfl h ?_ ?_<;>intro h;refine gR 4 I ?_;obtain⟨c,i,h⟩:=h;refine qC0 i I<|gR 6 I ?_;subst h;exact qN [.tmp 4];refine gR 7 rfl<|qBeZ 53 54 rfl rfl rfl rfl h ?_ ?_<;>intro h;refine gR 7 rfl<|qBd 56 rfl rfl rfl h ?_ ?_<;>intro h;refine gR 4 I ?_;obtain⟨hb,h⟩:=h;refine gR 1 I<|gV 58 (qi (1+p1)) I (am hb I) I<|gR 6 I ?_;subst h;exact qN [.tmp 4];refine gR 10 I ?_;subst h;exact qN [.tmp 4];refine gR 7 rfl<|qBeZ 59 60 rfl rfl rfl rfl h ?_ ?_<;>intro h;refine gR 4 I ?_;obtain⟨d,j,h⟩:=h;refine qC0 j I<|gR 6 I ?_;subst h;exact qN [.tmp 4];refine gR 7 rfl<|qBeZ 63 64 rfl rfl rfl rfl h ?_ ?_<;>intro h;refine gR 4 I ?_;obtain⟨e,k,h⟩:=h;refine qC0 k I<|gR 6 I ?_;subst h;exact qN [.tmp 4];refine gR 7 rfl<|qBeZ 67 68 rfl rfl rfl rfl h ?_ ?_<;>intro h;refine gR 4 I ?_;obtain⟨f,l,h⟩:=h;refine qC0 l I<|gR 6 I ?_;subst h;exact qN [.tmp 4];refine gR 10 I ?_;subst h;exact qN [.tmp 4]
theorem yf(m:Nat)(G p1 p2 J:Int)(h:((G=p1)->p2=J)∧((G≠p1)->(-1)=J)):cD G p1 p2 J:=by
 refine⟨I,I,?_⟩;refine qA 11 [] func153 λK O=>?_;refine gR 13 rfl<|qBe 9 rfl rfl rfl h ?_ ?_<;>intro h;refine gR 9 I ?_;subst h;exact qN [.tmp 6];refine gR 9 I ?_;subst h;exact qN [.tmp 6]
theorem wz(m:Nat)(G:Int)(J:Bool)(h:((5<=G)->decide (G<=9)=J)∧((¬5<=G)->false=J)):ic G J:=by
 refine⟨I,I,?_⟩;refine qA 9 [] func156 λK O=>?_;refine gR 10 rfl<|qBdZ 5 4 rfl rfl rfl rfl h ?_ ?_<;>intro h;refine gR 7 I ?_;subst h;exact qN [.tmp 2];refine gR 7 I ?_;subst h;exact qN [.tmp 2]
theorem vN(m:Nat)(G:Int)(J:Bool)(h:((10<=G)->((G<=22)->(G !=17)=J)∧((¬G<=22)->false=J))∧((¬10<=G)->false=J)):fh G J:=by
 refine⟨I,I,?_⟩;refine qA 13 [] func155 λK O=>?_;refine gR 10 rfl<|qBdZ 5 4 rfl rfl rfl rfl h ?_ ?_<;>intro h;refine gR 4 rfl<|qBdZ 9 8 rfl rfl rfl rfl h ?_ ?_<;>intro h;refine gR 7 I ?_;subst h;exact qN [.tmp 2];refine gR 7 I ?_;subst h;exact qN [.tmp 2];refine gR 11 I ?_;subst h;exact qN [.tmp 2]
theorem vO(m:Nat)(G:Int)(J:Bool)(h:∃a,fh G a∧((a=true)->((G≠19)->((G≠20)->(G !=21)=J)∧((G=20)->false=J))∧((G=19)->false=J))∧((a=false)->false=J)):io G J:=by
 refine⟨I,I,?_⟩;refine qA 17 [] func157 λK O=>?_;refine gR 8 I ?_;obtain⟨a,b,h⟩:=h;refine qC0 b rfl<|gR 1 rfl<|qBiZ 5 4 rfl rfl rfl rfl h ?_ ?_<;>intro h;refine gR 4 rfl<|qBhZ 9 8 rfl rfl rfl rfl h cz bH ?_ ?_<;>intro h;refine gR 4 rfl<|qBhZ 13 12 rfl rfl rfl rfl h cz bH ?_ ?_<;>intro h;refine gR 7 I ?_;subst h;exact qN [.tmp 2];refine gR 7 I ?_;subst h;exact qN [.tmp 2];refine gR 11 I ?_;subst h;exact qN [.tmp 2];refine gR 15 I ?_;subst h;exact qN [.tmp 2]
theorem tj(m:Nat)(G:YB)(J:Bool)(h:((G=[43])->true=J)∧((G≠[43])->((G=[45])->true=J)∧((G≠[45])->((G=[42])->true=J)∧((G≠[42])->((G=[60])->true=J)∧((G≠[60])->((G=[61,61])->true=J)∧((G≠[61,61])->false=J)))))):iL G J:=by
 refine⟨I,I,?_⟩;refine qA 10 [] func154 λK O=>?_;refine gR 19 rfl<|qBeZ 4 5 rfl rfl rfl rfl h ?_ ?_<;>intro h;refine gR 12 I ?_;subst h;exact qN [.tmp 2];refine gR 7 rfl<|qBeZ 4 6 rfl rfl rfl rfl h ?_ ?_<;>intro h;refine gR 12 I ?_;subst h;exact qN [.tmp 2];refine gR 7 rfl<|qBeZ 4 7 rfl rfl rfl rfl h ?_ ?_<;>intro h;refine gR 12 I ?_;subst h;exact qN [.tmp 2];refine gR 7 rfl<|qBeZ 4 8 rfl rfl rfl rfl h ?_ ?_<;>intro h;refine gR 12 I ?_;subst h;exact qN [.tmp 2];refine gR 6 rfl<|qBeZ 4 9 rfl rfl rfl rfl h ?_ ?_<;>intro h;refine gR 9 I ?_;subst h;exact qN [.tmp 2];refine gR 10 I ?_;subst h;exact qN [.tmp 2]
def jg(m:Nat)(G:Int)(p1:YB)(a:Int)(b J:Bool):Prop:=z8 [] f109 (q9<|.bool J) (cB<|xF<|aj f109) [.blk 0,.seq<|xH<|aj f109] 51 [(1,.str p1),(5,qi a),(8,qi G),(9,.bool b)] ⟨0,[]⟩
def dO(m:Nat)(G:Int)(p1:YB)(a:Int)(b J:Bool):Prop:=z8 [] f109 (q9<|.bool J) (cB<|xM<|aj f109) [.blk 0,.seq<|xH<|aj f109] 51 [(1,.str p1),(5,qi a),(8,qi G),(14,.bool b)] ⟨0,[]⟩
theorem ut(m:Nat)(G:Int)(p1:YB)(O:Bool)(h:∃a,yh p1 a∧((G=1)->jg m G p1 a true O)∧((G≠1)->jg m G p1 a (G==3) O)):jY G p1 O:=by
 refine⟨I,I,?_⟩;refine qA 51 [] func109 λK J=>?_;refine gR 8 I ?_;obtain⟨a,b,h⟩:=h;refine qC0 b rfl<|gR 17 rfl<|qBeZ 9 10 rfl rfl rfl rfl h ?_ ?_<;>intro h;exact gR 3 I<|qJ J (h K J) [];exact gR 6 I<|qJ J (h K J) []
theorem tA(m:Nat)(G:Int)(p1:YB)(a:Int)(b O:Bool)(h:y6 b ((a==2)=O)<|y8 G 2 (dO m G p1 a true O)<|y8 G 4 (dO m G p1 a true O)<|y8 G 12 (dO m G p1 a true O)<|dO m G p1 a (G==20) O):jg (m+1) G p1 a b O:=by
 intro K J;refine qBi 9 rfl rfl rfl h ?_ ?_<;>intro h;refine gR 11 I ?_;subst h;exact qN [.tmp 4];refine gR 8 rfl<|qBeZ 14 15 rfl rfl rfl rfl h ?_ ?_<;>intro h;exact gR 3 I<|qJ J (h K J) [];refine gR 7 rfl<|qBeZ 14 16 rfl rfl rfl rfl h ?_ ?_<;>intro h;exact gR 3 I<|qJ J (h K J) [];refine gR 7 rfl<|qBeZ 14 17 rfl rfl rfl rfl h ?_ ?_<;>intro h;exact gR 3 I<|qJ J (h K J) [];exact gR 6 I<|qJ J (h K J) []
theorem tP(m:Nat)(J:Int)(p1:YB)(a:Int)(b G:Bool)(h:y6 b ((a==1)=G)<|y8 J 9 (y8 a 2 (true=G)<|(a==4)=G)<|y8 J 16 (y8 a 1 (true=G)<|(a==3)=G)<|y8 J 10 ((a==5)=G)<|y8 J 11 ((a==6)=G)<|y8 J 21 (∃c,iL p1 c∧c=G)<|(p1==[])=G):dO (m+1) J p1 a b G:=by
 intro K O;refine qBi 14 rfl rfl rfl h ?_ ?_<;>intro h;refine gR 11 I ?_;subst h;exact qN [.tmp 4];refine gR 7 rfl<|qBeZ 21 22 rfl rfl rfl rfl h ?_ ?_<;>intro h;refine gR 6 rfl<|qBeZ 25 24 rfl rfl rfl rfl h ?_ ?_<;>intro h;refine gR 9 I ?_;subst h;exact qN [.tmp 4];refine gR 9 I ?_;subst h;exact qN [.tmp 4];refine gR 7 rfl<|qBeZ 29 30 rfl rfl rfl rfl h ?_ ?_<;>intro h;refine gR 6 rfl<|qBeZ 33 32 rfl rfl rfl rfl h ?_ ?_<;>intro h;refine gR 9 I ?_;subst h;exact qN [.tmp 4];refine gR 9 I ?_;subst h;exact qN [.tmp 4];refine gR 7 rfl<|qBeZ 37 38 rfl rfl rfl rfl h ?_ ?_<;>intro h;refine gR 11 I ?_;subst h;exact qN [.tmp 4];refine gR 7 rfl<|qBeZ 41 42 rfl rfl rfl rfl h ?_ ?_<;>intro h;refine gR 11 I ?_;subst h;exact qN [.tmp 4];refine gR 7 rfl<|qBeZ 45 46 rfl rfl rfl rfl h ?_ ?_<;>intro h;refine gR 4 I ?_;obtain⟨c,d,h⟩:=h;refine qC0 d I<|gR 6 I ?_;subst h;exact qN [.tmp 4];refine gR 12 I ?_;subst h;exact qN [.tmp 4]
def jz(m:Nat)(G:Tree)(p1 p2:Int)(a J:Bool):Prop:=z8 [] f110 (q9<|.bool J) (cB<|xC<|xF<|aj f110) [.blk 0,.seq<|xH<|aj f110] 62 [(1,qi p1),(2,qi p2),(12,qi G.kind),(38,.bool a)] ⟨0,[]⟩
theorem yC(m:Nat)(G:Tree)(p1 p2:Int)(J:Bool)(h:((G.kind=1)->((p2=2)->true=J)∧((p2≠2)->(p2==3)=J))∧((G.kind≠1)->((G.kind=2)->((p1=((G.kids.length:Int)-1))->∃a,fh p2 a∧a=J)∧((p1≠((G.kids.length:Int)-1))->((p1=((G.kids.length:Int)-2))->∃b,ic p2 b∧b=J)∧((p1≠((G.kids.length:Int)-2))->(p2==4)=J)))∧((G.kind≠2)->((G.kind=3)->jz m G p1 p2 true J)∧((G.kind≠3)->((G.kind=4)->jz m G p1 p2 true J)∧((G.kind≠4)->jz m G p1 p2 (G.kind==8) J))))):nN G p1 p2 J:=by
 refine⟨I,I,?_⟩;refine qA 62 [] func110 λK O=>?_;refine gR 3 rfl<|gFP 0 rfl rfl rfl rfl<|gR 8 rfl<|gV 10 (qi (G.kids.length:Int)) rfl (aP<|aJ _) rfl<|gLB 9 rfl (aJ _) λc=>gR 17 rfl<|qXeZ 13 14 rfl rfl rfl rfl h ?_ ?_<;>intro Z h;refine gR 6 rfl<|qXeZ 17 16 rfl rfl rfl rfl h ?_ ?_<;>intro Z h;refine gR 9 I ?_;subst h;exact qN [.tmp 6];refine gR 9 I ?_;subst h;exact qN [.tmp 6];refine gR 7 rfl<|qXeZ 21 22 rfl rfl rfl rfl h ?_ ?_<;>intro Z h;refine gR 12 rfl<|gV 26 (qi<|(G.kids.length:Int)-1) rfl (am (by have :=c;omega) rfl) rfl<|gR 4 rfl<|qXeZ 24 27 rfl rfl rfl rfl h ?_ ?_<;>intro Z h;refine gR 4 I ?_;obtain⟨a,d,h⟩:=h;refine qC0 d I<|gR 8 I ?_;subst h;exact qN [.tmp 6];refine gR 5 rfl<|gV 32 (qi<|(G.kids.length:Int)-2) rfl (am (by have :=c;omega) rfl) rfl<|gR 4 rfl<|qXeZ 30 33 rfl rfl rfl rfl h ?_ ?_<;>intro Z h;refine gR 4 I ?_;obtain⟨b,e,h⟩:=h;refine qC0 e I<|gR 8 I ?_;subst h;exact qN [.tmp 6];refine gR 14 I ?_;subst h;exact qN [.tmp 6];refine gR 8 rfl<|qXeZ 38 39 rfl rfl rfl rfl h ?_ ?_<;>intro Z h;exact gR 3 I<|qJ O (h K O) [];refine gR 7 rfl<|qXeZ 38 40 rfl rfl rfl rfl h ?_ ?_<;>intro Z h;exact gR 3 I<|qJ O (h K O) [];exact gR 6 I<|qJ O (h K O) []
theorem ye(m:Nat)(J:Tree)(p1 p2:Int)(b G:Bool)(h:y6 b (∃c,ic p2 c∧c=G)<|y8 J.kind 16 ((p2==17)=G)<|y8 J.kind 21 (∃a,io p2 a∧y6 a (true=G) (y8 p1 0 ((p2==21)=G)<|false=G))<|∃d,fh p2 d∧d=G):jz (m+1) J p1 p2 b G:=by
 intro K O;refine qBi 38 rfl rfl rfl h ?_ ?_<;>intro h;refine gR 4 I ?_;obtain⟨c,e,h⟩:=h;refine qC0 e I<|gR 6 I ?_;subst h;exact qN [.tmp 6];refine gR 7 rfl<|qBeZ 44 45 rfl rfl rfl rfl h ?_ ?_<;>intro h;refine gR 11 I ?_;subst h;exact qN [.tmp 6];refine gR 7 rfl<|qBeZ 48 49 rfl rfl rfl rfl h ?_ ?_<;>intro h;refine gR 4 I ?_;obtain⟨a,f,h⟩:=h;refine qC0 f rfl<|gR 1 rfl<|qBiZ 52 51 rfl rfl rfl rfl h ?_ ?_<;>intro h;refine gR 13 I ?_;subst h;exact qN [.tmp 6];refine gR 3 rfl<|qBeZ 55 54 rfl rfl rfl rfl h ?_ ?_<;>intro h;refine gR 10 I ?_;subst h;exact qN [.tmp 6];refine gR 10 I ?_;subst h;exact qN [.tmp 6];refine gR 7 I ?_;obtain⟨d,g,h⟩:=h;refine qC0 g I<|gR 4 I ?_;subst h;exact qN [.tmp 6]
def gx(m:Nat)(G:Tree)(a:Nat)(J:Bool):Prop:=z7 m [] f70 (q9<|.bool J) (xI<|aj f70) [.blk 0,.seq<|xH<|aj f70] 45 [(1,.box (ao G) 0),(3,qi (a:Int))] ⟨0,[]⟩
theorem wf(m:Nat)(p0:Tree)(r0:Bool)(h:∃a,fT p0.kind (p0.kids.length:Int) a∧((a<0)->false=r0)∧((¬a<0)->∃b,jY p0.kind p0.text b∧((b=false)->false=r0)∧((b=true)->gx m p0 0 r0))):fk p0 r0:=by
 refine⟨I,I,?_⟩;refine qA 45 [] func70 λK hK=>?_;refine gR 3 I<|gFP 0 I I I I<|gR 11 I<|gV 8 (qi (p0.kids.length:Int)) I (aP<|aJ _) I<|gLB 7 I (aJ _) λe=>?_;obtain⟨a,c,h⟩:=h;refine qC0 c rfl<|gR 2 rfl<|qXdZ 11 10 rfl rfl rfl rfl h ?_ ?_<;>intro hd h;refine gR 17 I ?_;subst h;exact qN [.tmp 2];refine gR 4 I ?_;obtain⟨b,d,h⟩:=h;refine qC0 d rfl<|gR 4 rfl<|qXh 18 rfl rfl rfl h cv cu ?_ ?_<;>intro hd h;refine gR 8 I ?_;subst h;exact qN [.tmp 2];exact gR 10 I<|go_loop m<|qW hK h []
theorem og(m:Nat)(G:Tree)(a:Nat)(J:Bool)(h:y5 (a<G.kids.length) (∃d,G.kids[a]?=some d∧∃b,nN G (a:Int) d.kind b∧y7 b (false=J) (∃e,G.kids[a]?=some e∧∃c,fk e c∧y7 c (false=J) (gx m G (a+1) J)))<|true=J):gx (m+1) G a J:=by
 refine qj λK j1 Z l=>?_;refine gR 7 rfl<|gV 22 (qi (G.kids.length:Int)) rfl (aP<|aJ _) rfl<|gLB 21 rfl (aJ _) λi=>gR 3 rfl<|qXh 23 rfl rfl rfl h cg ch ?_ ?_<;>intro O h;refine gR 6 I<|qDs [] 19 19<|qDr (qR 0 4 2 [(4,0)]) I I ?_;obtain⟨d,f,h⟩:=h;refine cw 5 I (by kernel_rfl) (aI (ay f) ai I I I I) I I ?_;refine qDr [(6,0),(7,0)] I I ?_;obtain⟨b,j,h⟩:=h;refine bg 8 j (by kernel_rfl) I (by kernel_rfl) I I .rfl I I ?_;refine qDr [(9,0),(10,0)] rfl rfl<|qXhZ 36 35 rfl rfl rfl rfl h cv cu ?_ ?_<;>intro O h;refine qDr ((11,2)::(12,2)::(qR 13 6 0 [])) I I<|qDe<|gR 10 I<|go_xloopR<|gR 2 I ?_;subst h;exact qN [.tmp 2];refine qDr [(11,2),(12,2),(13,0)] I I ?_;obtain⟨e,g,h⟩:=h;refine cw 14 I (by kernel_rfl) (aI (ay g) ai I I I I) I I ?_;refine qDr [(15,0)] I I ?_;obtain⟨c,k,h⟩:=h;refine bg 16 k (by kernel_rfl) I (by kernel_rfl) I I .rfl I I ?_;refine qDr [(17,0),(18,0)] rfl rfl<|qDe<|gR 1 rfl<|qXh 44 rfl rfl rfl h cv cu ?_ ?_<;>intro O h;refine gR 9 I<|go_xloopR<|gR 2 I ?_;subst h;exact qN [.tmp 2];exact gR 7 I<|gV 25 (qi ((a+1:Nat):Int)) I (am (by have :=i;omega)<|by omega) I<|gR 2 I<|go_xloop<|qW Z h [];refine gR 3 I<|go_xloopE<|gR 8 I ?_;subst h;exact qN [.tmp 2]
structure mP where
 Module:Int
 Path:(List Int)
structure ar where
 Use:mP
 Module:Int
 Def:Int
 Free:Bool
abbrev ar.c(x:ar):List V:=[.int .i64 x.Use.Module,.row 1 (List.map (V.int .i64) x.Use.Path),.int .i64 x.Module,.int .i64 x.Def,.bool x.Free]
abbrev ar.w(x:ar):V:=.agg x.c
theorem vH(σ:YN)(l):renL σ (List.map (V.int .i64) l)=List.map (V.int .i64) l:=mL σ (V.int .i64) (λ_=>rfl) l
def iJ(G:YB)(p1 J:Int):Prop:=qS 163 [.str G,.int .u8 p1]<|qi J
def nl(G:YT)(J:Bool):Prop:=qS 67 [.row 4<|kidsV G]<|.bool J
def oR(G:YT)(p1:Int)(p2:YB)(J O:Int)(Z:Bool):Prop:=qS 100 [.row 4<|kidsV G,qi p1,.str p2]<|.tup [qi J,qi O,.bool Z]
def ld(G:YT)(J:List ar):Prop:=qS 43 [.row 4<|kidsV G]<|.row 5<|List.map ar.w J
def sQ(G:YT)(p1:Int)(p2:YB)(J O:Int)(Z:Bool):Prop:=qS 189 [.row 4<|kidsV G,qi p1,.str p2]<|.tup [qi J,qi O,.bool Z]
def qv(G:YT)(p1:YB)(J:Int):Prop:=qS 149 [.row 4<|kidsV G,.str p1]<|qi J
def rJ(G:Tree)(p1:YB)(J:Bool):Prop:=qS 179 [.agg<|ao G,.box [.str p1] 0]<|.bool J
def gb(g:YT)(a:Int)(e:YI)(c:List ar)(p1:Tree)(i:YT)(b:Int)(f:YI)(d:List ar):Prop:=bv [] prog 68 [.ptr 0 0,.agg<|ao p1] ⟨3,[(2,.row 117 5<|List.map ar.w c),(1,.row 3 1<|List.map (V.int .i64) e),(0,.var 114 [.row 4<|kidsV g,qi a,.sl 1,.sl 2])]⟩<|z6 (.tup []) ⟨3,[(2,.row 117 5<|List.map ar.w d),(1,.row 3 1<|List.map (V.int .i64) f),(0,.var 114 [.row 4<|kidsV i,qi b,.sl 1,.sl 2])]⟩
def mK(G:YT)(a:YB)(J:Int):Prop:=qS 178 [.row 4<|kidsV G,.clo 179 [.box [.str a] 0]]<|qi J
def nQ(G J O:YB)(Z:Bool):Prop:=qS 148 [.str G,.str [46]]<|.tup [.str J,.str O,.bool Z]
def ju(G J O:YB)(Z:Bool):Prop:=qS 177 [.str G,.str [46]]<|.tup [.str J,.str O,.bool Z]
def ew(G:YB)(J:Int):Prop:=qS 203 [.str G,.str [46]]<|qi J
def mn(m:Nat)(G:YT)(a:Nat)(J:Bool):Prop:=z7 m [] f67 (q9<|.bool J) (cL<|xE<|cB<|aj f67) [.blk 0,.seq<|xA<|aj f67] 20 [(5,.row 4<|kidsV G),(6,qi (G.length:Int)),(7,qi (a:Int))] ⟨0,[]⟩
theorem AU(m:Nat)(p0:YT)(r0:Bool)(h:mn m p0 0 r0):nl p0 r0:=by
 refine⟨I,I,?_⟩;refine qA 20 [] func67 λK hK=>?_;exact gR 10 I<|gV 6 (qi (p0.length:Int)) I (aP<|aJ _) I<|gLB 5 I (aJ _) λa=>gR 4 I<|go_loop m<|qW hK h []
theorem tM(m:Nat)(J:YT)(a:Nat)(G:Bool)(h:y5 (a<J.length) (∃b,J[a]?=some b∧y9 b.kind 1 (false=G) (∃c,dW b c∧y7 c (false=G) (a+1<=9223372036854775807∧mn m J (a+1) G)))<|true=G):mn (m+1) J a G:=by
 refine qj λK j1 Z f=>?_;refine gR 6 rfl<|qXh 8 rfl rfl rfl h cg ch ?_ ?_<;>intro O h;refine gR 7 I ?_;obtain⟨b,d,h⟩:=h;refine gY (aI (ay d) ai rfl rfl rfl rfl) rfl rfl<|gR 11 rfl<|qXhZ 14 13 rfl rfl rfl rfl h cz bH ?_ ?_<;>intro O h;refine gR 15 I<|go_xloopR<|gR 2 I ?_;subst h;exact qN [.tmp 2];refine gR 1 I ?_;obtain⟨c,e,h⟩:=h;refine qC0 e rfl<|gR 4 rfl<|qXh 18 rfl rfl rfl h cv cu ?_ ?_<;>intro O h;refine gR 9 I<|go_xloopR<|gR 2 I ?_;subst h;exact qN [.tmp 2];refine gR 5 I ?_;obtain⟨hb,h⟩:=h;exact gR 1 I<|gV 19 (qi ((a+1:Nat):Int)) I (am (by omega)<|by omega) I<|gR 2 I<|go_xloop<|qW Z h [];refine gR 3 I<|go_xloopE<|gR 8 I ?_;subst h;exact qN [.tmp 2]
def nk(m:Nat)(G:YT)(a:Int)(b:YB)(J O:Int)(Z:Bool):Prop:=z8 [] f100 (q9<|.tup [qi J,qi O,.bool Z]) (xH<|aj f100) [] 45 [(0,.row 4<|kidsV G),(1,qi a),(2,.str b)] ⟨0,[]⟩
theorem BL(m:Nat)(G:YT)(p1:Int)(p2:YB)(O Z:Int)(r2:Bool)(h:((p1<0)->0=O∧0=Z∧false=r2)∧((¬p1<0)->(((G.length:Int)<=p1)->0=O∧0=Z∧false=r2)∧((¬(G.length:Int)<=p1)->∃b c a,nQ p2 b c a∧((a=true)->∃d,qv G b d∧nk m G d c O Z r2)∧((a=false)->nk m G p1 p2 O Z r2)))):oR G p1 p2 O Z r2:=by
 refine⟨I,I,?_⟩;refine qA 45 [] func100 λK hK=>?_;refine gR 13 rfl<|qBdZ 15 14 rfl rfl rfl rfl h ?_ ?_<;>intro h;refine gR 17 I ?_;obtain⟨rfl,rfl,rfl⟩:=h;exact qN [.tmp 6,.tmp 7,.tmp 8];refine gR 3 rfl<|gV 18 (qi (G.length:Int)) rfl (aP<|aJ _) rfl<|gLB 17 rfl (aJ _) λg=>gR 4 rfl<|qBd 20 rfl rfl rfl h ?_ ?_<;>intro h;refine gR 10 I ?_;obtain⟨rfl,rfl,rfl⟩:=h;exact qN [.tmp 6,.tmp 7,.tmp 8];refine gR 7 I ?_;obtain⟨b,c,a,e,h⟩:=h;refine qC0 e rfl<|gR 14 rfl<|gB 27 rfl rfl rfl ?_ ?_<;>intro J;refine gT 11 I J I ?_;refine gT 26 I J I ?_;replace h:=h.1 J;refine gR 4 I ?_;obtain⟨d,f,h⟩:=h;exact qC0 f I<|gR 5 I<|qJ hK (h K hK) [];refine gF 11 I J I ?_;refine gF 26 I J I ?_;replace h:=h.2 J;exact gR 3 I<|qJ hK (h K hK) []
theorem BA(m:Nat)(Z:YT)(a:Int)(f:YB)(G J:Int)(O:Bool)(h:y5 (a<0) (0=G∧0=J∧false=O) (∃c,a=((c:Nat):Int)∧∃d,Z[c]?=some d∧∃b,qv d.kids f b∧y5 (b<0) (0=G∧0=J∧false=O) (a=G∧b=J∧true=O))):nk (m+1) Z a f G J O:=by
 intro K hK;refine gR 7 rfl<|qBd 33 rfl rfl rfl h ?_ ?_<;>intro h;refine gR 10 I ?_;obtain⟨rfl,rfl,rfl⟩:=h;exact qN [.tmp 6,.tmp 7,.tmp 8];refine gR 7 I ?_;obtain⟨c,g,h⟩:=h;refine gV 35 (qi ((c:Nat):Int)) I (bd g) I ?_;obtain⟨d,e,h⟩:=h;refine gY (aI (ay e) ai I I I I) I I<|gR 3 I ?_;obtain⟨b,i,h⟩:=h;refine qC0 i rfl<|gR 10 rfl<|qBd 42 rfl rfl rfl h ?_ ?_<;>intro h;refine gR 10 I ?_;obtain⟨rfl,rfl,rfl⟩:=h;exact qN [.tmp 6,.tmp 7,.tmp 8];refine gR 13 I ?_;obtain⟨rfl,rfl,rfl⟩:=h;exact qN [.tmp 6,.tmp 7,.tmp 8]
def mm(m:Nat)(G a:YT)(b:Int)(c:YI)(d:List ar)(e:Nat)(J:List ar):Prop:=z7 m [] f43 (q9<|.row 5<|List.map ar.w J) (xI<|cB<|aj f43) [.blk 0,.seq<|xJ<|aj f43] 25 [(3,.ptr 0 0),(11,.row 4<|kidsV G),(12,qi (G.length:Int)),(13,qi (e:Int))] ⟨3,[(2,.row 117 5<|List.map ar.w d),(1,.row 3 1<|List.map (V.int .i64) c),(0,.var 114 [.row 4<|kidsV a,qi b,.sl 1,.sl 2])]⟩
theorem AY(m:Nat)(p0:YT)(r0:List ar)(h:∃a,nl p0 a∧((a=false)->[]=r0)∧((a=true)->mm m p0 p0 0 ([]:YI) ([]:List ar) 0 r0)):ld p0 r0:=by
 refine⟨I,I,?_⟩;refine qA 25 [] func43 λK hK=>?_;refine gR 9 I ?_;obtain⟨a,b,h⟩:=h;refine qC0 b rfl<|gR 3 rfl<|qXh 8 rfl rfl rfl h cv cu ?_ ?_<;>intro hd h;refine gR 8 I ?_;subst h;exact go_sub (F':=(mkF 25 0 [(2,.row 5<|List.map ar.w [])])) (H':=⟨0,[]⟩) [] [] I hK ⟨⟨_,I,(.nil 5)⟩,trivial⟩ trivial I<|qN [.tmp 2];exact gR 16 I<|gV 12 (qi (p0.length:Int)) I (aP<|aJ _) I<|gLB 11 I (aJ _) λc=>gR 4 I<|go_loop m<|gNC 0 2 3 1 I I I I<|gNC 0 3 117 5 I I I I<|qW hK h [0,1,2]
theorem tF(m:Nat)(G j:YT)(l:Int)(k:YI)(d:List ar)(a:Nat)(J:List ar)(h:y5 (a<G.length) (∃e,G[a]?=some e∧∃f g b c,gb j (a:Int) k d e f g b c∧a+1<=9223372036854775807∧mm m G f g b c (a+1) J)<|d=J):mm (m+1) G j l k d a J:=by
 refine qj λK Z O o=>?_;refine gR 6 rfl<|qXh 14 rfl rfl rfl h cg ch ?_ ?_<;>intro hd h;refine gR 8 I ?_;obtain⟨e,i,h⟩:=h;refine gY (aI (ay i) ai I I I I) I I<|gR 15 I ?_;obtain⟨f,g,b,c,n,h⟩:=h;refine qC n [0,1,2] ?_;refine gHR 5 (List.map (V.int .i64) b) I (vH _ b) I<|gHR 6 (List.map ar.w c) I (mL _ ar.w (λ_=>I) c) I<|gR 4 I ?_;obtain⟨hb,h⟩:=h;exact gR 1 I<|gV 22 (qi ((a+1:Nat):Int)) I (am (by omega)<|by omega) I<|gR 2 I<|go_xloop<|qW O h [0,5,6];refine gR 3 I<|go_xloopE<|gR 10 I<|gFR 2 I (iV _ (λ_=>I) _) I I ?_;subst h;exact qN [.tmp 2]
theorem rS_link_Lookup(m:Nat)(G:YT)(p1:Int)(p2:YB)(J O:Int)(Z:Bool)(h:∃a,nl G a∧((a=false)->0=J∧0=O∧false=Z)∧((a=true)->∃b c d,oR G p1 p2 b c d∧b=J∧c=O∧d=Z)):sQ G p1 p2 J O Z:=by
 refine⟨I,I,?_⟩;refine qA 19 [] func189 λK hK=>?_;refine gR 11 I ?_;obtain⟨a,e,h⟩:=h;refine qC0 e rfl<|gR 3 rfl<|qBh 11 rfl rfl rfl h cv cu ?_ ?_<;>intro h;refine gR 10 I ?_;obtain⟨rfl,rfl,rfl⟩:=h;exact qN [.tmp 6,.tmp 7,.tmp 8];refine gR 8 I ?_;obtain⟨b,c,d,f,h⟩:=h;refine qC0 f I<|gR 9 I ?_;obtain⟨rfl,rfl,rfl⟩:=h;exact qN [.tmp 6,.tmp 7,.tmp 8]
theorem Dr(m:Nat)(G:YT)(p1:YB)(J:Int)(h:∃a,mK G p1 a∧a=J):qv G p1 J:=by
 refine⟨I,I,?_⟩;refine qA 8 [] func149 λK O=>?_;refine gR 9 I<|gFP 0 I I I I<|gY (yMF I) I I ?_;obtain⟨a,b,h⟩:=h;refine qC0 b I<|gR 4 I ?_;subst h;exact qN [.tmp 4]
theorem AZ(m:Nat)(G:Tree)(p1:YB)(J:Bool)(h:(G.text==p1)=J):rJ G p1 J:=by
 refine⟨I,I,?_⟩;refine qA 8 [] func179 λK O=>?_;refine gR 3 I<|gFP 0 I I I I<|gR 13 I ?_;subst h;exact qN [.tmp 3]
def fH(m:Nat)(g:YT)(a:Int)(e:YI)(c:List ar)(p1:Tree)(i:Bool)(j:YT)(b:Int)(f:YI)(d:List ar):Prop:=z8 [0] f68 (z6 (.tup []) ⟨3,[(2,.row 117 5<|List.map ar.w d),(1,.row 3 1<|List.map (V.int .i64) f),(0,.var 114 [.row 4<|kidsV j,qi b,.sl 1,.sl 2])]⟩) (cB<|cA<|cB<|aj f68) [.seq<|xA<|aj f68] 94 [(0,.ptr 0 0),(3,.box (ao p1) 0),(17,.bool i)] ⟨3,[(2,.row 117 5<|List.map ar.w c),(1,.row 3 1<|List.map (V.int .i64) e),(0,.var 114 [.row 4<|kidsV g,qi a,.sl 1,.sl 2])]⟩
def nA(m:Nat)(g:YT)(a:Int)(e:YI)(c:List ar)(p1:Tree)(i j:Int)(k:Bool)(l:YI)(n:YT)(b:Int)(f:YI)(d:List ar):Prop:=y4 [0] f68 (z6 (.tup []) ⟨3,[(2,.row 117 5<|List.map ar.w d),(1,.row 3 1<|List.map (V.int .i64) f),(0,.var 114 [.row 4<|kidsV n,qi b,.sl 1,.sl 2])]⟩) [.seq<|xA<|xK<|cA<|cB<|aj f68,.seq<|xA<|aj f68] 94 [(0,.ptr 0 0),(3,.box (ao p1) 0),(4,qi i),(5,qi j),(6,.bool k),(7,.ptr 1 0)] ⟨4,[(3,.row 117 5<|List.map ar.w c),(2,.row 3 1<|List.map (V.int .i64) e),(1,.var 96 [qi a,.row 1<|List.map (V.int .i64) l]),(0,.var 114 [.row 4<|kidsV g,qi a,.sl 2,.sl 3])]⟩
def dP(m:Nat)(p1:Tree)(d:List ar)(e:YT)(f:Int)(g:YI)(i:Nat)(j:YT)(a:Int)(c:YI)(b:List ar):Prop:=z7 m [0] f68 (z6 (.tup []) ⟨3,[(2,.row 117 5<|List.map ar.w b),(1,.row 3 1<|List.map (V.int .i64) c),(0,.var 114 [.row 4<|kidsV j,qi a,.sl 1,.sl 2])]⟩) (cL<|cK<|xH<|aj f68) [.blk 0] 94 [(0,.ptr 0 0),(59,.row 4<|kidsV p1.kids),(60,qi (p1.kids.length:Int)),(61,qi (i:Int))] ⟨3,[(2,.row 117 5<|List.map ar.w d),(1,.row 3 1<|List.map (V.int .i64) g),(0,.var 114 [.row 4<|kidsV e,qi f,.sl 1,.sl 2])]⟩
theorem uv(m:Nat)(g:YT)(a:Int)(e:YI)(c:List ar)(p1:Tree)(i:YT)(b:Int)(f:YI)(d:List ar)(h:y8 p1.kind 16 (fH m g a e c p1 true i b f d)<|fH m g a e c p1 (p1.kind==9) i b f d):gb g a e c p1 i b f d:=by
 refine qA 94 [0] func68 λK G=>?_;refine gR 3 rfl<|gFP 3 rfl rfl rfl rfl<|gR 9 rfl<|qBeZ 13 12 rfl rfl rfl rfl h ?_ ?_<;>intro h;exact gR 6 I<|qJ G (h K G) [0,1,2];exact gR 6 I<|qJ G (h K G) [0,1,2]
theorem tI(m:Nat)(g:YT)(b:Int)(a:YI)(c:List ar)(p1:Tree)(k:Bool)(l:YT)(d:Int)(f:YI)(e:List ar)(h:y6 k (∃n o p,oR g b p1.text n o p∧∃q,oW a q∧nA m g b a c p1 n o p q l d f e)<|dP m p1 c g b a 0 l d f e):fH (m+1) g b a c p1 k l d f e:=by
 intro K hK;refine qXi 17 rfl rfl rfl h ?_ ?_<;>intro hd h;refine gR 2 I<|qDs [0] 10 18<|qDr (qR 0 3 2 ((3,3)::(qR 4 3 2 [(7,3),(8,0),(9,0)]))) I I ?_;obtain⟨n,o,p,s,h⟩:=h;refine bg 10 s (by kernel_rfl) I (by kernel_rfl) I I .rfl I I ?_;refine qDr ((11,1)::(qR 12 3 2 (qR 15 3 1 []))) I I<|qDe<|gR 2 I<|qDs [0] 11 12<|qDr (qR 0 3 2 ((3,3)::(qR 4 3 2 [(7,3)]))) I I ?_;obtain⟨q,r,h⟩:=h;apply bf (i:=8) (j:=10) (by kernel_rfl) rfl rfl rfl rfl;exact(cb (L':=[0]) (by kernel_rfl) I I (pS (H:=⟨3,[(2,.row 117 5 (List.map ar.w c)),(1,.row 3 1 (List.map (V.int .i64) a)),(0,.var 114 [.row 4 (kidsV g),qi b,.sl 1,.sl 2])]⟩) r [1] .rfl ⟨⟨_,I,⟨I,I,(vH _ a).symm⟩⟩,trivial⟩ I [0] I) (.inl I));exact(aG ai I I);exact gHR 1 (List.map (V.int .i64) a) I (vH _ a) I<|qDr [(9,2),(10,0),(11,1)] I I<|qDe<|qJ hK (h K hK) [0,4,1,2];refine qDC 8 r [1] I ?_;exact gHR 1 (List.map (V.int .i64) a) I (vH _ a) I<|qDr [(9,0),(11,1)] I I<|qDe<|qJ hK (h K hK) [0,3,1,2];exact gR 8 I<|gV 60 (qi (p1.kids.length:Int)) I (aP (aJ _)) I<|gLB 59 I (aJ _) λt=>gR 4 I<|go_loop m<|qW hK h [0,1,2]
theorem tZ(m:Nat)(l:YT)(a:Int)(e:YI)(b:List ar)(p1:Tree)(f g:Int)(i:Bool)(j:YI)(n:YT)(c:Int)(k:YI)(d:List ar)(h:(b++[(ar.mk (mP.mk a j) f g<|!i)]).length<=1000000000∧dP m p1 (b++[(ar.mk (mP.mk a j) f g<|!i)]) l a e 0 n c k d):nA (m+1) l a e b p1 f g i j n c k d:=by
 intro K hK;refine gR 1 I<|qDs [0,1] 15 16<|qDr (qR 0 4 2 ((4,3)::(5,3)::(6,2)::(7,2)::(qR 8 4 0 []))) I I ?_;obtain⟨hb,h⟩:=h;refine bo 12 (.repl 3 (.row 117 5 (List.map ar.w (b++[(ar.mk (mP.mk a j) f g (!i))])))) I (by kernel_rfl) (bI ai I I I I I (apM ar.w b (ar.mk (mP.mk a j) f g (!i))) (by rw[aQ];exact hb)) (okR I) I (by kernel_rfl) I I ?_;exact qDr [(13,0),(14,0),(15,1)] I I<|qDe<|gR 6 I<|gV 60 (qi (p1.kids.length:Int)) I (aP (aJ _)) I<|gLB 59 I (aJ _) λo=>gR 4 I<|go_loop m<|qW hK h [0,2,5]
theorem nc(m:Nat)(p1:Tree)(j:List ar)(k:YT)(l:Int)(f:YI)(a:Nat)(n:YT)(c:Int)(e:YI)(d:List ar)(h:y5 (a<p1.kids.length) (∃o,p1.kids[a]?=some o∧(f++[(a:Int)]).length<=1000000000∧∃p q b i,gb k l (f++[(a:Int)]) j o p q b i∧∃g,((b.length:Int)-1)=((g:Nat):Int)∧g<=b.length∧a+1<=9223372036854775807∧dP m p1 i p q (b.take g) (a+1) n c e d)<|k=n∧l=c∧f=e∧j=d):dP (m+1) p1 j k l f a n c e d:=by
 refine qj λK J G x=>?_;refine gR 6 rfl<|qXh 62 rfl rfl rfl h cg ch ?_ ?_<;>intro O h;refine gR 8 I ?_;obtain⟨o,r,h⟩:=h;refine gY (aI (ay r) ai I I I I) I I<|gR 15 I ?_;obtain⟨hb,h⟩:=h;refine gDo (.repl 1<|.row 3 1<|List.map (V.int .i64)<|f++[(a:Int)]) (bI ai I I I I I (apM (V.int .i64) f (a:Int)) (by rw[aQ];exact hb)) (okR I) I I I<|gR 9 I ?_;obtain⟨p,q,b,i,t,h⟩:=h;refine qC t [0,5,2] ?_;refine gHR 7 (List.map (V.int .i64) b) I (vH _ b) I<|gHR 8 (List.map ar.w i) I (mL _ ar.w (λ_=>I) i) I<|gR 2 I<|qDs [0] 14 15<|qDr (qR 0 4 2<|(4,3)::(qR 5 5 0 [])) I I<|gV 88 (qi (b.length:Int)) I (aP<|aQ (V.int .i64) _) I<|gLO 7 I (aQ (V.int .i64) _) λv=>qDr [(10,0)] I I<|gV 89 (qi<|(b.length:Int)-1) I (am (by have :=v;omega) I) I ?_;obtain⟨g,s,h⟩:=h;refine gV 89 (qi ((g:Nat):Int)) I (bd s) I ?_;obtain⟨hb,h⟩:=h;refine bo 11 (.repl 7<|.row 3 1<|List.map (V.int .i64)<|b.take g) I (by kernel_rfl) (dTr ai I I I I (by rw[aQ];exact hb)<|NX _ _ _) (okR I) I (by kernel_rfl) I I ?_;refine qDr [(12,0),(13,0),(14,1)] I I<|qDe<|gR 3 I ?_;obtain⟨hb,h⟩:=h;exact gR 1 I<|gV 93 (qi ((a+1:Nat):Int)) I (am (by omega)<|by omega) I<|gR 2 I<|go_xloop<|qW G h [0,9,8];refine gR 3 I<|go_xloopE<|gR 1 I ?_;obtain⟨rfl,rfl,rfl,rfl⟩:=h;exact gE G [] [] [0,1,2] []
def iP(m:Nat)(G:YT)(a:YB)(b:Nat)(J:Int):Prop:=z7 m [] f178 (q9<|qi J) (cL<|xE<|cB<|aj f178) [.blk 0,.seq<|xA<|aj f178] 19 [(0,.row 4<|kidsV G),(1,.clo 179 [.box [.str a] 0]),(7,qi (G.length:Int)),(8,qi (b:Int))] ⟨0,[]⟩
theorem yd(m:Nat)(p0:YT)(a:YB)(r0:Int)(h:iP m p0 a 0 r0):mK p0 a r0:=by
 refine⟨I,I,?_⟩;refine qA 19 [] func178 λK hK=>?_;exact gR 10 I<|gV 7 (qi (p0.length:Int)) I (aP<|aJ _) I<|gLB 6 I (aJ _) λb=>gR 4 I<|go_loop m<|qW hK h []
theorem pY(m:Nat)(G:YT)(b:YB)(a:Nat)(J:Int)(h:y5 (a<G.length) (∃d,G[a]?=some d∧∃c,rJ d b c∧y6 c ((a:Int)=J) (a+1<=9223372036854775807∧iP m G b (a+1) J))<|(-1)=J):iP (m+1) G b a J:=by
 refine qj λK j1 O g=>?_;refine gR 6 rfl<|qXh 9 rfl rfl rfl h cg ch ?_ ?_<;>intro Z h;refine gR 16 I ?_;obtain⟨d,e,h⟩:=h;refine gY (aI (ay e) ai I I I I) I I<|gR 1 I ?_;obtain⟨c,f,h⟩:=h;refine Tn f (by kernel_rfl) I I I .rfl I ?_;refine gR 2 rfl<|qXi 16 rfl rfl rfl h ?_ ?_<;>intro Z h;refine gR 10 I<|go_xloopR<|gR 2 I ?_;subst h;exact qN [.tmp 4];refine gR 5 I ?_;obtain⟨hb,h⟩:=h;exact gR 1 I<|gV 18 (qi ((a+1:Nat):Int)) I (am (by omega)<|by omega) I<|gR 2 I<|go_xloop<|qW O h [];refine gR 3 I<|go_xloopE<|gR 8 I ?_;subst h;exact qN [.tmp 4]
theorem yL(m:Nat)(G J O:YB)(Z:Bool)(h:∃a b c,ju G a b c∧a=J∧b=O∧c=Z):nQ G J O Z:=by
 refine⟨I,I,?_⟩;refine qA 13 [] func148 λK hK=>?_;refine gR 11 I ?_;obtain⟨a,b,c,d,h⟩:=h;refine qC0 d I<|gR 9 I ?_;obtain⟨rfl,rfl,rfl⟩:=h;exact qN [.tmp 4,.tmp 5,.tmp 6]
theorem pX(m:Nat)(G J O:YB)(Z:Bool)(h:∃a,ew G a∧((0<=a)->∃b,a=((b:Nat):Int)∧b<=G.length∧InI (a+1)∧∃c,(a+1)=((c:Nat):Int)∧c<=G.length∧(G.take b)=J∧(G.drop c)=O∧true=Z)∧((¬0<=a)->G=J∧[]=O∧false=Z)):ju G J O Z:=by
 refine⟨I,I,?_⟩;refine qA 23 [] func177 λK hK=>?_;refine gR 12 I ?_;obtain⟨a,f,h⟩:=h;refine qC0 f rfl<|gR 9 rfl<|qBd 12 rfl rfl rfl h ?_ ?_<;>intro h;refine gR 2 I<|qDs [] 12 12<|qDr [(0,2),(1,2)] I I ?_;obtain⟨b,d,h⟩:=h;refine gV 14 (qi ((b:Nat):Int)) I (bd d) I ?_;obtain⟨hb',h⟩:=h;refine gYd 2 I (by kernel_rfl) (ySS ai I I BO (yr I) (aar _) hb'<|An _ _) I I<|qDr (qR 3 4 2 []) I I ?_;obtain⟨hb,h⟩:=h;refine qDr [(7,2)] I I<|gV 20 (qi<|a+1) I (am hb I) I ?_;obtain⟨c,e,h⟩:=h;refine gV 20 (qi ((c:Nat):Int)) I (bd e) I ?_;obtain⟨hb,h⟩:=h;refine gYd 8 I (by kernel_rfl) (ySS ai I I (yr I) BO hb (aaf _)<|AC _ _) I I<|qDr (qR 9 3 0 []) I I<|qDe<|gR 3 I ?_;obtain⟨rfl,rfl,rfl⟩:=h;exact qN [.tmp 4,.tmp 5,.tmp 6];refine gR 12 I ?_;obtain⟨rfl,rfl,rfl⟩:=h;exact qN [.tmp 4,.tmp 5,.tmp 6]
def iC(m:Nat)(G:YB)(J:Int):Prop:=z8 [] f203 (q9<|qi J) (xB<|xL<|xA<|aj f203) [.blk 0,.seq<|xH<|aj f203] 143 [(0,.str G),(1,.str [46]),(5,qi 1)] ⟨0,[]⟩
theorem ou(m:Nat)(G:YB)(J:Int)(h:(([46]=G)->0=J)∧(([46]≠G)->iC m G J)):ew G J:=by
 refine⟨I,I,?_⟩;refine qA 143 [] func203 λK O=>?_;refine gR 26 rfl<|qBeZ 16 23 rfl rfl rfl rfl h ?_ ?_<;>intro h;refine gR 9 I ?_;subst h;exact qN [.tmp 4];exact gR 1 I<|qJ O (h K O) []
theorem nS(m:Nat)(G:YB)(J:Int)(h:∃a,iJ G 46 a∧a=J):iC (m+1) G J:=by
 intro K O;refine gR 13 I ?_;obtain⟨a,b,h⟩:=h;refine qC0 b I<|gR 6 I ?_;subst h;exact qN [.tmp 4]
open Go.RowKit Lx
theorem qmm{P:Program}{f:FuncId}{a:Array Value}{w:World}{v:Ending}{Q:Ending->World->Prop}(h:Calls P f a w λe w'=>e=v∧w=w')(k:Q v w):Calls P f a w Q:=h.mono λe w' z=>by obtain⟨rfl,rfl⟩:=z;exact k
variable{w':World}
theorem qEx{w:World}(h:Ext w w':=by repeat (first|exact Ext.refl _|apply Ext.alloc|(refine Ext.setCell ?_ (aaf _) _))):Ext w w':=h
theorem bT{a b:Bool}(h:a=b):Ending.returned (.bool a)=.returned (.bool b):=by rw[h]
theorem bP{k:IntKind}{a b:Int}(h:a=b):Ending.returned (.int k a)=.returned (.int k b):=by rw[h]
theorem xp(n m:Nat):((n:Int)==(m:Int))=(n==m):=by rw[Bool.eq_iff_iff];simp;omega
theorem eP(c:UInt8)(w:World):Calls prog 159 #[.int .u8 (c.toNat:Int)] w λe w'=>e=.returned (.bool<|cR c)∧w=w':=by
 go_enter func159,ntmps159
 go_wp2<;>(go_ret;go_light;refine⟨bT ?_,rfl⟩;(first|rw[Bool.eq_iff_iff]|skip);simp_all[cR]<;>omega)
theorem cG(c:UInt8)(w:World):Calls prog 199 #[.int .u8 (c.toNat:Int)] w λe w'=>e=.returned (.bool<|cR c)∧w=w':=by
 go_enter func199,ntmps199
 go_wp2<;>(go_ret;go_light;refine⟨bT ?_,rfl⟩;(first|rw[Bool.eq_iff_iff]|skip);simp_all[cR]<;>omega)
theorem eJ(c:UInt8)(w:World):Calls prog 160 #[.int .u8 (c.toNat:Int)] w λe w'=>e=.returned (.bool<|upperB c)∧w=w':=by
 go_enter func160,ntmps160
 go_wp2<;>(go_ret;go_light;refine⟨bT ?_,rfl⟩;(first|rw[Bool.eq_iff_iff]|skip);simp_all[upperB]<;>omega)
theorem bq(c:UInt8)(w:World):Calls prog 200 #[.int .u8 (c.toNat:Int)] w λe w'=>e=.returned (.bool<|upperB c)∧w=w':=by
 go_enter func200,ntmps200
 go_wp2<;>(go_ret;go_light;refine⟨bT ?_,rfl⟩;(first|rw[Bool.eq_iff_iff]|skip);simp_all[upperB]<;>omega)
theorem ef(c:UInt8)(w:World):Calls prog 118 #[.int .u8 (c.toNat:Int)] w λe w'=>e=.returned (.bool<|br c)∧w=w':=by
 go_enter func118,ntmps118
 go_wp2<;>(go_ret;go_light;refine⟨bT ?_,rfl⟩;(first|rw[Bool.eq_iff_iff]|skip);simp_all[br]<;>omega)
theorem dy(c:UInt8)(w:World):Calls prog 198 #[.int .u8 (c.toNat:Int)] w λe w'=>e=.returned (.bool<|br c)∧w=w':=by
 go_enter func198,ntmps198
 go_wp2<;>(go_ret;go_light;refine⟨bT ?_,rfl⟩;(first|rw[Bool.eq_iff_iff]|skip);simp_all[br]<;>omega)
theorem QC(c:UInt8)(w:World):Calls prog 72 #[.int .u8 (c.toNat:Int)] w λe w'=>e=.returned (.bool<|ct c)∧w=w':=by
 go_enter func72,ntmps72
 go_wp2<;>(go_ret;go_light;refine⟨bT ?_,rfl⟩;(first|rw[Bool.eq_iff_iff]|skip);simp_all[ct]<;>omega)
theorem kK(c:UInt8)(w:World):Calls prog 174 #[.int .u8 (c.toNat:Int)] w λe w'=>e=.returned (.bool<|ct c)∧w=w':=by
 go_enter func174,ntmps174
 go_wp2<;>(go_ret;go_light;refine⟨bT ?_,rfl⟩;(first|rw[Bool.eq_iff_iff]|skip);simp_all[ct]<;>omega)
theorem cm(c:UInt8)(w:World):Calls prog 197 #[.int .u8 (c.toNat:Int)] w λe w'=>e=.returned (.bool<|eu c)∧w=w':=by
 go_enter func197,ntmps197
 go_wp2<;>(go_ret;go_light;refine⟨bT ?_,rfl⟩;(first|rw[Bool.eq_iff_iff]|skip);simp_all[eu]<;>omega)
theorem bN(c:UInt8)(w:World):Calls prog 116 #[.int .u8 (c.toNat:Int)] w λe w'=>e=.returned (.bool<|bB c)∧w=w':=by
 cases G:cR c<;>cases h1:upperB c
 all_goals
  go_enter func116,ntmps116
  go_wp2_with (first|(go_at_call 159;refine qmm (eP _ _) ?_)|(go_at_call 160;refine qmm (eJ _ _) ?_))
  all_goals (go_ret;go_light;refine⟨bT ?_,rfl⟩;(first|(simp[bB,G,h1];done)|with_reducible exact xp _ _|((first|rw[Bool.eq_iff_iff]|skip);simp_all[bB]<;>omega)))
theorem dz(c:UInt8)(w:World):Calls prog 73 #[.int .u8 (c.toNat:Int)] w λe w'=>e=.returned (.bool<|be c)∧w=w':=by
 cases G:ct c
 all_goals
  go_enter func73,ntmps73
  go_wp2_with (first|(go_at_call 72;refine qmm (QC _ _) ?_))
  all_goals (go_ret;go_light;refine⟨bT ?_,rfl⟩;(first|(simp[be,eu,ct,G];done)|with_reducible exact xp _ _|((first|rw[Bool.eq_iff_iff]|skip);simp_all[be,eu,ct]<;>omega)))
theorem bx(c:UInt8)(w:World):Calls prog 196 #[.int .u8 (c.toNat:Int)] w λe w'=>e=.returned (.bool<|be c)∧w=w':=by
 cases G:ct c<;>cases h1:eu c
 all_goals
  go_enter func196,ntmps196
  go_wp2_with (first|(go_at_call 174;refine qmm (kK _ _) ?_)|(go_at_call 197;refine qmm (cm _ _) ?_))
  all_goals (go_ret;go_light;refine⟨bT ?_,rfl⟩;(first|(simp[be,G,h1];done)|with_reducible exact xp _ _|((first|rw[Bool.eq_iff_iff]|skip);simp_all[be]<;>omega)))
theorem tw(c:UInt8)(w:World):Calls prog 218 #[.int .u8 (c.toNat:Int)] w λe w'=>e=.returned (.bool<|bc c)∧w=w':=by
 cases G:cR c<;>cases h1:upperB c<;>cases h2:br c
 all_goals
  go_enter func218,ntmps218
  go_wp2_with (first|(go_at_call 199;refine qmm (cG _ _) ?_)|(go_at_call 200;refine qmm (bq _ _) ?_)|(go_at_call 198;refine qmm (dy _ _) ?_))
  all_goals (go_ret;go_light;refine⟨bT ?_,rfl⟩;(first|(simp[bc,bB,G,h1,h2];done)|with_reducible exact xp _ _|((first|rw[Bool.eq_iff_iff]|skip);simp_all[bc,bB]<;>omega)))
theorem JB(w:World):Calls prog 162 #[.string ⟨([109,111,100,117,108,101]:YB).toArray⟩] w λe w'=>e=.returned (.bool true)∧w=w':=by
 go_enter func162,ntmps162
 go_wp2
 go_ret
 exact⟨I,I⟩
theorem II(w:World):Calls prog 162 #[.string ⟨([100,101,102]:YB).toArray⟩] w λe w'=>e=.returned (.bool true)∧w=w':=by
 go_enter func162,ntmps162
 go_wp2
 go_ret
 exact⟨I,I⟩
theorem Jp(w:World):Calls prog 162 #[.string ⟨([116,121,112,101]:YB).toArray⟩] w λe w'=>e=.returned (.bool true)∧w=w':=by
 go_enter func162,ntmps162
 go_wp2
 go_ret
 exact⟨I,I⟩
theorem Ij(w:World):Calls prog 162 #[.string ⟨([108,101,116]:YB).toArray⟩] w λe w'=>e=.returned (.bool true)∧w=w':=by
 go_enter func162,ntmps162
 go_wp2
 go_ret
 exact⟨I,I⟩
theorem Iw(w:World):Calls prog 162 #[.string ⟨([105,110]:YB).toArray⟩] w λe w'=>e=.returned (.bool true)∧w=w':=by
 go_enter func162,ntmps162
 go_wp2
 go_ret
 exact⟨I,I⟩
theorem IF(w:World):Calls prog 162 #[.string ⟨([105,102]:YB).toArray⟩] w λe w'=>e=.returned (.bool true)∧w=w':=by
 go_enter func162,ntmps162
 go_wp2
 go_ret
 exact⟨I,I⟩
theorem Iz(w:World):Calls prog 162 #[.string ⟨([116,104,101,110]:YB).toArray⟩] w λe w'=>e=.returned (.bool true)∧w=w':=by
 go_enter func162,ntmps162
 go_wp2
 go_ret
 exact⟨I,I⟩
theorem Jn(w:World):Calls prog 162 #[.string ⟨([101,108,115,101]:YB).toArray⟩] w λe w'=>e=.returned (.bool true)∧w=w':=by
 go_enter func162,ntmps162
 go_wp2
 go_ret
 exact⟨I,I⟩
theorem IC(w:World):Calls prog 162 #[.string ⟨([116,114,117,101]:YB).toArray⟩] w λe w'=>e=.returned (.bool true)∧w=w':=by
 go_enter func162,ntmps162
 go_wp2
 go_ret
 exact⟨I,I⟩
theorem JM(w:World):Calls prog 162 #[.string ⟨([102,97,108,115,101]:YB).toArray⟩] w λe w'=>e=.returned (.bool true)∧w=w':=by
 go_enter func162,ntmps162
 go_wp2
 go_ret
 exact⟨I,I⟩
theorem Gz(w:World):Calls prog 162 #[.string ⟨([73,110,116]:YB).toArray⟩] w λe w'=>e=.returned (.bool true)∧w=w':=by
 go_enter func162,ntmps162
 go_wp2
 go_ret
 exact⟨I,I⟩
theorem Gw(w:World):Calls prog 162 #[.string ⟨([84,101,120,116]:YB).toArray⟩] w λe w'=>e=.returned (.bool true)∧w=w':=by
 go_enter func162,ntmps162
 go_wp2
 go_ret
 exact⟨I,I⟩
theorem Gn(w:World):Calls prog 162 #[.string ⟨([66,111,111,108]:YB).toArray⟩] w λe w'=>e=.returned (.bool true)∧w=w':=by
 go_enter func162,ntmps162
 go_wp2
 go_ret
 exact⟨I,I⟩
theorem Gp(l:YB)(w:World)(Z:(l==[109,111,100,117,108,101])=false)(b1:(l==[100,101,102])=false)(b2:(l==[116,121,112,101])=false)(b3:(l==[108,101,116])=false)(b4:(l==[105,110])=false)(b5:(l==[105,102])=false)(b6:(l==[116,104,101,110])=false)(b7:(l==[101,108,115,101])=false)(b8:(l==[116,114,117,101])=false)(b9:(l==[102,97,108,115,101])=false)(G:(l==[73,110,116])=false)(J:(l==[84,101,120,116])=false)(O:(l==[66,111,111,108])=false):Calls prog 162 #[.string ⟨l.toArray⟩] w λe w'=>e=.returned (.bool false)∧w=w':=by
 go_enter func162,ntmps162
 go_wp2
 go_ret
 exact⟨I,I⟩
theorem cI(l:YB)(w:World):Calls prog 162 #[.string ⟨l.toArray⟩] w λe w'=>e=.returned (.bool<|lG l)∧w=w':=by
 by_cases Z:l=[109,111,100,117,108,101]
 ·subst Z;exact JB w
 by_cases h1:l=[100,101,102]
 ·subst h1;exact II w
 by_cases h2:l=[116,121,112,101]
 ·subst h2;exact Jp w
 by_cases h3:l=[108,101,116]
 ·subst h3;exact Ij w
 by_cases h4:l=[105,110]
 ·subst h4;exact Iw w
 by_cases h5:l=[105,102]
 ·subst h5;exact IF w
 by_cases h6:l=[116,104,101,110]
 ·subst h6;exact Iz w
 by_cases h7:l=[101,108,115,101]
 ·subst h7;exact Jn w
 by_cases h8:l=[116,114,117,101]
 ·subst h8;exact IC w
 by_cases h9:l=[102,97,108,115,101]
 ·subst h9;exact JM w
 by_cases G:l=[73,110,116]
 ·subst G;exact Gz w
 by_cases J:l=[84,101,120,116]
 ·subst J;exact Gw w
 by_cases O:l=[66,111,111,108]
 ·subst O;exact Gn w
 have hr:lG l=false:=by simp[lG,IJ,Z,h1,h2,h3,h4,h5,h6,h7,h8,h9,G,J,O]
 rw[hr];exact Gp l w (by simpa using Z) (by simpa using h1) (by simpa using h2) (by simpa using h3) (by simpa using h4) (by simpa using h5) (by simpa using h6) (by simpa using h7) (by simpa using h8) (by simpa using h9) (by simpa using G) (by simpa using J) (by simpa using O)
theorem If(w:World):Calls prog 213 #[.string ⟨([109,111,100,117,108,101]:YB).toArray⟩] w λe w'=>e=.returned (.bool true)∧w=w':=by
 go_enter func213,ntmps213
 go_wp2
 go_ret
 exact⟨I,I⟩
theorem Jv(w:World):Calls prog 213 #[.string ⟨([100,101,102]:YB).toArray⟩] w λe w'=>e=.returned (.bool true)∧w=w':=by
 go_enter func213,ntmps213
 go_wp2
 go_ret
 exact⟨I,I⟩
theorem JC(w:World):Calls prog 213 #[.string ⟨([116,121,112,101]:YB).toArray⟩] w λe w'=>e=.returned (.bool true)∧w=w':=by
 go_enter func213,ntmps213
 go_wp2
 go_ret
 exact⟨I,I⟩
theorem Jc(w:World):Calls prog 213 #[.string ⟨([108,101,116]:YB).toArray⟩] w λe w'=>e=.returned (.bool true)∧w=w':=by
 go_enter func213,ntmps213
 go_wp2
 go_ret
 exact⟨I,I⟩
theorem IQ(w:World):Calls prog 213 #[.string ⟨([105,110]:YB).toArray⟩] w λe w'=>e=.returned (.bool true)∧w=w':=by
 go_enter func213,ntmps213
 go_wp2
 go_ret
 exact⟨I,I⟩
theorem JI(w:World):Calls prog 213 #[.string ⟨([105,102]:YB).toArray⟩] w λe w'=>e=.returned (.bool true)∧w=w':=by
 go_enter func213,ntmps213
 go_wp2
 go_ret
 exact⟨I,I⟩
theorem Jd(w:World):Calls prog 213 #[.string ⟨([116,104,101,110]:YB).toArray⟩] w λe w'=>e=.returned (.bool true)∧w=w':=by
 go_enter func213,ntmps213
 go_wp2
 go_ret
 exact⟨I,I⟩
theorem IR(w:World):Calls prog 213 #[.string ⟨([101,108,115,101]:YB).toArray⟩] w λe w'=>e=.returned (.bool true)∧w=w':=by
 go_enter func213,ntmps213
 go_wp2
 go_ret
 exact⟨I,I⟩
theorem Iy(w:World):Calls prog 213 #[.string ⟨([116,114,117,101]:YB).toArray⟩] w λe w'=>e=.returned (.bool true)∧w=w':=by
 go_enter func213,ntmps213
 go_wp2
 go_ret
 exact⟨I,I⟩
theorem JR(w:World):Calls prog 213 #[.string ⟨([102,97,108,115,101]:YB).toArray⟩] w λe w'=>e=.returned (.bool true)∧w=w':=by
 go_enter func213,ntmps213
 go_wp2
 go_ret
 exact⟨I,I⟩
theorem Gj(w:World):Calls prog 213 #[.string ⟨([73,110,116]:YB).toArray⟩] w λe w'=>e=.returned (.bool true)∧w=w':=by
 go_enter func213,ntmps213
 go_wp2
 go_ret
 exact⟨I,I⟩
theorem Gm(w:World):Calls prog 213 #[.string ⟨([84,101,120,116]:YB).toArray⟩] w λe w'=>e=.returned (.bool true)∧w=w':=by
 go_enter func213,ntmps213
 go_wp2
 go_ret
 exact⟨I,I⟩
theorem Gl(w:World):Calls prog 213 #[.string ⟨([66,111,111,108]:YB).toArray⟩] w λe w'=>e=.returned (.bool true)∧w=w':=by
 go_enter func213,ntmps213
 go_wp2
 go_ret
 exact⟨I,I⟩
theorem GA(l:YB)(w:World)(Z:(l==[109,111,100,117,108,101])=false)(b1:(l==[100,101,102])=false)(b2:(l==[116,121,112,101])=false)(b3:(l==[108,101,116])=false)(b4:(l==[105,110])=false)(b5:(l==[105,102])=false)(b6:(l==[116,104,101,110])=false)(b7:(l==[101,108,115,101])=false)(b8:(l==[116,114,117,101])=false)(b9:(l==[102,97,108,115,101])=false)(G:(l==[73,110,116])=false)(J:(l==[84,101,120,116])=false)(O:(l==[66,111,111,108])=false):Calls prog 213 #[.string ⟨l.toArray⟩] w λe w'=>e=.returned (.bool false)∧w=w':=by
 go_enter func213,ntmps213
 go_wp2
 go_ret
 exact⟨I,I⟩
theorem dA(l:YB)(w:World):Calls prog 213 #[.string ⟨l.toArray⟩] w λe w'=>e=.returned (.bool<|lG l)∧w=w':=by
 by_cases Z:l=[109,111,100,117,108,101]
 ·subst Z;exact If w
 by_cases h1:l=[100,101,102]
 ·subst h1;exact Jv w
 by_cases h2:l=[116,121,112,101]
 ·subst h2;exact JC w
 by_cases h3:l=[108,101,116]
 ·subst h3;exact Jc w
 by_cases h4:l=[105,110]
 ·subst h4;exact IQ w
 by_cases h5:l=[105,102]
 ·subst h5;exact JI w
 by_cases h6:l=[116,104,101,110]
 ·subst h6;exact Jd w
 by_cases h7:l=[101,108,115,101]
 ·subst h7;exact IR w
 by_cases h8:l=[116,114,117,101]
 ·subst h8;exact Iy w
 by_cases h9:l=[102,97,108,115,101]
 ·subst h9;exact JR w
 by_cases G:l=[73,110,116]
 ·subst G;exact Gj w
 by_cases J:l=[84,101,120,116]
 ·subst J;exact Gm w
 by_cases O:l=[66,111,111,108]
 ·subst O;exact Gl w
 have hr:lG l=false:=by simp[lG,IJ,Z,h1,h2,h3,h4,h5,h6,h7,h8,h9,G,J,O]
 rw[hr];exact GA l w (by simpa using Z) (by simpa using h1) (by simpa using h2) (by simpa using h3) (by simpa using h4) (by simpa using h5) (by simpa using h6) (by simpa using h7) (by simpa using h8) (by simpa using h9) (by simpa using G) (by simpa using J) (by simpa using O)
set_option maxHeartbeats 1000000 in
theorem QK(s:ByteArray)(c:Int)(w:World):Calls prog 163 #[.string s,.int .u8 c] w λe w'=>e=.returned (.int .i64<|Lib.indexByte s.data.toList c.toNat.toUInt8)∧w=w':=by
 go_enter func163,ntmps163
 go_wp2
 rw[run_callFunc_extern func185 (by kernel_rfl) (by kernel_rfl) (by kernel_rfl) (e:=Extern.BytealgIndexByte.indexByte) (by kernel_rfl),Lib.run_indexByteString];simp only[Result.andThen];rw[Oper.upon_value]
 go_wp2
 go_ret
 exact⟨I,I⟩
theorem Jr(s:ByteArray)(c:Int)(w:World):Calls prog 121 #[.string s,.int .u8 c] w λe w'=>e=.returned (.int .i64<|Lib.indexByte s.data.toList c.toNat.toUInt8)∧w=w':=by
 go_enter func121,ntmps121
 go_wp2_with (go_at_call 163;refine qmm (QK _ _ _) ?_)
 go_ret
 exact⟨I,I⟩
set_option maxHeartbeats 400000 in
theorem gL(l:YB)(w:World)(hl:l.length<=281474976710656):Calls prog 161 #[.string ⟨l.toArray⟩] w λe w'=>e=.returned (.int .i64 (spanN bc l:Nat))∧w=w':=by
 go_enter func161,ntmps161
 go_wp2_with fail
 go_loop [3] (λn=>∃k:Nat,k<=l.length∧n=.int .i64 k∧Hid (spanN bc l=k+spanN bc (l.drop k))) (λn=>l.length-(intOf n).toNat)
 case atStart=>exact⟨0,by omega,rfl,Lib.hid<|by simp⟩
 case round=>
  obtain⟨k,hk,rfl,hrel⟩:=hrel;by_cases hlt:k<l.length
  ·obtain⟨c,hc⟩:∃c,({data:=l.toArray}:ByteArray)[k]'hlt=c:=⟨_,rfl⟩;have HC:=Lib.hid (show l[k]=c from hc)
   go_wp2_with (first|(go_at_call 116;refine qmm (bN _ _) ?_)|(go_at_call 118;refine qmm (ef _ _) ?_))
   all_goals go_light
   ·go_round
    case rel=>exact⟨k+1,by omega,by go_num,Lib.hid (by rw[hrel.out,nd hlt HC.out<|wZ<|.inl ‹_›];omega)⟩
    case measure=>simp[intOf];omega
   ·go_round
    case rel=>exact⟨k+1,by omega,by go_num,Lib.hid (by rw[hrel.out,nd hlt HC.out<|wZ<|.inr<|.inl ‹_›];omega)⟩
    case measure=>simp[intOf];omega
   ·go_round
    case rel=>exact⟨k+1,by omega,by go_num,Lib.hid (by rw[hrel.out,nd hlt HC.out<|wZ<|.inr<|.inr ‹_›];omega)⟩
    case measure=>simp[intOf];omega
   ·go_ret
    exact⟨bP (by rw[hrel.out,tk hlt HC.out<|Gg ‹_› ‹_› ‹_›];omega),I⟩
  ·go_wp2_with fail
   go_ret
   exact⟨bP (by rw[hrel.out,uV<|by omega];omega),I⟩
set_option maxHeartbeats 1000000 in
theorem kL(l:YB)(w:World)(hl:l.length<=281474976710656):Calls prog 119 #[.string ⟨l.toArray⟩] w λe w'=>e=.returned (.tuple #[.int .i64 ((eO l).1:Nat),.int .i64 ((eO l).2:Nat)])∧w=w':=by
 go_enter func119,ntmps119
 go_wp2_with fail
 go_loop [4] (λn=>∃k:Nat,k<=l.length∧n=.int .i64 k∧Hid (spanN br l=k+spanN br (l.drop k))) (λn=>l.length-(intOf n).toNat)
 case atStart=>exact⟨0,by omega,rfl,Lib.hid<|by simp⟩
 case round=>
  obtain⟨k,hk,rfl,hrel⟩:=hrel;by_cases hlt:k<l.length
  ·obtain⟨c,hc⟩:∃c,({data:=l.toArray}:ByteArray)[k]'hlt=c:=⟨_,rfl⟩;have HC:=Lib.hid<|show l[k]=c from hc;cases hd:br c
   ·have HN:=Lib.hid (show spanN br l=k from by rw[hrel.out,tk hlt HC.out hd];omega);have hk0:=hk;by_cases h1:1<k
    ·have h0:0<l.length:=by omega
     obtain⟨c0,hc0⟩:∃c,({data:=l.toArray}:ByteArray)[0]'h0=c:=⟨_,rfl⟩;have HC0:=Lib.hid<|show l[0]=c0 from hc0;cases h48:((c0.toNat:Int)==48)
     ·have HG:=Lib.hid (show 1<k->¬(l.getD 0 0).toNat=48 from λ_=>by rw[aS h0 HC0.out];exact cy (m:=48) h48);by_cases h15:15<k
      ·go_wp2_with (go_at_call 118;refine qmm (ef _ _) ?_)
       go_ret2
       exact⟨by rw[ro HN.out HG.out h15];rfl,I⟩
      ·go_wp2_with (go_at_call 118;refine qmm (ef _ _) ?_)
       go_ret2
       exact⟨by rw[jH HN.out HG.out h15];rfl,I⟩
     ·go_wp2_with (go_at_call 118;refine qmm (ef _ _) ?_)
      go_ret2
      exact⟨by rw[qw HN.out h1 h0 HC0.out h48];rfl,I⟩
    ·go_wp2_with (go_at_call 118;refine qmm (ef _ _) ?_)
     go_ret2
     exact⟨by rw[jH HN.out (λh=>absurd h h1)<|by omega];rfl,I⟩
   ·go_wp2_with (go_at_call 118;refine qmm (ef _ _) ?_)
    go_light
    go_round
    case rel=>exact⟨k+1,by omega,by go_num,Lib.hid (by rw[hrel.out,nd hlt HC.out hd];omega)⟩
    case measure=>simp[intOf];omega
  ·have HN:=Lib.hid (show spanN br l=k from by rw[hrel.out,uV<|by omega];omega);have hk0:=hk;by_cases h1:1<k
   ·have h0:0<l.length:=by omega
    obtain⟨c0,hc0⟩:∃c,({data:=l.toArray}:ByteArray)[0]'h0=c:=⟨_,rfl⟩;have HC0:=Lib.hid<|show l[0]=c0 from hc0;cases h48:((c0.toNat:Int)==48)
    ·have HG:=Lib.hid (show 1<k->¬(l.getD 0 0).toNat=48 from λ_=>by rw[aS h0 HC0.out];exact cy (m:=48) h48);by_cases h15:15<k
     ·go_wp2_with (go_at_call 118;refine qmm (ef _ _) ?_)
      go_ret2
      exact⟨by rw[ro HN.out HG.out h15];rfl,I⟩
     ·go_wp2_with (go_at_call 118;refine qmm (ef _ _) ?_)
      go_ret2
      exact⟨by rw[jH HN.out HG.out h15];rfl,I⟩
    ·go_wp2_with (go_at_call 118;refine qmm (ef _ _) ?_)
     go_ret2
     exact⟨by rw[qw HN.out h1 h0 HC0.out h48];rfl,I⟩
   ·go_wp2_with (go_at_call 118;refine qmm (ef _ _) ?_)
    go_ret2
    exact⟨by rw[jH HN.out (λh=>absurd h h1)<|by omega];rfl,I⟩
set_option maxHeartbeats 1000000 in
theorem kz(l:YB)(w:World)(h0:0<l.length)(hl:l.length<=281474976710656):Calls prog 120 #[.string ⟨l.toArray⟩] w λe w'=>e=.returned (.tuple #[.int .i64 ((quotedT l.tail 1).1:Nat),.int .i64 ((quotedT l.tail 1).2:Nat)])∧w=w':=by
 obtain⟨r,hr⟩:∃r,quotedT l.tail 1=r:=⟨_,rfl⟩;rw[hr];have HR:=Lib.hid hr;clear hr
 go_enter func120,ntmps120
 go_wp2_with fail
 go_loop [4,5] (λn c=>∃k:Nat,k<=l.length∧n=.int .i64 k∧Hid (r=quotedT (l.drop k) k)) (λn _=>l.length-(intOf n).toNat)
 case atStart=>exact⟨1,by omega,rfl,Lib.hid<|by rw[<-HR.out,List.drop_one]⟩
 case round=>
  obtain⟨k,hk,rfl,hrel⟩:=hrel;by_cases hlt:k<l.length
  ·obtain⟨c,hc⟩:∃c,({data:=l.toArray}:ByteArray)[k]'hlt=c:=⟨_,rfl⟩;have HC:=Lib.hid<|show l[k]=c from hc;have HS:=Lib.hid<|FS hlt HC.out;cases ha:be c
   ·go_wp2_with (go_at_call 73;refine qmm (dz _ _) ?_)
    go_ret2
    exact⟨by rw[hrel.out,HS.out,if_pos ha];rfl,I⟩
   cases h34:((c.toNat:Int)==34)
   rotate_left
   ·go_wp2_with (go_at_call 73;refine qmm (dz _ _) ?_)
    go_ret2
    exact⟨by rw[hrel.out,HS.out,if_neg (by simp[ha]),if_pos<|dQ (m:=34) h34];rfl,rfl⟩
   cases h92:((c.toNat:Int)==92)
   rotate_left
   ·go_wp2_with (go_at_call 73;refine qmm (dz _ _) ?_)
    go_ret2
    exact⟨by rw[hrel.out,HS.out,if_neg (by simp[ha]),if_neg<|cy (m:=34) h34,if_pos<|.inl<|dQ (m:=92) h92];rfl,rfl⟩
   by_cases h32:(c.toNat:Int)<32
   ·go_wp2_with (go_at_call 73;refine qmm (dz _ _) ?_)
    go_ret2
    exact⟨by rw[hrel.out,HS.out,if_neg (by simp[ha]),if_neg<|cy (m:=34) h34,if_pos<|.inr<|by omega];rfl,rfl⟩
   ·go_wp2_with (go_at_call 73;refine qmm (dz _ _) ?_)
    go_light
    go_round
    case rel=>exact⟨k+1,by omega,by go_num,Lib.hid<|by rw[hrel.out,HS.out,if_neg (by simp[ha]),if_neg<|cy (m:=34) h34,if_neg (by have :=cy (m:=92) h92;omega)]⟩
    case measure=>simp[intOf];omega
  ·go_wp2_with (go_at_call 73;refine qmm (dz _ _) ?_)
   go_ret2
   exact⟨by rw[hrel.out,Gx<|by omega];rfl,I⟩
set_option maxHeartbeats 4000000 in
theorem qO(l:YB)(w:World)(h0:0<l.length)(hl:l.length<=281474976710656):Calls prog 117 #[.string ⟨l.toArray⟩] w λe w'=>e=.returned (.tuple #[.int .i64 ((bO l).1:Nat),.int .i64 ((bO l).2.1:Nat),.int .i64 ((bO l).2.2:Nat)])∧w=w':=by
 obtain⟨n,hn⟩:∃n,spanN bc l=n:=⟨_,rfl⟩;have hnl:n<=l.length:=by have :=mH bc l;omega
 have HN:=Lib.hid hn;clear hn;obtain⟨O,hc0⟩:∃c,({data:=l.toArray}:ByteArray)[0]'h0=c:=⟨_,rfl⟩;have HC0:=Lib.hid<|show l[0]=O from hc0;have hx:=AA;have hx2:=sP
 go_enter func117,ntmps117
 go_wp2_with fail
 refine(gL _ _ hl).mono ?_;rintro e w' ⟨rfl,rfl⟩;rw[HN.out];cases hr:lG<|l.take n
 rotate_left
 ·cases hu:upperB O
  all_goals
   have HQ:=Lib.hid<|jT HN.out<|Kp HN.out hr;by_cases G:24<n
   ·skip
    have HW:=Lib.hid (show bO l=(0,0,3)from by rw[HQ.out,bM,if_pos G])
    go_wp2_with (first|(go_at_call 161;refine qmm (gL _ _ (by simp;omega)) ?_)|(go_at_call 162;refine qmm (cI _ _) ?_)|(go_at_call 160;refine qmm (eJ _ _) ?_)|(go_at_call 159;refine qmm (eP _ _) ?_)|(go_at_call 116;refine qmm (bN _ _) ?_))
    go_ret3
    exact⟨by rw[HW.out];rfl,I⟩
   ·skip
    have HW:=Lib.hid (show bO l=(7,n,0)from by rw[HQ.out,bM,if_neg G,if_pos hr])
    go_wp2_with (first|(go_at_call 161;refine qmm (gL _ _ (by simp;omega)) ?_)|(go_at_call 162;refine qmm (cI _ _) ?_)|(go_at_call 160;refine qmm (eJ _ _) ?_)|(go_at_call 159;refine qmm (eP _ _) ?_)|(go_at_call 116;refine qmm (bN _ _) ?_))
    go_ret3
    exact⟨by rw[HW.out];rfl,I⟩
 cases hu:upperB O
 ·skip
  have HQ:=Lib.hid<|jT HN.out<|Lu h0 HC0.out hu;by_cases G:24<n
  ·skip
   have HW:=Lib.hid (show bO l=(0,0,3)from by rw[HQ.out,bM,if_pos G])
   go_wp2_with (first|(go_at_call 161;refine qmm (gL _ _ (by simp;omega)) ?_)|(go_at_call 162;refine qmm (cI _ _) ?_)|(go_at_call 160;refine qmm (eJ _ _) ?_)|(go_at_call 159;refine qmm (eP _ _) ?_)|(go_at_call 116;refine qmm (bN _ _) ?_))
   go_ret3
   exact⟨by rw[HW.out];rfl,I⟩
  ·cases J:cR O
   ·skip
    have HW:=Lib.hid (show bO l=(2,n,0)from by rw[HQ.out,bM,if_neg G,if_neg (by simp[hr]),if_neg (by rw[aS h0 HC0.out];simp[J])])
    go_wp2_with (first|(go_at_call 161;refine qmm (gL _ _ (by simp;omega)) ?_)|(go_at_call 162;refine qmm (cI _ _) ?_)|(go_at_call 160;refine qmm (eJ _ _) ?_)|(go_at_call 159;refine qmm (eP _ _) ?_)|(go_at_call 116;refine qmm (bN _ _) ?_))
    go_ret3
    exact⟨by rw[HW.out];rfl,I⟩
   ·skip
    have HW:=Lib.hid (show bO l=(1,n,0)from by rw[HQ.out,bM,if_neg G,if_neg (by simp[hr]),if_pos (by rw[aS h0 HC0.out];exact J)])
    go_wp2_with (first|(go_at_call 161;refine qmm (gL _ _ (by simp;omega)) ?_)|(go_at_call 162;refine qmm (cI _ _) ?_)|(go_at_call 160;refine qmm (eJ _ _) ?_)|(go_at_call 159;refine qmm (eP _ _) ?_)|(go_at_call 116;refine qmm (bN _ _) ?_))
    go_ret3
    exact⟨by rw[HW.out];rfl,I⟩
 by_cases h2:n+1<l.length
 rotate_left
 ·have h2':¬((n:Int)+1<l.length):=by omega
  have HQ:=Lib.hid<|jT HN.out<|LX HN.out h2;by_cases G:24<n
  ·skip
   have HW:=Lib.hid (show bO l=(0,0,3)from by rw[HQ.out,bM,if_pos G])
   go_wp2_with (first|(go_at_call 161;refine qmm (gL _ _ (by simp;omega)) ?_)|(go_at_call 162;refine qmm (cI _ _) ?_)|(go_at_call 160;refine qmm (eJ _ _) ?_)|(go_at_call 159;refine qmm (eP _ _) ?_)|(go_at_call 116;refine qmm (bN _ _) ?_))
   go_ret3
   exact⟨by rw[HW.out];rfl,I⟩
  ·cases J:cR O
   ·skip
    have HW:=Lib.hid (show bO l=(2,n,0)from by rw[HQ.out,bM,if_neg G,if_neg (by simp[hr]),if_neg (by rw[aS h0 HC0.out];simp[J])])
    go_wp2_with (first|(go_at_call 161;refine qmm (gL _ _ (by simp;omega)) ?_)|(go_at_call 162;refine qmm (cI _ _) ?_)|(go_at_call 160;refine qmm (eJ _ _) ?_)|(go_at_call 159;refine qmm (eP _ _) ?_)|(go_at_call 116;refine qmm (bN _ _) ?_))
    go_ret3
    exact⟨by rw[HW.out];rfl,I⟩
   ·skip
    have HW:=Lib.hid (show bO l=(1,n,0)from by rw[HQ.out,bM,if_neg G,if_neg (by simp[hr]),if_pos (by rw[aS h0 HC0.out];exact J)])
    go_wp2_with (first|(go_at_call 161;refine qmm (gL _ _ (by simp;omega)) ?_)|(go_at_call 162;refine qmm (cI _ _) ?_)|(go_at_call 160;refine qmm (eJ _ _) ?_)|(go_at_call 159;refine qmm (eP _ _) ?_)|(go_at_call 116;refine qmm (bN _ _) ?_))
    go_ret3
    exact⟨by rw[HW.out];rfl,I⟩
 have hn1:n<l.length:=by omega
 obtain⟨c1,hc1⟩:∃c,({data:=l.toArray}:ByteArray)[n]'hn1=c:=⟨_,rfl⟩;have HC1:=Lib.hid<|show l[n]=c1 from hc1;obtain⟨c2,hc2⟩:∃c,({data:=l.toArray}:ByteArray)[n+1]'h2=c:=⟨_,rfl⟩;have HC2:=Lib.hid<|show l[n+1]=c2 from hc2;cases h46:((c1.toNat:Int)==46)
 ·skip
  have HQ:=Lib.hid<|jT HN.out<|LG HN.out hn1 HC1.out h46;by_cases G:24<n
  ·skip
   have HW:=Lib.hid (show bO l=(0,0,3)from by rw[HQ.out,bM,if_pos G])
   go_wp2_with (first|(go_at_call 161;refine qmm (gL _ _ (by simp;omega)) ?_)|(go_at_call 162;refine qmm (cI _ _) ?_)|(go_at_call 160;refine qmm (eJ _ _) ?_)|(go_at_call 159;refine qmm (eP _ _) ?_)|(go_at_call 116;refine qmm (bN _ _) ?_))
   go_ret3
   exact⟨by rw[HW.out];rfl,I⟩
  ·cases J:cR O
   ·skip
    have HW:=Lib.hid (show bO l=(2,n,0)from by rw[HQ.out,bM,if_neg G,if_neg (by simp[hr]),if_neg (by rw[aS h0 HC0.out];simp[J])])
    go_wp2_with (first|(go_at_call 161;refine qmm (gL _ _ (by simp;omega)) ?_)|(go_at_call 162;refine qmm (cI _ _) ?_)|(go_at_call 160;refine qmm (eJ _ _) ?_)|(go_at_call 159;refine qmm (eP _ _) ?_)|(go_at_call 116;refine qmm (bN _ _) ?_))
    go_ret3
    exact⟨by rw[HW.out];rfl,I⟩
   ·skip
    have HW:=Lib.hid (show bO l=(1,n,0)from by rw[HQ.out,bM,if_neg G,if_neg (by simp[hr]),if_pos (by rw[aS h0 HC0.out];exact J)])
    go_wp2_with (first|(go_at_call 161;refine qmm (gL _ _ (by simp;omega)) ?_)|(go_at_call 162;refine qmm (cI _ _) ?_)|(go_at_call 160;refine qmm (eJ _ _) ?_)|(go_at_call 159;refine qmm (eP _ _) ?_)|(go_at_call 116;refine qmm (bN _ _) ?_))
    go_ret3
    exact⟨by rw[HW.out];rfl,I⟩
 cases h3:bB c2
 ·skip
  have HQ:=Lib.hid<|jT HN.out<|KS HN.out h2 HC2.out h3;by_cases G:24<n
  ·skip
   have HW:=Lib.hid (show bO l=(0,0,3)from by rw[HQ.out,bM,if_pos G])
   go_wp2_with (first|(go_at_call 161;refine qmm (gL _ _ (by simp;omega)) ?_)|(go_at_call 162;refine qmm (cI _ _) ?_)|(go_at_call 160;refine qmm (eJ _ _) ?_)|(go_at_call 159;refine qmm (eP _ _) ?_)|(go_at_call 116;refine qmm (bN _ _) ?_))
   go_ret3
   exact⟨by rw[HW.out];rfl,I⟩
  ·cases J:cR O
   ·skip
    have HW:=Lib.hid (show bO l=(2,n,0)from by rw[HQ.out,bM,if_neg G,if_neg (by simp[hr]),if_neg (by rw[aS h0 HC0.out];simp[J])])
    go_wp2_with (first|(go_at_call 161;refine qmm (gL _ _ (by simp;omega)) ?_)|(go_at_call 162;refine qmm (cI _ _) ?_)|(go_at_call 160;refine qmm (eJ _ _) ?_)|(go_at_call 159;refine qmm (eP _ _) ?_)|(go_at_call 116;refine qmm (bN _ _) ?_))
    go_ret3
    exact⟨by rw[HW.out];rfl,I⟩
   ·skip
    have HW:=Lib.hid (show bO l=(1,n,0)from by rw[HQ.out,bM,if_neg G,if_neg (by simp[hr]),if_pos (by rw[aS h0 HC0.out];exact J)])
    go_wp2_with (first|(go_at_call 161;refine qmm (gL _ _ (by simp;omega)) ?_)|(go_at_call 162;refine qmm (cI _ _) ?_)|(go_at_call 160;refine qmm (eJ _ _) ?_)|(go_at_call 159;refine qmm (eP _ _) ?_)|(go_at_call 116;refine qmm (bN _ _) ?_))
    go_ret3
    exact⟨by rw[HW.out];rfl,I⟩
 obtain⟨m,hm⟩:∃m,spanN bc (l.drop (n+1))=m:=⟨_,rfl⟩;have hml:n+1+m<=l.length:=by have :=mH bc<|l.drop<|n+1;simp at this;omega
 have HM:=Lib.hid hm;have HQ:=Lib.hid<|CQ HN.out hm<|DU HN.out h0 HC0.out hu hr h2 hn1 HC1.out h46 HC2.out h3;by_cases G:24<n
 ·skip
  have HW:=Lib.hid (show bO l=(0,0,3)from by rw[HQ.out,dx,if_pos<|.inl G])
  go_wp2_with (first|(go_at_call 161;refine qmm (gL _ _ (by simp;omega)) ?_)|(go_at_call 162;refine qmm (cI _ _) ?_)|(go_at_call 160;refine qmm (eJ _ _) ?_)|(go_at_call 159;refine qmm (eP _ _) ?_)|(go_at_call 116;refine qmm (bN _ _) ?_))
  go_ret3
  exact⟨by rw[HW.out];rfl,I⟩
 by_cases h24m:24<m
 ·skip
  have HW:=Lib.hid (show bO l=(0,0,3)from by rw[HQ.out,dx,if_pos<|.inr h24m])
  go_wp2_with (first|(go_at_call 161;refine qmm (gL _ _ (by simp;omega)) ?_)|(go_at_call 162;refine qmm (cI _ _) ?_)|(go_at_call 160;refine qmm (eJ _ _) ?_)|(go_at_call 159;refine qmm (eP _ _) ?_)|(go_at_call 116;refine qmm (bN _ _) ?_))
  go_ret3
  exact⟨by rw[HW.out];rfl,I⟩
 have he:n+1+m-(n+1)=m:=by omega
 cases Z:lG ((l.drop (n+1)).take m)
 rotate_left
 ·skip
  have HW:=Lib.hid (show bO l=(0,0,2)from by rw[HQ.out,dx,if_neg (by omega),if_pos Z])
  go_wp2_with (first|(go_at_call 161;refine qmm (gL _ _ (by simp;omega)) ?_)|(go_at_call 162;refine qmm (cI _ _) ?_)|(go_at_call 160;refine qmm (eJ _ _) ?_)|(go_at_call 159;refine qmm (eP _ _) ?_)|(go_at_call 116;refine qmm (bN _ _) ?_))
  go_ret3
  exact⟨by rw[HW.out];rfl,I⟩
 cases J:cR c2
 ·skip
  have HW:=Lib.hid (show bO l=(4,n+1+m,0)from by rw[HQ.out,dx,if_neg (by omega),if_neg (by simp[Z]),if_neg (by rw[aS h2 HC2.out];simp[J])])
  go_wp2_with (first|(go_at_call 161;refine qmm (gL _ _ (by simp;omega)) ?_)|(go_at_call 162;refine qmm (cI _ _) ?_)|(go_at_call 160;refine qmm (eJ _ _) ?_)|(go_at_call 159;refine qmm (eP _ _) ?_)|(go_at_call 116;refine qmm (bN _ _) ?_))
  go_ret3
  exact⟨by rw[HW.out];rfl,I⟩
 ·skip
  have HW:=Lib.hid (show bO l=(3,n+1+m,0)from by rw[HQ.out,dx,if_neg (by omega),if_neg (by simp[Z]),if_pos (by rw[aS h2 HC2.out];exact J)])
  go_wp2_with (first|(go_at_call 161;refine qmm (gL _ _ (by simp;omega)) ?_)|(go_at_call 162;refine qmm (cI _ _) ?_)|(go_at_call 160;refine qmm (eJ _ _) ?_)|(go_at_call 159;refine qmm (eP _ _) ?_)|(go_at_call 116;refine qmm (bN _ _) ?_))
  go_ret3
  exact⟨by rw[HW.out];rfl,I⟩
end Go.Proofs.YthnohcipianijaaGreatDoor
namespace Go.Proofs.YthnohcipianijaaGreatDoor.Lx
def jm(l:YB):Nat:=if bB (l.getD 0 0)=true then spanN bc l else 0
def signLen(l:YB):Nat:=
 if(l.getD 0 0).toNat=61 then(if 1<l.length∧(l.getD 1 0).toNat=61 then 2 else 1)
 else if([40,41,91,93,58,44,43,45,42,60,63]:YN).contains (l.getD 0 0).toNat=true then 1 else 0
theorem yZ(l:YB)(k:Nat):(l.drop k).getD 0 0=l.getD k 0:=by simp[List.getD]
theorem Ki(l:YB)(k:Nat):(l.drop k).getD 1 0=l.getD (k+1) 0:=by simp[List.getD]
variable{l:YB}{k:Nat}
theorem JK{c:UInt8}(h:k<l.length)(G:l[k]=c):
  signLen (l.drop k)=if c.toNat=61 then(if k+1<l.length∧(l.getD (k+1) 0).toNat=61 then 2 else 1)
   else if([40,41,91,93,58,44,43,45,42,60,63]:YN).contains c.toNat=true then 1 else 0:=by
 unfold signLen;rw[yZ,Ki,aS h G,aal];by_cases h2:k+1<l.length
 ·have h1:1<l.length-k:=by omega
  simp only[h1,h2]
 ·have h1:¬1<l.length-k:=by omega
  simp only[h1,h2]
theorem Fq{c:UInt8}(h:bB c=true)(G:upperB c=false):cR c=true:=by simpa[bB,G]using h
theorem uW{c:UInt8}(G:upperB c=true):cR c=false:=by simp[upperB,cR]at *;omega
theorem Ir{j:Nat}{c:UInt8}(h:k<l.length)(G:l[k]=c):
  quotedT (l.drop k) j=if be c=false then(j,1)else if c.toNat=34 then(j+1,0)else if c.toNat=92∨c.toNat<32 then(0,2)else quotedT (l.drop<|k+1) (j+1):=by
 rw[aam h,G];rfl
theorem Ch{j:Nat}(h:l.length<=k):quotedT (l.drop k) j=(0,2):=by rw[List.drop_of_length_le h];rfl
theorem IB{c:UInt8}(J:be c=true)(G:eu c=false):c.toNat<32:=by simp[be,G,ct]at J;simp[eu]at G;omega
theorem Jb{c:UInt8}(G:eu c=true):¬c.toNat<32:=by simp[eu]at G;omega
theorem Dv{c:UInt8}(h:c.toNat=34):be c=true:=by simp[be,eu,h]
theorem Lr(l:YB):(if(l.getD 0 0).toNat=61∧1<l.length∧(l.getD 1 0).toNat=61 then((8,2,0):Nat×Nat×Nat)else if sk.contains (l.getD 0 0)=true then(8,1,0)else(0,0,2))=
  if signLen l=0 then(0,0,2)else(8,signLen l,0):=by
 unfold signLen;generalize l.getD 0 0=c;generalize l.getD 1 0=d;by_cases G:c.toNat=61
 ·have J:c=61:=by apply UInt8.toNat_inj.1;simpa using G
  subst J;by_cases h2:1<l.length∧d.toNat=61
  ·simp[h2]
  ·simp[h2,sk]
 ·have :sk.contains c=([40,41,91,93,58,44,43,45,42,60,63]:YN).contains c.toNat:=by
   simp only[sk,List.contains_cons,List.contains_nil,Bool.or_false];have h:∀n:UInt8,(c==n)=(c.toNat==n.toNat):=λn=>by rw[Bool.eq_iff_iff];simp[UInt8.toNat_inj]
   simp only[h];have :(c.toNat==(61:UInt8).toNat)=false:=by simpa using G
   rw[this];rfl
  rw[this];simp only[G,false_and,if_false];split<;>simp_all
end Go.Proofs.YthnohcipianijaaGreatDoor.Lx
namespace Go.Proofs.YthnohcipianijaaGreatDoor
open _root_.Go.Proofs.Tryz
open Go.RowKit Lx
set_option maxRecDepth 100000
set_option maxHeartbeats 1000000 in
theorem km(l:YB)(x:Int)(k:Nat)(hx:x=k)(w:World)(hk:k<=l.length)(hl:l.length<=281474976710656):Calls prog 212 #[.string ⟨l.toArray⟩,.int .i64 x] w λe w'=>e=.returned (.int .i64 (jm (l.drop k):Nat))∧w=w':=by
 subst hx;by_cases hlt:k<l.length
 rotate_left
 ·have HR:=Lib.hid (show jm (l.drop k)=0 from by rw[List.drop_of_length_le<|by omega];rfl);have hge:(l.length:Int)<=k:=by omega
  go_enter func212,ntmps212
  go_wp2_with (first|(go_at_call 199;refine qmm (cG _ _) ?_)|(go_at_call 200;refine qmm (bq _ _) ?_)|(go_at_call 218;refine qmm (tw _ _) ?_))
  go_ret
  exact⟨bP (by rw[HR.out];rfl),I⟩
 obtain⟨c,hc⟩:∃c,({data:=l.toArray}:ByteArray)[k]'hlt=c:=⟨_,rfl⟩;have HC:=Lib.hid<|show l[k]=c from hc;have hge:decide (l.length<=k)=false:=by simp;omega
 have HG:=Lib.hid (show(l.drop k).getD 0 0=c from by rw[yZ];exact aS hlt HC.out);cases hlo:cR c<;>cases hup:upperB c
 ·have HR:=Lib.hid (show jm (l.drop k)=0 from by rw[jm,HG.out];simp[bB,hlo,hup])
  go_enter func212,ntmps212
  go_wp2_with (first|(go_at_call 199;refine qmm (cG _ _) ?_)|(go_at_call 200;refine qmm (bq _ _) ?_)|(go_at_call 218;refine qmm (tw _ _) ?_))
  go_ret
  exact⟨bP (by rw[HR.out];rfl),I⟩
 all_goals
  have HR:=Lib.hid (show jm (l.drop k)=spanN bc (l.drop k)from by rw[jm,HG.out];simp[bB,hlo,hup]);rw[HR.out];clear HR
  go_enter func212,ntmps212
  go_wp2_with (first|(go_at_call 199;refine qmm (cG _ _) ?_)|(go_at_call 200;refine qmm (bq _ _) ?_)|(go_at_call 218;refine qmm (tw _ _) ?_))
  go_loopg [5] (l.length-k) (λg n wx=>∃i:Nat,g=l.length-i∧wx=w∧k<=i∧i<=l.length∧n=.int .i64 i∧Hid (spanN bc (l.drop k)=i-k+spanN bc (l.drop i)))
  case atStart=>exact⟨k,rfl,rfl,aaf _,hk,rfl,Lib.hid<|by omega⟩
  case round=>
   obtain⟨i,rfl,rfl,hki,hil,rfl,hrel⟩:=hrel;by_cases hit:i<l.length
   ·skip
    obtain⟨d,hd⟩:∃c,({data:=l.toArray}:ByteArray)[i]'hit=c:=⟨_,rfl⟩;have HD:=Lib.hid<|show l[i]=d from hd;cases hwd:bc d
    ·go_wp2_with (first|(go_at_call 199;refine qmm (cG _ _) ?_)|(go_at_call 200;refine qmm (bq _ _) ?_)|(go_at_call 218;refine qmm (tw _ _) ?_))
     go_ret
     exact⟨bP (by rw[hrel.out,tk hit HD.out hwd];omega),I⟩
    ·go_wp2_with (first|(go_at_call 199;refine qmm (cG _ _) ?_)|(go_at_call 200;refine qmm (bq _ _) ?_)|(go_at_call 218;refine qmm (tw _ _) ?_))
     go_roundg (l.length-(i+1))
     case measure=>omega
     case rel=>exact⟨i+1,rfl,rfl,by omega,by omega,by go_num,Lib.hid (by rw[hrel.out,nd hit HD.out hwd];omega)⟩
   ·go_wp2_with (first|(go_at_call 199;refine qmm (cG _ _) ?_)|(go_at_call 200;refine qmm (bq _ _) ?_)|(go_at_call 218;refine qmm (tw _ _) ?_))
    go_ret
    exact⟨bP (by rw[hrel.out,uV<|by omega];omega),I⟩
set_option maxHeartbeats 2000000 in
theorem fK(l:YB)(x:Int)(k:Nat)(hx:x=k)(w:World)(hlt:k<l.length)(hl:l.length<=281474976710656):Calls prog 202 #[.string ⟨l.toArray⟩,.int .i64 x] w λe w'=>e=.returned (.int .i64 (signLen (l.drop k):Nat))∧w=w':=by
 subst hx;obtain⟨c,hc⟩:∃c,({data:=l.toArray}:ByteArray)[k]'hlt=c:=⟨_,rfl⟩;have HC:=Lib.hid<|show l[k]=c from hc;have HS:=Lib.hid<|JK hlt HC.out;cases G:((c.toNat:Int)==61)
 rotate_left
 ·by_cases h1:k+1<l.length
  ·have h1':(k:Int)+1<l.length:=by omega
   obtain⟨d,hd⟩:∃c,({data:=l.toArray}:ByteArray)[k+1]'h1=c:=⟨_,rfl⟩;have HD:=Lib.hid<|show l[k+1]=d from hd;cases J:((d.toNat:Int)==61)
   ·go_enter func202,ntmps202
    go_wp2
    go_ret
    exact⟨bP (by rw[HS.out,if_pos<|dQ (m:=61) G,if_neg λh=>cy (m:=61) J (by rw[<-aS h1 HD.out];exact h.2)];rfl),I⟩
   ·go_enter func202,ntmps202
    go_wp2
    go_ret
    exact⟨bP (by rw[HS.out,if_pos<|dQ (m:=61) G,if_pos ⟨h1,by rw[aS h1 HD.out];exact dQ (m:=61) J⟩];rfl),I⟩
  ·have h1':¬((k:Int)+1<l.length):=by omega
   go_enter func202,ntmps202
   go_wp2
   go_ret
   exact⟨bP (by rw[HS.out,if_pos<|dQ (m:=61) G,if_neg λh=>h1 h.1];rfl),I⟩
 cases O:((c.toNat:Int)==40)
 rotate_left
 ·go_enter func202,ntmps202
  go_wp2
  go_ret
  exact⟨bP (by rw[HS.out,if_neg<|cy (m:=61) G,if_pos<|by simp[dQ (m:=40) O]];rfl),rfl⟩
 cases Z:((c.toNat:Int)==41)
 rotate_left
 ·go_enter func202,ntmps202
  go_wp2
  go_ret
  exact⟨bP (by rw[HS.out,if_neg<|cy (m:=61) G,if_pos<|by simp[dQ (m:=41) Z]];rfl),rfl⟩
 cases h91:((c.toNat:Int)==91)
 rotate_left
 ·go_enter func202,ntmps202
  go_wp2
  go_ret
  exact⟨bP (by rw[HS.out,if_neg<|cy (m:=61) G,if_pos<|by simp[dQ (m:=91) h91]];rfl),rfl⟩
 cases h93:((c.toNat:Int)==93)
 rotate_left
 ·go_enter func202,ntmps202
  go_wp2
  go_ret
  exact⟨bP (by rw[HS.out,if_neg<|cy (m:=61) G,if_pos<|by simp[dQ (m:=93) h93]];rfl),rfl⟩
 cases h58:((c.toNat:Int)==58)
 rotate_left
 ·go_enter func202,ntmps202
  go_wp2
  go_ret
  exact⟨bP (by rw[HS.out,if_neg<|cy (m:=61) G,if_pos<|by simp[dQ (m:=58) h58]];rfl),rfl⟩
 cases h44:((c.toNat:Int)==44)
 rotate_left
 ·go_enter func202,ntmps202
  go_wp2
  go_ret
  exact⟨bP (by rw[HS.out,if_neg<|cy (m:=61) G,if_pos<|by simp[dQ (m:=44) h44]];rfl),rfl⟩
 cases h43:((c.toNat:Int)==43)
 rotate_left
 ·go_enter func202,ntmps202
  go_wp2
  go_ret
  exact⟨bP (by rw[HS.out,if_neg<|cy (m:=61) G,if_pos<|by simp[dQ (m:=43) h43]];rfl),rfl⟩
 cases h45:((c.toNat:Int)==45)
 rotate_left
 ·go_enter func202,ntmps202
  go_wp2
  go_ret
  exact⟨bP (by rw[HS.out,if_neg<|cy (m:=61) G,if_pos<|by simp[dQ (m:=45) h45]];rfl),rfl⟩
 cases h42:((c.toNat:Int)==42)
 rotate_left
 ·go_enter func202,ntmps202
  go_wp2
  go_ret
  exact⟨bP (by rw[HS.out,if_neg<|cy (m:=61) G,if_pos<|by simp[dQ (m:=42) h42]];rfl),rfl⟩
 cases h60:((c.toNat:Int)==60)
 rotate_left
 ·go_enter func202,ntmps202
  go_wp2
  go_ret
  exact⟨bP (by rw[HS.out,if_neg<|cy (m:=61) G,if_pos<|by simp[dQ (m:=60) h60]];rfl),rfl⟩
 cases h63:((c.toNat:Int)==63)
 rotate_left
 ·go_enter func202,ntmps202
  go_wp2
  go_ret
  exact⟨bP (by rw[HS.out,if_neg<|cy (m:=61) G,if_pos<|by simp[dQ (m:=63) h63]];rfl),rfl⟩
 go_enter func202,ntmps202
 go_wp2
 go_ret
 exact⟨bP (by rw[HS.out,if_neg<|cy (m:=61) G,if_neg<|by simp[cy (m:=40) O,cy (m:=41) Z,cy (m:=91) h91,cy (m:=93) h93,cy (m:=58) h58,cy (m:=44) h44,cy (m:=43) h43,cy (m:=45) h45,cy (m:=42) h42,cy (m:=60) h60,cy (m:=63) h63]];rfl),rfl⟩
def oI(G:Nat)(t:Nat×Nat×Nat):Value:=
 if t.2.2=0 then .agg #[.int .i64 (t.2.1:Nat),.int .i64 (t.1:Nat),.int .i64 0,.int .i64 0]else .agg #[.int .i64 0,.int .i64 0,.int .i64 (t.2.2:Nat),.int .i64 ((G+t.2.1:Nat):Int)]
def wK(G:Nat)(t:Nat×Nat×Nat)(w:World)(e:Ending)(w':World):Prop:=e=.returned (oI G t)∧Ext w w'
variable{n k:Nat}{w':World}
theorem iD{G:Nat}{t:Nat×Nat×Nat}{w:World}{x y:Int}(h:t=(k,n,0))(hx:x=n)(hy:y=k)(J:Ext w w'):wK G t w (.returned<|.agg #[.int .i64 x,.int .i64 y,.int .i64 0,.int .i64 0]) w':=by subst h;subst hx;subst hy;exact⟨rfl,J⟩
theorem dm{G e:Nat}{t:Nat×Nat×Nat}{w:World}{x y:Int}(h:t=(k,n,e))(J:¬e=0)(hx:x=e)(hy:y=((G+n:Nat):Int))(O:Ext w w'):wK G t w (.returned<|.agg #[.int .i64 0,.int .i64 0,.int .i64 x,.int .i64 y]) w':=by subst h;subst hx;subst hy;exact⟨by simp only[oI,if_neg J],O⟩
set_option maxHeartbeats 4000000 in
theorem RL(l:YB)(x:Int)(k:Nat)(hxk:x=k)(w:World)(hlt:k<l.length)(hle:bB (l[k]'hlt)=true)(J:l.length<=281474976710656):Calls prog 201 #[.string ⟨l.toArray⟩,.int .i64 x] w (wK k (bO<|l.drop k) w):=by
 subst hxk;obtain⟨T,O⟩:∃T,bO (l.drop k)=T:=⟨_,rfl⟩;rw[O];have h0:0<(l.drop k).length:=by simp;omega
 obtain⟨c0,hc0⟩:∃c,({data:=l.toArray}:ByteArray)[k]'hlt=c:=⟨_,rfl⟩;have HCk:=Lib.hid<|show l[k]=c0 from hc0;have HC0:=Lib.hid (show(l.drop k)[0]=c0 from by rw[List.getElem_drop];exact hc0);have HL0:=Lib.hid<|show bB c0=true from hc0▸hle;obtain⟨n,hn⟩:∃n,spanN bc (l.drop k)=n:=⟨_,rfl⟩;have hnl:k+n<=l.length:=by have :=mH bc<|l.drop k;simp at this;omega
 have HN:=Lib.hid hn;have HW0:=Lib.hid (show jm (l.drop k)=n from by rw[jm,aS h0 HC0.out,if_pos HL0.out];exact hn);clear hn hle;obtain⟨E,hE⟩:∃E,k+n=E:=⟨_,rfl⟩;have hE1:(k:Int)+n=(E:Nat):=by omega
 have hE2:E-k=n:=by omega
 have hE3:E<=l.length:=by omega
 have hkE:k<=E:=by omega
 have HE:=Lib.hid hE;clear hE;have hx:=AA;have hx2:=sP
 go_enter func201,ntmps201
 go_wp2_with fail
 refine(km _ _ k I _ (by omega) J).mono ?_;rintro e w' ⟨rfl,rfl⟩;rw[HW0.out];cases hr:lG<|(l.drop k).take n
 rotate_left
 ·cases hu:upperB c0
  all_goals
   have HQ:=Lib.hid<|jT HN.out<|Kp HN.out hr;by_cases G:24<n
   ·skip
    have HW:=Lib.hid (show T=(0,0,3)from by rw[<-O,HQ.out,bM,if_pos G])
    go_wp2_with (first|(go_at_call 200;refine qmm (bq _ _) ?_)|(go_at_call 213;refine qmm (dA _ _) ?_)|(go_at_call 212;refine qmm (km _ _ (E+1) (by omega) _ (by omega) J) ?_))
    exact bodyPost_ret (v:=.agg #[.int .i64 0,.int .i64 0,.int .i64 3,.int .i64 k]) (by simp[results,results201,go_sem]) rfl (dm HW.out (by omega) (by omega) (by omega) qEx)
   ·skip
    have HW:=Lib.hid (show T=(7,n,0)from by rw[<-O,HQ.out,bM,if_neg G,if_pos hr])
    go_wp2_with (first|(go_at_call 200;refine qmm (bq _ _) ?_)|(go_at_call 213;refine qmm (dA _ _) ?_)|(go_at_call 212;refine qmm (km _ _ (E+1) (by omega) _ (by omega) J) ?_))
    exact bodyPost_ret (v:=.agg #[.int .i64 n,.int .i64 7,.int .i64 0,.int .i64 0]) (by simp[results,results201,go_sem]) rfl (iD HW.out (by omega) (by omega) qEx)
 cases hu:upperB c0
 ·skip
  have HQ:=Lib.hid<|jT HN.out<|Lu h0 HC0.out hu;by_cases G:24<n
  ·skip
   have HW:=Lib.hid (show T=(0,0,3)from by rw[<-O,HQ.out,bM,if_pos G])
   go_wp2_with (first|(go_at_call 200;refine qmm (bq _ _) ?_)|(go_at_call 213;refine qmm (dA _ _) ?_)|(go_at_call 212;refine qmm (km _ _ (E+1) (by omega) _ (by omega) J) ?_))
   exact bodyPost_ret (v:=.agg #[.int .i64 0,.int .i64 0,.int .i64 3,.int .i64 k]) (by simp[results,results201,go_sem]) rfl (dm HW.out (by omega) (by omega) (by omega) qEx)
  ·skip
   have HW:=Lib.hid (show T=(1,n,0)from by rw[<-O,HQ.out,bM,if_neg G,if_neg (by simp[hr]),if_pos (by rw[aS h0 HC0.out];exact Fq HL0.out hu)])
   go_wp2_with (first|(go_at_call 200;refine qmm (bq _ _) ?_)|(go_at_call 213;refine qmm (dA _ _) ?_)|(go_at_call 212;refine qmm (km _ _ (E+1) (by omega) _ (by omega) J) ?_))
   exact bodyPost_ret (v:=.agg #[.int .i64 n,.int .i64 1,.int .i64 0,.int .i64 0]) (by simp[results,results201,go_sem]) rfl (iD HW.out (by omega) (by omega) qEx)
 by_cases h2:E+1<l.length
 rotate_left
 ·have h2':¬((E:Int)+1<l.length):=by omega
  have HQ:=Lib.hid (jT HN.out<|LX HN.out (by have :=HE.out;simp;omega));by_cases G:24<n
  ·skip
   have HW:=Lib.hid (show T=(0,0,3)from by rw[<-O,HQ.out,bM,if_pos G])
   go_wp2_with (first|(go_at_call 200;refine qmm (bq _ _) ?_)|(go_at_call 213;refine qmm (dA _ _) ?_)|(go_at_call 212;refine qmm (km _ _ (E+1) (by omega) _ (by omega) J) ?_))
   exact bodyPost_ret (v:=.agg #[.int .i64 0,.int .i64 0,.int .i64 3,.int .i64 k]) (by simp[results,results201,go_sem]) rfl (dm HW.out (by omega) (by omega) (by omega) qEx)
  ·skip
   have HW:=Lib.hid (show T=(2,n,0)from by rw[<-O,HQ.out,bM,if_neg G,if_neg (by simp[hr]),if_neg (by rw[aS h0 HC0.out];simp[uW hu])])
   go_wp2_with (first|(go_at_call 200;refine qmm (bq _ _) ?_)|(go_at_call 213;refine qmm (dA _ _) ?_)|(go_at_call 212;refine qmm (km _ _ (E+1) (by omega) _ (by omega) J) ?_))
   exact bodyPost_ret (v:=.agg #[.int .i64 n,.int .i64 2,.int .i64 0,.int .i64 0]) (by simp[results,results201,go_sem]) rfl (iD HW.out (by omega) (by omega) qEx)
 have hn1:E<l.length:=by omega
 obtain⟨c1,hc1⟩:∃c,({data:=l.toArray}:ByteArray)[E]'hn1=c:=⟨_,rfl⟩;have HC1a:=Lib.hid<|show l[E]=c1 from hc1;obtain⟨c2,hc2⟩:∃c,({data:=l.toArray}:ByteArray)[E+1]'h2=c:=⟨_,rfl⟩;have HC2a:=Lib.hid<|show l[E+1]=c2 from hc2;have hnl1:n<(l.drop k).length:=by have :=HE.out;simp;omega
 have Z:n+1<(l.drop k).length:=by have :=HE.out;simp;omega
 have HC1:=Lib.hid (show(l.drop k)[n]=c1 from by rw[List.getElem_drop];simp only[HE.out];exact hc1);have HC2:=Lib.hid (show(l.drop k)[n+1]=c2 from by rw[List.getElem_drop];simp only[<-aav,HE.out];exact hc2);have HGE:=Lib.hid (show(l.drop<|E+1).getD 0 0=c2 from by rw[yZ];exact aS h2 HC2a.out);cases h46:((c1.toNat:Int)==46)
 ·skip
  have HQ:=Lib.hid<|jT HN.out<|LG HN.out hnl1 HC1.out h46;by_cases G:24<n
  ·skip
   have HW:=Lib.hid (show T=(0,0,3)from by rw[<-O,HQ.out,bM,if_pos G])
   go_wp2_with (first|(go_at_call 200;refine qmm (bq _ _) ?_)|(go_at_call 213;refine qmm (dA _ _) ?_)|(go_at_call 212;refine qmm (km _ _ (E+1) (by omega) _ (by omega) J) ?_))
   exact bodyPost_ret (v:=.agg #[.int .i64 0,.int .i64 0,.int .i64 3,.int .i64 k]) (by simp[results,results201,go_sem]) rfl (dm HW.out (by omega) (by omega) (by omega) qEx)
  ·skip
   have HW:=Lib.hid (show T=(2,n,0)from by rw[<-O,HQ.out,bM,if_neg G,if_neg (by simp[hr]),if_neg (by rw[aS h0 HC0.out];simp[uW hu])])
   go_wp2_with (first|(go_at_call 200;refine qmm (bq _ _) ?_)|(go_at_call 213;refine qmm (dA _ _) ?_)|(go_at_call 212;refine qmm (km _ _ (E+1) (by omega) _ (by omega) J) ?_))
   exact bodyPost_ret (v:=.agg #[.int .i64 n,.int .i64 2,.int .i64 0,.int .i64 0]) (by simp[results,results201,go_sem]) rfl (iD HW.out (by omega) (by omega) qEx)
 cases h3:bB c2
 ·have hm:jm (l.drop<|E+1)=0:=by rw[jm,HGE.out];simp[h3]
  have HQ:=Lib.hid<|jT HN.out<|KS HN.out Z HC2.out h3;by_cases G:24<n
  ·skip
   have HW:=Lib.hid (show T=(0,0,3)from by rw[<-O,HQ.out,bM,if_pos G])
   go_wp2_with (first|(go_at_call 200;refine qmm (bq _ _) ?_)|(go_at_call 213;refine qmm (dA _ _) ?_)|(go_at_call 212;refine qmm (km _ _ (E+1) (by omega) _ (by omega) J) ?_))
   exact bodyPost_ret (v:=.agg #[.int .i64 0,.int .i64 0,.int .i64 3,.int .i64 k]) (by simp[results,results201,go_sem]) rfl (dm HW.out (by omega) (by omega) (by omega) qEx)
  ·skip
   have HW:=Lib.hid (show T=(2,n,0)from by rw[<-O,HQ.out,bM,if_neg G,if_neg (by simp[hr]),if_neg (by rw[aS h0 HC0.out];simp[uW hu])])
   go_wp2_with (first|(go_at_call 200;refine qmm (bq _ _) ?_)|(go_at_call 213;refine qmm (dA _ _) ?_)|(go_at_call 212;refine qmm (km _ _ (E+1) (by omega) _ (by omega) J) ?_))
   exact bodyPost_ret (v:=.agg #[.int .i64 n,.int .i64 2,.int .i64 0,.int .i64 0]) (by simp[results,results201,go_sem]) rfl (iD HW.out (by omega) (by omega) qEx)
 obtain⟨m,hm⟩:∃m,jm (l.drop (E+1))=m:=⟨_,rfl⟩;have HM:=Lib.hid (show spanN bc (l.drop<|E+1)=m from by rw[<-hm,jm,HGE.out,if_pos h3]);have hm0:0<m:=by have h:=yu (p:=bc) (l:=l.drop<|E+1) (by simp;omega) (by rw[HGE.out];simp[bc,h3]);rw[HM.out]at h;exact h
 have hml:E+1+m<=l.length:=by have h:=mH bc<|l.drop<|E+1;rw[HM.out]at h;simp at h;omega
 have he:E+1+m-(E+1)=m:=by omega
 have hsl:0<((l.drop<|E+1).take m).length:=by simp;omega
 have hs0:({data:=((l.drop<|E+1).take m).toArray}:ByteArray)[0]'hsl=c2:=by
  show((l.drop<|E+1).take m)[0]=c2;rw[List.getElem_take,List.getElem_drop];exact hc2
 have HQ:=Lib.hid (CQ (m:=m) HN.out (by have h:=HM.out;rw[<-HE.out]at h;rw[List.drop_drop];exact h)<|DU HN.out h0 HC0.out hu hr Z hnl1 HC1.out h46 HC2.out h3);have HDD:=Lib.hid (show((l.drop k).drop<|n+1).take m=(l.drop<|E+1).take m from by rw[List.drop_drop,<-HE.out,aav]);cases hu2:upperB c2
 all_goals
  by_cases G:24<n
  ·skip
   have HW:=Lib.hid (show T=(0,0,3)from by rw[<-O,HQ.out,dx,if_pos<|.inl G])
   go_wp2_with (first|(go_at_call 200;refine qmm (bq _ _) ?_)|(go_at_call 213;refine qmm (dA _ _) ?_)|(go_at_call 212;refine qmm (km _ _ (E+1) (by omega) _ (by omega) J) ?_))
   exact bodyPost_ret (v:=.agg #[.int .i64 0,.int .i64 0,.int .i64 3,.int .i64 k]) (by simp[results,results201,go_sem]) rfl (dm HW.out (by omega) (by omega) (by omega) qEx)
  by_cases h24m:24<m
  ·skip
   have HW:=Lib.hid (show T=(0,0,3)from by rw[<-O,HQ.out,dx,if_pos<|.inr h24m])
   go_wp2_with (first|(go_at_call 200;refine qmm (bq _ _) ?_)|(go_at_call 213;refine qmm (dA _ _) ?_)|(go_at_call 212;refine qmm (km _ _ (E+1) (by omega) _ (by omega) J) ?_))
   exact bodyPost_ret (v:=.agg #[.int .i64 0,.int .i64 0,.int .i64 3,.int .i64 k]) (by simp[results,results201,go_sem]) rfl (dm HW.out (by omega) (by omega) (by omega) qEx)
  cases hr2:lG ((l.drop (E+1)).take m)
  rotate_left
  ·skip
   have HW:=Lib.hid (show T=(0,0,2)from by rw[<-O,HQ.out,dx,if_neg (by omega),if_pos (by rw[HDD.out];exact hr2)])
   go_wp2_with (first|(go_at_call 200;refine qmm (bq _ _) ?_)|(go_at_call 213;refine qmm (dA _ _) ?_)|(go_at_call 212;refine qmm (km _ _ (E+1) (by omega) _ (by omega) J) ?_))
   exact bodyPost_ret (v:=.agg #[.int .i64 0,.int .i64 0,.int .i64 2,.int .i64 k]) (by simp[results,results201,go_sem]) rfl (dm HW.out (by omega) (by omega) (by omega) qEx)
  first
  |have HW:=Lib.hid (show T=(3,n+1+m,0)from by rw[<-O,HQ.out,dx,if_neg (by omega),if_neg (by rw[HDD.out];simp[hr2]),if_pos (by rw[aS Z HC2.out];exact Fq h3 hu2)])
   go_wp2_with (first|(go_at_call 200;refine qmm (bq _ _) ?_)|(go_at_call 213;refine qmm (dA _ _) ?_)|(go_at_call 212;refine qmm (km _ _ (E+1) (by omega) _ (by omega) J) ?_))
   exact bodyPost_ret (v:=.agg #[.int .i64<|n+1+m,.int .i64 3,.int .i64 0,.int .i64 0]) (by simp[results,results201,go_sem]) rfl (iD HW.out (by omega) (by omega) qEx)
  |have HW:=Lib.hid (show T=(4,n+1+m,0)from by rw[<-O,HQ.out,dx,if_neg (by omega),if_neg (by rw[HDD.out];simp[hr2]),if_neg (by rw[aS Z HC2.out];simp[uW hu2])])
   go_wp2_with (first|(go_at_call 200;refine qmm (bq _ _) ?_)|(go_at_call 213;refine qmm (dA _ _) ?_)|(go_at_call 212;refine qmm (km _ _ (E+1) (by omega) _ (by omega) J) ?_))
   exact bodyPost_ret (v:=.agg #[.int .i64<|n+1+m,.int .i64 4,.int .i64 0,.int .i64 0]) (by simp[results,results201,go_sem]) rfl (iD HW.out (by omega) (by omega) qEx)
theorem It(G:Nat)(t:Nat×Nat×Nat):∃a b c d:Int,oI G t=.agg #[.int .i64 a,.int .i64 b,.int .i64 c,.int .i64 d]:=by unfold oI;split<;>exact⟨_,_,_,_,rfl⟩
abbrev Dm:Obj:=.cells #[.int .i64 0,.int .i64 0,.int .i64 0,.int .i64 0] 218
set_option maxHeartbeats 4000000 in
theorem Ok (l:List UInt8) (x:Int) (k:Nat) (hxk:x=k) (w:World) (hlt:k<l.length) (hl:l.length<=281474976710656):Calls prog 175 #[.string ⟨l.toArray⟩,.int .i64 x] w (wK k (tokenT<|l.drop k) w):=by
 subst hxk;obtain⟨T,hT⟩:∃T,tokenT (l.drop k)=T:=⟨_,rfl⟩;rw[hT];have h0:0<(l.drop k).length:=by simp;omega
 obtain⟨c,hc⟩:∃c,({data:=l.toArray}:ByteArray)[k]'hlt=c:=⟨_,rfl⟩;have HC:=Lib.hid<|show l[k]=c from hc;have HC0:=Lib.hid (show(l.drop k)[0]=c from by rw[List.getElem_drop];exact hc);have HT:=Lib.hid<|(yH h0 HC0.out).symm.trans hT;clear hT
 go_enter func175,ntmps175
 cases ha:be c
 ·skip
  have HW:=Lib.hid (show T=(0,0,1)from by rw[<-HT.out,if_pos ha])
  go_wp2_with (first|(go_at_call 196;refine qmm (bx _ _) ?_)|(go_at_call 197;refine qmm (cm _ _) ?_)|(go_at_call 198;refine qmm (dy _ _) ?_)|(go_at_call 199;refine qmm (cG _ _) ?_)|(go_at_call 200;refine qmm (bq _ _) ?_)|(go_at_call 202;refine qmm (fK _ _ k rfl _ hlt hl) ?_))
  exact bodyPost_ret (v:=.agg #[.int .i64 0,.int .i64 0,.int .i64 1,.int .i64 k]) (by simp[results,results175,go_sem]) rfl (dm HW.out (by omega) (by omega) (by omega) qEx)
 have HA:=Lib.hid (show¬be c=false from by simp[ha]);cases h34:((c.toNat:Int)==34)
 rotate_left
 ·have h34':=dQ (m:=34) h34;have HT2:=Lib.hid (show T=(6,quotedT (l.drop (k+1)) 1)from by
   rw[<-HT.out,if_neg HA.out,if_neg (by simp[bB,cR,upperB,h34']),if_neg (by simp[br,h34']),if_pos h34',List.tail_drop])
  clear h34'
  go_wp2_with (first|(go_at_call 196;refine qmm (bx _ _) ?_)|(go_at_call 197;refine qmm (cm _ _) ?_)|(go_at_call 198;refine qmm (dy _ _) ?_)|(go_at_call 199;refine qmm (cG _ _) ?_)|(go_at_call 200;refine qmm (bq _ _) ?_)|(go_at_call 202;refine qmm (fK _ _ k rfl _ hlt hl) ?_))
  go_loopg [6] (l.length-(k+1)) (λg n wx=>∃i:Nat,g=l.length-i∧wx=w.alloc Dm∧k+1<=i∧i<=l.length∧n=.int .i64 i∧Hid (quotedT (l.drop<|k+1) 1=quotedT (l.drop i) (i-k)))
  case atStart=>exact⟨k+1,rfl,rfl,aaf _,by omega,by go_num,Lib.hid (by congr 1;omega)⟩
  case round=>
   obtain⟨i,rfl,rfl,hki,hil,rfl,hrel⟩:=hrel;by_cases hit:i<l.length
   ·skip
    obtain⟨d,hd⟩:∃c,({data:=l.toArray}:ByteArray)[i]'hit=c:=⟨_,rfl⟩;have HD:=Lib.hid<|show l[i]=d from hd;have HS:=Lib.hid<|Ir (j:=i-k) hit HD.out;cases hq:((d.toNat:Int)==34)
    rotate_left
    ·have HW:=Lib.hid (show T=(6,i-k+1,0)from by rw[HT2.out,hrel.out,HS.out,if_neg (by simp[Dv<|dQ (m:=34) hq]),if_pos<|dQ (m:=34) hq])
     go_wp2_with (first|(go_at_call 196;refine qmm (bx _ _) ?_)|(go_at_call 197;refine qmm (cm _ _) ?_)|(go_at_call 198;refine qmm (dy _ _) ?_)|(go_at_call 199;refine qmm (cG _ _) ?_)|(go_at_call 200;refine qmm (bq _ _) ?_)|(go_at_call 202;refine qmm (fK _ _ k rfl _ hlt hl) ?_))
     exact bodyPost_ret (v:=.agg #[.int .i64<|(i:Int)+1-k,.int .i64 6,.int .i64 0,.int .i64 0]) (by simp[results,results175,go_sem]) rfl (iD HW.out (by omega) (by omega) qEx)
    cases had:be d
    ·have HW:=Lib.hid (show T=(6,i-k,1)from by rw[HT2.out,hrel.out,HS.out,if_pos had])
     go_wp2_with (first|(go_at_call 196;refine qmm (bx _ _) ?_)|(go_at_call 197;refine qmm (cm _ _) ?_)|(go_at_call 198;refine qmm (dy _ _) ?_)|(go_at_call 199;refine qmm (cG _ _) ?_)|(go_at_call 200;refine qmm (bq _ _) ?_)|(go_at_call 202;refine qmm (fK _ _ k rfl _ hlt hl) ?_))
     exact bodyPost_ret (v:=.agg #[.int .i64 0,.int .i64 0,.int .i64 1,.int .i64 i]) (by simp[results,results175,go_sem]) rfl (dm HW.out (by omega) (by omega) (by omega) qEx)
    cases hpr:eu d
    ·have HW:=Lib.hid (show T=(6,0,2)from by rw[HT2.out,hrel.out,HS.out,if_neg (by simp[had]),if_neg<|cy (m:=34) hq,if_pos<|.inr<|IB had hpr])
     go_wp2_with (first|(go_at_call 196;refine qmm (bx _ _) ?_)|(go_at_call 197;refine qmm (cm _ _) ?_)|(go_at_call 198;refine qmm (dy _ _) ?_)|(go_at_call 199;refine qmm (cG _ _) ?_)|(go_at_call 200;refine qmm (bq _ _) ?_)|(go_at_call 202;refine qmm (fK _ _ k rfl _ hlt hl) ?_))
     exact bodyPost_ret (v:=.agg #[.int .i64 0,.int .i64 0,.int .i64 2,.int .i64 k]) (by simp[results,results175,go_sem]) rfl (dm HW.out (by omega) (by omega) (by omega) qEx)
    cases h92:((d.toNat:Int)==92)
    rotate_left
    ·have HW:=Lib.hid (show T=(6,0,2)from by rw[HT2.out,hrel.out,HS.out,if_neg (by simp[had]),if_neg<|cy (m:=34) hq,if_pos<|.inl<|dQ (m:=92) h92])
     go_wp2_with (first|(go_at_call 196;refine qmm (bx _ _) ?_)|(go_at_call 197;refine qmm (cm _ _) ?_)|(go_at_call 198;refine qmm (dy _ _) ?_)|(go_at_call 199;refine qmm (cG _ _) ?_)|(go_at_call 200;refine qmm (bq _ _) ?_)|(go_at_call 202;refine qmm (fK _ _ k rfl _ hlt hl) ?_))
     exact bodyPost_ret (v:=.agg #[.int .i64 0,.int .i64 0,.int .i64 2,.int .i64 k]) (by simp[results,results175,go_sem]) rfl (dm HW.out (by omega) (by omega) (by omega) qEx)
    ·go_wp2_with (first|(go_at_call 196;refine qmm (bx _ _) ?_)|(go_at_call 197;refine qmm (cm _ _) ?_)|(go_at_call 198;refine qmm (dy _ _) ?_)|(go_at_call 199;refine qmm (cG _ _) ?_)|(go_at_call 200;refine qmm (bq _ _) ?_)|(go_at_call 202;refine qmm (fK _ _ k rfl _ hlt hl) ?_))
     go_roundg (l.length-(i+1))
     case measure=>omega
     case rel=>exact⟨i+1,rfl,rfl,by omega,by omega,by go_num,Lib.hid (by rw[hrel.out,HS.out,if_neg (by simp[had]),if_neg<|cy (m:=34) hq,if_neg λh=>h.elim (cy (m:=92) h92)<|Jb hpr];congr 1;omega)⟩
   ·have HW:=Lib.hid (show T=(6,0,2)from by rw[HT2.out,hrel.out,Ch<|by omega])
    go_wp2_with (first|(go_at_call 196;refine qmm (bx _ _) ?_)|(go_at_call 197;refine qmm (cm _ _) ?_)|(go_at_call 198;refine qmm (dy _ _) ?_)|(go_at_call 199;refine qmm (cG _ _) ?_)|(go_at_call 200;refine qmm (bq _ _) ?_)|(go_at_call 202;refine qmm (fK _ _ k rfl _ hlt hl) ?_))
    exact bodyPost_ret (v:=.agg #[.int .i64 0,.int .i64 0,.int .i64 2,.int .i64 k]) (by simp[results,results175,go_sem]) rfl (dm HW.out (by omega) (by omega) (by omega) qEx)
 cases hdg:br c
 rotate_left
 ·have HT2:=Lib.hid (show T=(5,eO (l.drop k))from by
   rw[<-HT.out,if_neg HA.out,if_neg (by simp[bB,cR,upperB,br]at hdg⊢;omega),if_pos hdg])
  go_wp2_with (first|(go_at_call 196;refine qmm (bx _ _) ?_)|(go_at_call 197;refine qmm (cm _ _) ?_)|(go_at_call 198;refine qmm (dy _ _) ?_)|(go_at_call 199;refine qmm (cG _ _) ?_)|(go_at_call 200;refine qmm (bq _ _) ?_)|(go_at_call 202;refine qmm (fK _ _ k rfl _ hlt hl) ?_))
  go_loopg [7] (l.length-k) (λg n wx=>∃i:Nat,g=l.length-i∧wx=w.alloc Dm∧k<=i∧i<=l.length∧n=.int .i64 i∧Hid (spanN br (l.drop k)=i-k+spanN br (l.drop i)))
  case atStart=>exact⟨k,rfl,rfl,aaf _,by omega,rfl,Lib.hid<|by omega⟩
  case round=>
   obtain⟨i,rfl,rfl,hki,hil,rfl,hrel⟩:=hrel;by_cases hit:i<l.length
   ·skip
    obtain⟨d,hd⟩:∃c,({data:=l.toArray}:ByteArray)[i]'hit=c:=⟨_,rfl⟩;have HD:=Lib.hid<|show l[i]=d from hd;cases hdd:br d
    ·skip
     have HN:=Lib.hid (show spanN br (l.drop k)=i-k from by rw[hrel.out,tk hit HD.out hdd];omega);by_cases h1:1<i-k
     ·have h1':(1:Int)<i-k:=by omega
      cases h48:((c.toNat:Int)==48)
      ·have HG:=Lib.hid (show 1<i-k->¬((l.drop k).getD 0 0).toNat=48 from λ_=>by rw[aS h0 HC0.out];exact cy (m:=48) h48);by_cases h15:15<i-k
       ·have h15':(15:Int)<i-k:=by omega
        have HW:=Lib.hid (show T=(5,0,3)from by rw[HT2.out,ro HN.out HG.out h15])
        go_wp2_with (first|(go_at_call 196;refine qmm (bx _ _) ?_)|(go_at_call 197;refine qmm (cm _ _) ?_)|(go_at_call 198;refine qmm (dy _ _) ?_)|(go_at_call 199;refine qmm (cG _ _) ?_)|(go_at_call 200;refine qmm (bq _ _) ?_)|(go_at_call 202;refine qmm (fK _ _ k rfl _ hlt hl) ?_))
        exact bodyPost_ret (v:=.agg #[.int .i64 0,.int .i64 0,.int .i64 3,.int .i64 k]) (by simp[results,results175,go_sem]) rfl (dm HW.out (by omega) (by omega) (by omega) qEx)
       ·have h15':¬((15:Int)<i-k):=by omega
        have HW:=Lib.hid (show T=(5,i-k,0)from by rw[HT2.out,jH HN.out HG.out h15])
        go_wp2_with (first|(go_at_call 196;refine qmm (bx _ _) ?_)|(go_at_call 197;refine qmm (cm _ _) ?_)|(go_at_call 198;refine qmm (dy _ _) ?_)|(go_at_call 199;refine qmm (cG _ _) ?_)|(go_at_call 200;refine qmm (bq _ _) ?_)|(go_at_call 202;refine qmm (fK _ _ k rfl _ hlt hl) ?_))
        exact bodyPost_ret (v:=.agg #[.int .i64<|(i:Int)-k,.int .i64 5,.int .i64 0,.int .i64 0]) (by simp[results,results175,go_sem]) rfl (iD HW.out (by omega) (by omega) qEx)
      ·skip
       have HW:=Lib.hid (show T=(5,0,2)from by rw[HT2.out,qw HN.out h1 h0 HC0.out h48])
       go_wp2_with (first|(go_at_call 196;refine qmm (bx _ _) ?_)|(go_at_call 197;refine qmm (cm _ _) ?_)|(go_at_call 198;refine qmm (dy _ _) ?_)|(go_at_call 199;refine qmm (cG _ _) ?_)|(go_at_call 200;refine qmm (bq _ _) ?_)|(go_at_call 202;refine qmm (fK _ _ k rfl _ hlt hl) ?_))
       exact bodyPost_ret (v:=.agg #[.int .i64 0,.int .i64 0,.int .i64 2,.int .i64 k]) (by simp[results,results175,go_sem]) rfl (dm HW.out (by omega) (by omega) (by omega) qEx)
     ·have h1':¬((1:Int)<i-k):=by omega
      have h15':¬((15:Int)<i-k):=by omega
      have HW:=Lib.hid (show T=(5,i-k,0)from by rw[HT2.out,jH HN.out (λh=>absurd h h1)<|by omega])
      go_wp2_with (first|(go_at_call 196;refine qmm (bx _ _) ?_)|(go_at_call 197;refine qmm (cm _ _) ?_)|(go_at_call 198;refine qmm (dy _ _) ?_)|(go_at_call 199;refine qmm (cG _ _) ?_)|(go_at_call 200;refine qmm (bq _ _) ?_)|(go_at_call 202;refine qmm (fK _ _ k rfl _ hlt hl) ?_))
      exact bodyPost_ret (v:=.agg #[.int .i64<|(i:Int)-k,.int .i64 5,.int .i64 0,.int .i64 0]) (by simp[results,results175,go_sem]) rfl (iD HW.out (by omega) (by omega) qEx)
    ·go_wp2_with (first|(go_at_call 196;refine qmm (bx _ _) ?_)|(go_at_call 197;refine qmm (cm _ _) ?_)|(go_at_call 198;refine qmm (dy _ _) ?_)|(go_at_call 199;refine qmm (cG _ _) ?_)|(go_at_call 200;refine qmm (bq _ _) ?_)|(go_at_call 202;refine qmm (fK _ _ k rfl _ hlt hl) ?_))
     go_roundg (l.length-(i+1))
     case measure=>omega
     case rel=>exact⟨i+1,rfl,rfl,by omega,by omega,by go_num,Lib.hid (by rw[hrel.out,nd hit HD.out hdd];omega)⟩
   ·skip
    have HN:=Lib.hid (show spanN br (l.drop k)=i-k from by rw[hrel.out,uV<|by omega];omega);by_cases h1:1<i-k
    ·have h1':(1:Int)<i-k:=by omega
     cases h48:((c.toNat:Int)==48)
     ·have HG:=Lib.hid (show 1<i-k->¬((l.drop k).getD 0 0).toNat=48 from λ_=>by rw[aS h0 HC0.out];exact cy (m:=48) h48);by_cases h15:15<i-k
      ·have h15':(15:Int)<i-k:=by omega
       have HW:=Lib.hid (show T=(5,0,3)from by rw[HT2.out,ro HN.out HG.out h15])
       go_wp2_with (first|(go_at_call 196;refine qmm (bx _ _) ?_)|(go_at_call 197;refine qmm (cm _ _) ?_)|(go_at_call 198;refine qmm (dy _ _) ?_)|(go_at_call 199;refine qmm (cG _ _) ?_)|(go_at_call 200;refine qmm (bq _ _) ?_)|(go_at_call 202;refine qmm (fK _ _ k rfl _ hlt hl) ?_))
       exact bodyPost_ret (v:=.agg #[.int .i64 0,.int .i64 0,.int .i64 3,.int .i64 k]) (by simp[results,results175,go_sem]) rfl (dm HW.out (by omega) (by omega) (by omega) qEx)
      ·have h15':¬((15:Int)<i-k):=by omega
       have HW:=Lib.hid (show T=(5,i-k,0)from by rw[HT2.out,jH HN.out HG.out h15])
       go_wp2_with (first|(go_at_call 196;refine qmm (bx _ _) ?_)|(go_at_call 197;refine qmm (cm _ _) ?_)|(go_at_call 198;refine qmm (dy _ _) ?_)|(go_at_call 199;refine qmm (cG _ _) ?_)|(go_at_call 200;refine qmm (bq _ _) ?_)|(go_at_call 202;refine qmm (fK _ _ k rfl _ hlt hl) ?_))
       exact bodyPost_ret (v:=.agg #[.int .i64<|(i:Int)-k,.int .i64 5,.int .i64 0,.int .i64 0]) (by simp[results,results175,go_sem]) rfl (iD HW.out (by omega) (by omega) qEx)
     ·skip
      have HW:=Lib.hid (show T=(5,0,2)from by rw[HT2.out,qw HN.out h1 h0 HC0.out h48])
      go_wp2_with (first|(go_at_call 196;refine qmm (bx _ _) ?_)|(go_at_call 197;refine qmm (cm _ _) ?_)|(go_at_call 198;refine qmm (dy _ _) ?_)|(go_at_call 199;refine qmm (cG _ _) ?_)|(go_at_call 200;refine qmm (bq _ _) ?_)|(go_at_call 202;refine qmm (fK _ _ k rfl _ hlt hl) ?_))
      exact bodyPost_ret (v:=.agg #[.int .i64 0,.int .i64 0,.int .i64 2,.int .i64 k]) (by simp[results,results175,go_sem]) rfl (dm HW.out (by omega) (by omega) (by omega) qEx)
    ·have h1':¬((1:Int)<i-k):=by omega
     have h15':¬((15:Int)<i-k):=by omega
     have HW:=Lib.hid (show T=(5,i-k,0)from by rw[HT2.out,jH HN.out (λh=>absurd h h1)<|by omega])
     go_wp2_with (first|(go_at_call 196;refine qmm (bx _ _) ?_)|(go_at_call 197;refine qmm (cm _ _) ?_)|(go_at_call 198;refine qmm (dy _ _) ?_)|(go_at_call 199;refine qmm (cG _ _) ?_)|(go_at_call 200;refine qmm (bq _ _) ?_)|(go_at_call 202;refine qmm (fK _ _ k rfl _ hlt hl) ?_))
     exact bodyPost_ret (v:=.agg #[.int .i64<|(i:Int)-k,.int .i64 5,.int .i64 0,.int .i64 0]) (by simp[results,results175,go_sem]) rfl (iD HW.out (by omega) (by omega) qEx)
 have HDg:=Lib.hid (show¬br c=true from by simp[hdg]);have HQt:=Lib.hid<|cy (m:=34) h34;cases hle:bB c
 rotate_left
 ·have HT2:=Lib.hid (show bO (l.drop k)=T from by rw[<-HT.out,if_neg HA.out,if_pos hle]);obtain⟨a0,a1,a2,a3,hform⟩:=It k T;have HF:=Lib.hid hform;have CW:=Lib.hid (λw=>RL l k k rfl w hlt (by rw[HC.out];exact hle) hl);clear hform;have hbe:cR c=true∨(cR c=false∧upperB c=true):=by cases h:cR c<;>simp_all[bB]
  rcases hbe with hlo|⟨hlo,hup⟩
  all_goals
   go_wp2_with (first|(go_at_call 196;refine qmm (bx _ _) ?_)|(go_at_call 197;refine qmm (cm _ _) ?_)|(go_at_call 198;refine qmm (dy _ _) ?_)|(go_at_call 199;refine qmm (cG _ _) ?_)|(go_at_call 200;refine qmm (bq _ _) ?_)|(go_at_call 202;refine qmm (fK _ _ k rfl _ hlt hl) ?_))
   refine(CW.out _).mono ?_;rintro e w1 ⟨rfl,hext⟩;rw[HT2.out,HF.out];have hsz:=hext.size;have hc0:=hext.cell (p:=⟨w.heap.size,0,none⟩) (by simp);have hc1:=hext.cell (p:=⟨w.heap.size,1,none⟩) (by simp);have hc2:=hext.cell (p:=⟨w.heap.size,2,none⟩) (by simp);have hc3:=hext.cell (p:=⟨w.heap.size,3,none⟩) (by simp);have hf0:=hext.frozen (p:=⟨w.heap.size,0,none⟩) (by simp);have hf1:=hext.frozen (p:=⟨w.heap.size,1,none⟩) (by simp);have hf2:=hext.frozen (p:=⟨w.heap.size,2,none⟩) (by simp);have hf3:=hext.frozen (p:=⟨w.heap.size,3,none⟩) (by simp);have HX:=Lib.hid hext;clear hext;simp at hsz hc0 hc1 hc2 hc3 hf0 hf1 hf2 hf3
   go_wp2_with (first|(go_at_call 196;refine qmm (bx _ _) ?_)|(go_at_call 197;refine qmm (cm _ _) ?_)|(go_at_call 198;refine qmm (dy _ _) ?_)|(go_at_call 199;refine qmm (cG _ _) ?_)|(go_at_call 200;refine qmm (bq _ _) ?_)|(go_at_call 202;refine qmm (fK _ _ k rfl _ hlt hl) ?_))
   exact bodyPost_ret (v:=.agg #[.int .i64 a0,.int .i64 a1,.int .i64 a2,.int .i64 a3]) (by simp[results,results175,go_sem,hc0,hc1,hc2,hc3]) rfl ⟨by rw[HF.out],(((((Ext.refl w).alloc _).trans HX.out).setCell (aaf _) _).setCell (aaf _) _).setCell (aaf _) _|>.setCell (aaf _) _⟩
 have HLt:=Lib.hid (show¬bB c=true from by simp[hle]);have hlo:cR c=false:=by cases h:cR c<;>simp_all[bB]
 have hup:upperB c=false:=by cases h:upperB c<;>simp_all[bB]
 have HSg:=Lib.hid (Lr (l.drop k));have HG0:=Lib.hid (aS h0 HC0.out);have HT2:=Lib.hid (show T=if signLen (l.drop k)=0 then(0,0,2)else(8,signLen (l.drop k),0)from by
  rw[<-HSg.out,HG0.out,<-HT.out,if_neg HA.out,if_neg HLt.out,if_neg HDg.out,if_neg HQt.out])
 obtain⟨m,hm⟩:∃m,signLen (l.drop k)=m:=⟨_,rfl⟩;have HM:=Lib.hid hm;by_cases hm0:m=0
 ·have HW:=Lib.hid (show T=(0,0,2)from by rw[HT2.out,HM.out,if_pos hm0]);subst hm0
  go_wp2_with (first|(go_at_call 196;refine qmm (bx _ _) ?_)|(go_at_call 197;refine qmm (cm _ _) ?_)|(go_at_call 198;refine qmm (dy _ _) ?_)|(go_at_call 199;refine qmm (cG _ _) ?_)|(go_at_call 200;refine qmm (bq _ _) ?_)|(go_at_call 202;refine qmm (fK _ _ k rfl _ hlt hl) ?_))
  exact bodyPost_ret (v:=.agg #[.int .i64 0,.int .i64 0,.int .i64 2,.int .i64 k]) (by simp[results,results175,go_sem]) rfl (dm HW.out (by omega) (by omega) (by omega) qEx)
 ·have HW:=Lib.hid (show T=(8,m,0)from by rw[HT2.out,HM.out,if_neg hm0]);have hmb:((m:Int)==0)=false:=by simp;omega
  go_wp2_with (first|(go_at_call 196;refine qmm (bx _ _) ?_)|(go_at_call 197;refine qmm (cm _ _) ?_)|(go_at_call 198;refine qmm (dy _ _) ?_)|(go_at_call 199;refine qmm (cG _ _) ?_)|(go_at_call 200;refine qmm (bq _ _) ?_)|(go_at_call 202;refine qmm (fK _ _ k rfl _ hlt hl) ?_))
  exact bodyPost_ret (v:=.agg #[.int .i64 m,.int .i64 8,.int .i64 0,.int .i64 0]) (by simp[results,results175,go_sem]) rfl (iD HW.out (by omega) (by omega) qEx)
def ER(c:UInt8):Int:=Lib.indexByte sk c
theorem Hm:∀(l:YB) (c:UInt8),0<=Lib.indexByte l c↔l.contains c=true
 |[],c=>by simp[Lib.indexByte]
 | b::l,c=>by
  have ih:=Hm l c;have hg:=Lib.indexByte_ge l c;unfold Lib.indexByte;by_cases h:b=c
  ·simp[h]
  ·have h':¬c=b:=λe=>h e.symm;simp only[aap,h,if_false,List.contains_cons,h',aaB,false_or];rw[<-ih];split<;>omega
theorem rM(c:UInt8):0<=ER c↔sk.contains c=true:=Hm _ _
theorem mM(c:UInt8)(w:World):Calls prog 121 #[.string ⟨#[40,41,91,93,58,44,61,43,45,42,60,63]⟩,.int .u8 (c.toNat:Int)] w λe w'=>e=.returned (.int .i64<|ER c)∧w=w':=by
 refine(Jr _ _ w).mono ?_;rintro e w' ⟨rfl,rfl⟩;refine⟨bP ?_,I⟩;have :((c.toNat:Int)).toNat.toUInt8=c:=by simp
 rw[this];rfl
set_option maxHeartbeats 4000000 in
theorem PX(l:YB)(w:World)(h0:0<l.length)(G:l.length<=281474976710656):Calls prog 74 #[.string ⟨l.toArray⟩] w λe w'=>e=.returned (.tuple #[.int .i64 ((tokenT l).1:Nat),.int .i64 ((tokenT l).2.1:Nat),.int .i64 ((tokenT l).2.2:Nat)])∧w=w':=by
 obtain⟨J,hc0⟩:∃c,({data:=l.toArray}:ByteArray)[0]'h0=c:=⟨_,rfl⟩;have HC0:=Lib.hid<|show l[0]=J from hc0;have HT:=Lib.hid<|yH h0 HC0.out
 go_enter func74,ntmps74
 cases ha:be J
 ·skip
  have HW:=Lib.hid (show tokenT l=(0,0,1)from by rw[HT.out,if_pos ha])
  go_wp2_with (first|(go_at_call 73;refine qmm (dz _ _) ?_)|(go_at_call 116;refine qmm (bN _ _) ?_)|(go_at_call 118;refine qmm (ef _ _) ?_)|(go_at_call 117;refine qmm (qO _ _ h0 G) ?_)|(go_at_call 119;refine qmm (kL _ _ G) ?_)|(go_at_call 120;refine qmm (kz _ _ h0 G) ?_)|(go_at_call 121;refine qmm (mM _ _) ?_))
  go_ret3
  exact⟨by rw[HW.out];rfl,I⟩
 have HA:=Lib.hid (show¬be J=false from by simp[ha]);cases O:bB J
 rotate_left
 ·skip
  have HW:=Lib.hid (show tokenT l=bO l from by rw[HT.out,if_neg HA.out,if_pos O])
  go_wp2_with (first|(go_at_call 73;refine qmm (dz _ _) ?_)|(go_at_call 116;refine qmm (bN _ _) ?_)|(go_at_call 118;refine qmm (ef _ _) ?_)|(go_at_call 117;refine qmm (qO _ _ h0 G) ?_)|(go_at_call 119;refine qmm (kL _ _ G) ?_)|(go_at_call 120;refine qmm (kz _ _ h0 G) ?_)|(go_at_call 121;refine qmm (mM _ _) ?_))
  go_ret3
  exact⟨by rw[HW.out];rfl,I⟩
 have HL:=Lib.hid (show¬bB J=true from by simp[O]);cases hd:br J
 rotate_left
 ·skip
  have HW:=Lib.hid (show tokenT l=(5,eO l)from by rw[HT.out,if_neg HA.out,if_neg HL.out,if_pos hd])
  go_wp2_with (first|(go_at_call 73;refine qmm (dz _ _) ?_)|(go_at_call 116;refine qmm (bN _ _) ?_)|(go_at_call 118;refine qmm (ef _ _) ?_)|(go_at_call 117;refine qmm (qO _ _ h0 G) ?_)|(go_at_call 119;refine qmm (kL _ _ G) ?_)|(go_at_call 120;refine qmm (kz _ _ h0 G) ?_)|(go_at_call 121;refine qmm (mM _ _) ?_))
  go_ret3
  exact⟨by rw[HW.out];rfl,I⟩
 have HD:=Lib.hid (show¬br J=true from by simp[hd]);cases Z:((J.toNat:Int)==34)
 rotate_left
 ·skip
  have HW:=Lib.hid (show tokenT l=(6,quotedT l.tail 1)from by rw[HT.out,if_neg HA.out,if_neg HL.out,if_neg HD.out,if_pos<|dQ (m:=34) Z])
  go_wp2_with (first|(go_at_call 73;refine qmm (dz _ _) ?_)|(go_at_call 116;refine qmm (bN _ _) ?_)|(go_at_call 118;refine qmm (ef _ _) ?_)|(go_at_call 117;refine qmm (qO _ _ h0 G) ?_)|(go_at_call 119;refine qmm (kL _ _ G) ?_)|(go_at_call 120;refine qmm (kz _ _ h0 G) ?_)|(go_at_call 121;refine qmm (mM _ _) ?_))
  go_ret3
  exact⟨by rw[HW.out];rfl,I⟩
 have HQ:=Lib.hid<|cy (m:=34) Z;cases h61:((J.toNat:Int)==61)
 ·skip
  have HE:=Lib.hid<|show¬(J.toNat=61∧1<l.length∧(l.getD 1 0).toNat=61)from λh=>cy (m:=61) h61 h.1;by_cases hs:0<=ER J
  ·skip
   have HW:=Lib.hid (show tokenT l=(8,1,0)from by rw[HT.out,if_neg HA.out,if_neg HL.out,if_neg HD.out,if_neg HQ.out,if_neg HE.out,if_pos<|(rM J).1 hs])
   go_wp2_with (first|(go_at_call 73;refine qmm (dz _ _) ?_)|(go_at_call 116;refine qmm (bN _ _) ?_)|(go_at_call 118;refine qmm (ef _ _) ?_)|(go_at_call 117;refine qmm (qO _ _ h0 G) ?_)|(go_at_call 119;refine qmm (kL _ _ G) ?_)|(go_at_call 120;refine qmm (kz _ _ h0 G) ?_)|(go_at_call 121;refine qmm (mM _ _) ?_))
   go_ret3
   exact⟨by rw[HW.out];rfl,I⟩
  ·skip
   have HW:=Lib.hid (show tokenT l=(0,0,2)from by rw[HT.out,if_neg HA.out,if_neg HL.out,if_neg HD.out,if_neg HQ.out,if_neg HE.out,if_neg λh=>hs<|(rM J).2 h])
   go_wp2_with (first|(go_at_call 73;refine qmm (dz _ _) ?_)|(go_at_call 116;refine qmm (bN _ _) ?_)|(go_at_call 118;refine qmm (ef _ _) ?_)|(go_at_call 117;refine qmm (qO _ _ h0 G) ?_)|(go_at_call 119;refine qmm (kL _ _ G) ?_)|(go_at_call 120;refine qmm (kz _ _ h0 G) ?_)|(go_at_call 121;refine qmm (mM _ _) ?_))
   go_ret3
   exact⟨by rw[HW.out];rfl,I⟩
 by_cases h1:1<l.length
 rotate_left
 ·skip
  have HE:=Lib.hid<|show¬(J.toNat=61∧1<l.length∧(l.getD 1 0).toNat=61)from λh=>h1 h.2.1;by_cases hs:0<=ER J
  ·skip
   have HW:=Lib.hid (show tokenT l=(8,1,0)from by rw[HT.out,if_neg HA.out,if_neg HL.out,if_neg HD.out,if_neg HQ.out,if_neg HE.out,if_pos<|(rM J).1 hs])
   go_wp2_with (first|(go_at_call 73;refine qmm (dz _ _) ?_)|(go_at_call 116;refine qmm (bN _ _) ?_)|(go_at_call 118;refine qmm (ef _ _) ?_)|(go_at_call 117;refine qmm (qO _ _ h0 G) ?_)|(go_at_call 119;refine qmm (kL _ _ G) ?_)|(go_at_call 120;refine qmm (kz _ _ h0 G) ?_)|(go_at_call 121;refine qmm (mM _ _) ?_))
   go_ret3
   exact⟨by rw[HW.out];rfl,I⟩
  ·skip
   have HW:=Lib.hid (show tokenT l=(0,0,2)from by rw[HT.out,if_neg HA.out,if_neg HL.out,if_neg HD.out,if_neg HQ.out,if_neg HE.out,if_neg λh=>hs<|(rM J).2 h])
   go_wp2_with (first|(go_at_call 73;refine qmm (dz _ _) ?_)|(go_at_call 116;refine qmm (bN _ _) ?_)|(go_at_call 118;refine qmm (ef _ _) ?_)|(go_at_call 117;refine qmm (qO _ _ h0 G) ?_)|(go_at_call 119;refine qmm (kL _ _ G) ?_)|(go_at_call 120;refine qmm (kz _ _ h0 G) ?_)|(go_at_call 121;refine qmm (mM _ _) ?_))
   go_ret3
   exact⟨by rw[HW.out];rfl,I⟩
 obtain⟨c1,hc1⟩:∃c,({data:=l.toArray}:ByteArray)[1]'h1=c:=⟨_,rfl⟩;have HC1:=Lib.hid<|show l[1]=c1 from hc1;cases h62:((c1.toNat:Int)==61)
 ·skip
  have HE:=Lib.hid (show¬(J.toNat=61∧1<l.length∧(l.getD 1 0).toNat=61)from λh=>cy (m:=61) h62 (by rw[<-aS h1 HC1.out];exact h.2.2));by_cases hs:0<=ER J
  ·skip
   have HW:=Lib.hid (show tokenT l=(8,1,0)from by rw[HT.out,if_neg HA.out,if_neg HL.out,if_neg HD.out,if_neg HQ.out,if_neg HE.out,if_pos<|(rM J).1 hs])
   go_wp2_with (first|(go_at_call 73;refine qmm (dz _ _) ?_)|(go_at_call 116;refine qmm (bN _ _) ?_)|(go_at_call 118;refine qmm (ef _ _) ?_)|(go_at_call 117;refine qmm (qO _ _ h0 G) ?_)|(go_at_call 119;refine qmm (kL _ _ G) ?_)|(go_at_call 120;refine qmm (kz _ _ h0 G) ?_)|(go_at_call 121;refine qmm (mM _ _) ?_))
   go_ret3
   exact⟨by rw[HW.out];rfl,I⟩
  ·skip
   have HW:=Lib.hid (show tokenT l=(0,0,2)from by rw[HT.out,if_neg HA.out,if_neg HL.out,if_neg HD.out,if_neg HQ.out,if_neg HE.out,if_neg λh=>hs<|(rM J).2 h])
   go_wp2_with (first|(go_at_call 73;refine qmm (dz _ _) ?_)|(go_at_call 116;refine qmm (bN _ _) ?_)|(go_at_call 118;refine qmm (ef _ _) ?_)|(go_at_call 117;refine qmm (qO _ _ h0 G) ?_)|(go_at_call 119;refine qmm (kL _ _ G) ?_)|(go_at_call 120;refine qmm (kz _ _ h0 G) ?_)|(go_at_call 121;refine qmm (mM _ _) ?_))
   go_ret3
   exact⟨by rw[HW.out];rfl,I⟩
 ·skip
  have HW:=Lib.hid (show tokenT l=(8,2,0)from by rw[HT.out,if_neg HA.out,if_neg HL.out,if_neg HD.out,if_neg HQ.out,if_pos ⟨dQ (m:=61) h61,h1,by rw[aS h1 HC1.out];exact dQ (m:=61) h62⟩])
  go_wp2_with (first|(go_at_call 73;refine qmm (dz _ _) ?_)|(go_at_call 116;refine qmm (bN _ _) ?_)|(go_at_call 118;refine qmm (ef _ _) ?_)|(go_at_call 117;refine qmm (qO _ _ h0 G) ?_)|(go_at_call 119;refine qmm (kL _ _ G) ?_)|(go_at_call 120;refine qmm (kz _ _ h0 G) ?_)|(go_at_call 121;refine qmm (mM _ _) ?_))
  go_ret3
  exact⟨by rw[HW.out];rfl,I⟩
def eE(l:List TokZ):List Value:=l.flatMap λt=>[.int .i64 t.kind,.string ⟨t.lead.toArray⟩,.string ⟨t.text.toArray⟩]
def wk(w:World)(v:Value)(l:List TokZ):Prop:=∃A c,v=.slice A l.length c∧l.length<=c∧c<=maxLen∧Row w 3 A l.length (eE l)
def ScanPost(l:YB)(w:World)(e:Ending)(w':World):Prop:=
 ∃v,e=.returned (.tuple #[v,.string ⟨(je l).tail.toArray⟩,.int .i64 ((je l).place:Nat),.int .i64 ((je l).err:Nat)])∧wk w' v (je l).toks∧Ext w w'
theorem OO:(prog.info? 90).map (λi=>(i.zero,i.size,i.bytes))=some (some<|.agg #[.int .i64 0,.string ByteArray.empty,.string ByteArray.empty],3,40):=by kernel_rfl
theorem Dx(l:List TokZ)(t:TokZ):eE (l++[t])=eE l++[.int .i64 t.kind,.string ⟨t.lead.toArray⟩,.string ⟨t.text.toArray⟩]:=by simp[eE]
theorem LA{w:World}{base:Nat}{v:Value}{l:List TokZ}(h:w.ownsRow base 90 3 v l.length<|eE l):wk w v l:=by obtain⟨A,c,rfl,G,J⟩:=Lt h;exact⟨A,c,I,G,J,Row.of_own h⟩
theorem xn(w:World):wk w (.slice none 0 0) []:=⟨none,0,rfl,aaf _,aar _,Row.none_⟩
variable{l:YB}
theorem GB{w:World}{v:Value}{r:Scanned}{tail:YB}{p e:Int}(h:je l=r)(ht:r.tail=tail)(G:(r.place:Int)=p)(J:(r.err:Int)=e)(hr:wk w' v r.toks)(hx:Ext w w'):
  ScanPost l w (.returned<|.tuple #[v,.string ⟨tail.toArray⟩,.int .i64 p,.int .i64 e]) w':=by
 subst h;subst ht;subst G;subst J;exact⟨v,I,hr,hx⟩
theorem neI{m:Nat}(h:((n:Int)!=(m:Int))=false):n=m:=by simp at h;omega
theorem neT{m:Nat}(h:((n:Int)!=(m:Int))=true):¬n=m:=by simp at h;omega
def Am(k:Nat):Option Nat->Int
 |none=>-1
 |some p=>((k+p:Nat):Int)
def Ap(l:YB)(k:Nat)(w:World)(e:Ending)(w':World):Prop:=
 e=.returned (.tuple #[.int .i64 ((aU false (l.drop k) 0).1:Nat),.int .i64<|Am k (aU false (l.drop k) 0).2])∧w=w'
theorem Cp{b:Option Nat}{w:World}{x y:Int}(h:aU false (l.drop k) 0=(n,b))(hx:x=n)(hy:y=Am k b):Ap l k w (.returned<|.tuple #[.int .i64 x,.int .i64 y]) w:=by subst hx;subst hy;unfold Ap;rw[h];exact⟨rfl,rfl⟩
set_option maxHeartbeats 2000000 in
theorem NW(l:YB)(x:Int)(k:Nat)(hxk:x=k)(w:World)(hk:k<=l.length)(hl:l.length<=281474976710656):Calls prog 171 #[.string ⟨l.toArray⟩,.int .i64 x] w (Ap l k w):=by
 subst hxk
 go_enter func171,ntmps171
 go_wp2_with (first|(go_at_call 174;refine qmm (kK _ _) ?_)|(go_at_call 196;refine qmm (bx _ _) ?_))
 go_loopg [6] (l.length-k) (λg n wx=>∃i:Nat,g=l.length-i∧wx=w∧k<=i∧i<=l.length∧n=.int .i64 i∧Hid (aU false (l.drop k) 0=aU false (l.drop i) (i-k)))
 case atStart=>exact⟨k,rfl,rfl,aaf _,hk,rfl,Lib.hid (by congr 1;omega)⟩
 case round=>
  obtain⟨i,rfl,rfl,hki,hil,rfl,HL⟩:=hrel;by_cases hit:i<l.length
  rotate_left
  ·go_wp2_with (first|(go_at_call 174;refine qmm (kK _ _) ?_)|(go_at_call 196;refine qmm (bx _ _) ?_))
   go_ret2
   exact Cp (n:=i-k) (b:=none) (by rw[HL.out,yT _<|by omega]) (by omega) I
  obtain⟨c,hc⟩:∃c,({data:=l.toArray}:ByteArray)[i]'hit=c:=⟨_,rfl⟩;have HC:=Lib.hid<|show l[i]=c from hc;cases hw:ct c
  rotate_left
  ·go_wp2_with (first|(go_at_call 174;refine qmm (kK _ _) ?_)|(go_at_call 196;refine qmm (bx _ _) ?_))
   go_roundg (l.length-(i+1))
   case measure=>omega
   case rel=>exact⟨i+1,rfl,rfl,by omega,by omega,by go_num,Lib.hid (by rw[HL.out,Gq hit HC.out hw];congr 1;omega)⟩
  cases h35:((c.toNat:Int)==35)
  ·go_wp2_with (first|(go_at_call 174;refine qmm (kK _ _) ?_)|(go_at_call 196;refine qmm (bx _ _) ?_))
   go_ret2
   exact Cp (n:=i-k) (b:=none) (by rw[HL.out,GC hit HC.out hw<|cy (m:=35) h35]) (by omega) I
  have HL2:=Lib.hid<|HL.out.trans<|JS (n:=i-k) hit HC.out<|dQ (m:=35) h35;have HCI:=Lib.hid<|dQ (m:=35) h35
  go_wp2_with (first|(go_at_call 174;refine qmm (kK _ _) ?_)|(go_at_call 196;refine qmm (bx _ _) ?_))
  clear HL;obtain⟨wo,rfl⟩:∃wo:World,wo=wr:=⟨_,rfl⟩
  go_loopg [6] (l.length-i) (λg n wx=>∃j:Nat,g=l.length-j∧wx=wo∧i<=j∧j<=l.length∧n=.int .i64 j∧Hid (aU false (l.drop k) 0=aU true (l.drop j) (j-k)))
  case atStart=>exact⟨i,rfl,rfl,aaf _,by omega,rfl,HL2⟩
  case round=>
   obtain⟨j,rfl,rfl,hij,hjl,rfl,HL3⟩:=hrel;by_cases hjt:j<l.length
   rotate_left
   ·go_wp2_with (first|(go_at_call 174;refine qmm (kK _ _) ?_)|(go_at_call 196;refine qmm (bx _ _) ?_))
    go_roundg (l.length-j)
    case measure=>omega
    case rel=>exact⟨j,rfl,rfl,by omega,by omega,rfl,Lib.hid<|by rw[HL3.out,yT _ (by omega),yT _<|by omega]⟩
   obtain⟨d,hd⟩:∃c,({data:=l.toArray}:ByteArray)[j]'hjt=c:=⟨_,rfl⟩;have HD:=Lib.hid<|show l[j]=d from hd;cases h10:((d.toNat:Int)!=10)
   ·have hne:i<j:=by
     rcases Nat.lt_or_ge i j with h|h
     ·exact h
     ·have :i=j:=by omega
      subst this;have h2:=HCI.out;have h3:c=d:=by rw[<-HC.out,<-HD.out]
      subst h3;simp[h2]at h10
    go_wp2_with (first|(go_at_call 174;refine qmm (kK _ _) ?_)|(go_at_call 196;refine qmm (bx _ _) ?_))
    go_roundg (l.length-j)
    case measure=>omega
    case rel=>exact⟨j,rfl,rfl,by omega,by omega,rfl,Lib.hid<|by rw[HL3.out,Ii hjt HD.out<|neI (m:=10) h10]⟩
   cases ha:be d
   ·go_wp2_with (first|(go_at_call 174;refine qmm (kK _ _) ?_)|(go_at_call 196;refine qmm (bx _ _) ?_))
    go_ret2
    exact Cp (n:=j-k) (b:=some<|j-k) (by rw[HL3.out,Mh hjt HD.out (neT (m:=10) h10) ha]) (by omega) (by simp[Am];omega)
   ·go_wp2_with (first|(go_at_call 174;refine qmm (kK _ _) ?_)|(go_at_call 196;refine qmm (bx _ _) ?_))
    go_roundg (l.length-(j+1))
    case measure=>omega
    case rel=>exact⟨j+1,rfl,rfl,by omega,by omega,by go_num,Lib.hid (by rw[HL3.out,Nr hjt HD.out (neT (m:=10) h10) ha];congr 1;omega)⟩
theorem rS:∀(b:Bool) (l:YB) (n:Nat),(aU b l n).1<=n+l.length
 |_,[],n=>by simp[aU]
 | false,c::r,n=>by
  have h1:=rS false r<|n+1;have h2:=rS true r<|n+1;unfold aU;simp only[aac];split
  ·omega
  ·split
   ·omega
   ·simp
 | true,c::r,n=>by
  have h1:=rS false r<|n+1;have h2:=rS true r<|n+1;unfold aU;simp only[aac];split
  ·omega
  ·split
   ·simp
   ·omega
def Nq (l:List UInt8) (w:World) (Rs:Scanned) (g:Nat) (s6 s7:Value) (wx:World):Prop:=
  ∃ (p F:Nat) (acc:List TokZ),p<=l.length∧g=l.length-p∧s7=.int .i64 p∧acc.length<=p∧l.length-p<F∧
    scanT F (l.drop p) p acc=Rs∧wx.ownsRow w.heap.size 90 3 s6 acc.length (eE acc)∧Ext w wx
def ScanPost0(Rs:Scanned)(w:World)(e:Ending)(w':World):Prop:=
 ∃v,e=.returned (.tuple #[v,.string ⟨Rs.tail.toArray⟩,.int .i64 (Rs.place:Nat),.int .i64 (Rs.err:Nat)])∧wk w' v Rs.toks∧Ext w w'
theorem tL{Rs:Scanned}{w:World}{v:Value}{r:Scanned}{tail:YB}{p e:Int}(h:Rs=r)(ht:r.tail=tail)(G:(r.place:Int)=p)(J:(r.err:Int)=e)(hr:wk w' v r.toks)(hx:Ext w w'):
  ScanPost0 Rs w (.returned<|.tuple #[v,.string ⟨tail.toArray⟩,.int .i64 p,.int .i64 e]) w':=by
 subst h;subst ht;subst G;subst J;exact⟨v,I,hr,hx⟩
set_option maxHeartbeats 4000000 in
theorem Qa(l:YB)(w:World)(hl:l.length<=4096):Calls prog 176 #[.string ⟨l.toArray⟩] w (ScanPost0 (scanT (l.length+1) l 0 []) w):=by
 obtain⟨Rs,hR⟩:∃Rs,scanT (l.length+1) l 0 []=Rs:=⟨_,rfl⟩;rw[hR];have H0:=Lib.hid (show scanT (l.length+1) (l.drop 0) 0 []=Rs from by rw[<-hR];simp);clear hR;have hx:=AA;have hx2:=sP
 go_enter func176,ntmps176
 go_wp2_with fail
 go_loopg [6,7] l.length (λg s6 s7 wx=>Nq l w Rs g s6 s7 wx)
 case atStart=>exact⟨0,l.length+1,[],aar _,by omega,rfl,aaf _,by omega,H0.out,World.ownsRow_nil _ _ _ _,Ext.refl _⟩
 case round=>
  obtain⟨p,F,acc,hpl,rfl,rfl,hacc,hF,hscan,hown,hext⟩:=hrel;have HSc:=Lib.hid hscan;clear hscan;have HO:=Lib.hid hown;clear hown;have HE:=Lib.hid hext;clear hext;obtain⟨F',rfl⟩:∃F',F=F'+1:=⟨F-1,by omega⟩;obtain⟨n,b,hLd⟩:∃n b,aU false (l.drop p) 0=(n,b):=⟨_,_,rfl⟩;have hnl:p+n<=l.length:=by have h:=rS false (l.drop p) 0;rw[hLd]at h;simp at h;omega
  have HLd:=Lib.hid hLd;clear hLd
  go_wp2_with fail
  refine(NW _ _ p I _ hpl<|by omega).mono ?_;rintro e w' ⟨rfl,rfl⟩;rw[HLd.out];cases b with
  |some q=>
   have hq:(0:Int)<=((p+q:Nat):Int):=by omega
   have hq2:Am p (some q)=((p+q:Nat):Int):=rfl;rw[hq2];generalize hz:((p+q:Nat):Int)=z at *;have HZ:=Lib.hid hz;clear hz hq2
   go_wp2
   exact bodyPost_ret (v:=.tuple #[.slice none 0 0,.string ⟨([]:YB).toArray⟩,.int .i64 z,.int .i64 1]) (by simp[results,results176,go_sem]) rfl (tL (r:=⟨[],[],p+q,1⟩) (HSc.out.symm.trans<|LW HLd.out) rfl (by rw[HZ.out]) rfl (xn _) HE.out)
  | none=>
   have hq2:Am p none=-1:=rfl;rw[hq2];clear hq2;obtain⟨E,hE⟩:∃E,p+n=E:=⟨_,rfl⟩;have hE1:(p:Int)+n=(E:Nat):=by omega
   have hE2:E-p=n:=by omega
   have HEE:=Lib.hid hE;have hpE:p<=E:=by omega
   have hEl:E<=l.length:=by omega
   clear hE hnl;by_cases hend:E=l.length
   ·have hendb:((E:Int)==(l.length:Int))=true:=by simp;omega
    have hb0:(0:Int)<=(p:Int):=by omega
    have hb1:(p:Int)<=(l.length:Int):=by omega
    have HEnd:=Lib.hid hend;clear hend
    go_wp2
    go_quiet (fail)
    go_wp2
    exact bodyPost_ret (v:=.tuple #[u6,.string ⟨(l.drop p).toArray⟩,.int .i64 0,.int .i64 0]) (by simp[results,results176,go_sem]) rfl (tL (r:=⟨acc,l.drop p,0,0⟩) (HSc.out.symm.trans<|Lw HLd.out (by have :=HEnd.out;have :=HEE.out;simp;omega)) rfl rfl rfl (LA HO.out)<|Ext.drewN HE.out _)
   ·have hEt:E<l.length:=by omega
    have hendb:((E:Int)==(l.length:Int))=false:=by simp;omega
    clear hend;obtain⟨kd,m,e,hT⟩:∃kd m e,tokenT (l.drop E)=(kd,m,e):=⟨_,_,_,rfl⟩;have hlen:=IG (l:=l.drop E) (by simp;omega);rw[hT]at hlen;simp only[aal]at hlen;obtain⟨hm1,hm2⟩:=hlen;have HM:=Lib.hid hm2;clear hm2;have HT:=Lib.hid hT;clear hT;have HDp:=Lib.hid (show(l.drop p).drop n=l.drop E from by rw[List.drop_drop,HEE.out]);have CN:=Lib.hid (λw=>Ok l (E:Nat) E rfl w hEt<|by omega);have HnE:=Lib.hid (show¬n=(l.drop p).length from by have :=HEE.out;simp;omega)
    go_wp2_with fail
    refine(CN.out _).mono ?_;rintro e0 w1 ⟨rfl,hext1⟩;rw[HT.out];by_cases he:e=0
    rotate_left
    ·have HI:=Lib.hid (show oI E (kd,m,e)=.agg #[.int .i64 0,.int .i64 0,.int .i64 e,.int .i64 ((E+m:Nat):Int)]from by simp[oI,he]);rw[HI.out];have heb:((e:Int)!=0)=true:=by simp;omega
     have HX1:=Lib.hid<|HE.out.trans hext1;clear hext1;generalize hz:((E+m:Nat):Int)=z at *;have HZ:=Lib.hid hz;clear hz;clear HI
     go_wp2
     go_quiet (fail)
     go_wp2
     exact bodyPost_ret (v:=.tuple #[.slice none 0 0,.string ⟨([]:YB).toArray⟩,.int .i64 z,.int .i64 e]) (by simp[results,results176,go_sem]) rfl (tL (r:=⟨[],[],p+n+m,e⟩) (HSc.out.symm.trans<|Kj HLd.out HnE.out (by rw[HDp.out];exact HT.out) he) rfl (by rw[<-HZ.out];have :=HEE.out;simp;omega) rfl (xn _)<|Ext.drewN (HX1.out.alloc _) _)
    ·subst he;have HI:=Lib.hid (show oI E (kd,m,0)=.agg #[.int .i64 m,.int .i64 kd,.int .i64 0,.int .i64 0]from by simp[oI]);rw[HI.out];have hmp:0<m:=HM.out rfl;have hown:=Pk HO.out hext1;have hx1:=hext1.size;have hsz:=HE.out.size;have HX1:=Lib.hid<|HE.out.trans hext1;have hne:∀k,u6.ownBlock=some k->k<wr.heap.size:=λk hk=>(HO.out.lt k hk).2;have hneB:u6.ownBlock≠some w1.heap.size:=λh=>by have :=hne _ h;omega
     clear hext1 HI CN HM
     go_wp2
     obtain⟨W2,hW2⟩:∃W2,w1.alloc (.cells #[.int .i64 m,.int .i64 kd,.int .i64 0,.int .i64 0] 218)=W2:=⟨_,rfl⟩;rw[hW2];have hc0:W2.cell? ⟨w1.heap.size,0,none⟩=some (.int .i64 m):=by rw[<-hW2];simp
     have hc1:W2.cell? ⟨w1.heap.size,1,none⟩=some (.int .i64 kd):=by rw[<-hW2];simp
     have hown2:W2.ownsRow w.heap.size 90 3 u6 acc.length (eE acc):=by rw[<-hW2];exact hown.alloc _
     have hBW:w1.heap.size<W2.heap.size:=by rw[<-hW2];simp
     have HX2:=Lib.hid (show Ext w W2 from by rw[<-hW2];exact HX1.out.alloc _);obtain⟨B,hB⟩:∃B,w1.heap.size=B:=⟨_,rfl⟩;have hwB:w.heap.size<=B:=by omega
     rw[hB]at hc0 hc1 hBW hneB;rw[hB];clear hW2 hB hown hne hx1 hsz HX1 HE HO;have hb0:(0:Int)<=(p:Int):=by omega
     have hb1:(p:Int)<=(E:Int):=by omega
     have hb2:(E:Int)<=(l.length:Int):=by omega
     have hb3:(E:Int)+m<=(l.length:Int):=by omega
     have hb4:(E:Int)<=(E:Int)+m:=by omega
     have hwr0:IntKind.i64.wrap (E:Int)=(E:Int):=IntWalk.i64_in _ (by omega);have hwr:IntKind.i64.wrap ((E:Int)+m)=(E:Int)+m:=IntWalk.i64_in _ (by omega);have hb5:(0:Int)<=(E:Int)+m:=by omega
     have hb6:((E:Int)+m).toNat=E+m:=by omega
     have hsz2:(acc.length+1)*40<=140737488355328:=by omega
     have hsz3:acc.length+1<=maxLen:=by unfold maxLen;omega
     have hbs:w.heap.size<=W2.heap.size:=by omega
     obtain⟨i0,hi0,hz0,hz1,hz2⟩:=Gf OO
     go_region_held3 (λw'=>w'.cell? ⟨B,0,none⟩=some (.int .i64 m)∧w'.cell? ⟨B,1,none⟩=some (.int .i64 kd))
      (first|go_keep|(go_split_ands;refine⟨?_,?_⟩<;>(rw[hgrow.cell_far _ (by simp;omega)<|Ne.symm hneB];simp[*])))
      ((refine step_append_lies _ (by rfl) _ _ _ (by rfl) w.heap.size 90 i0 _ 3 40 underlying83 hi0 hz0 hz1 hz2 rfl (by omega) u6 acc.length (eE acc) (by rfl) ((hown2.alloc _).drew) ⟨W2.heap.size,0,none⟩ 1 1 [.int .i64 kd,.string ⟨((l.drop p).take n).toArray⟩,.string ⟨((l.drop E).take m).toArray⟩] (by rfl) (by rfl) (World.news_of_block (cs:=#[.int .i64 kd,.string ⟨((l.drop p).take n).toArray⟩,.string ⟨((l.drop E).take m).toArray⟩]) (t:=90) (fr:=(0,0))<|heap_alloc_new W2 _) (by simp[Value.oneCell']) (by omega) hsz3 hsz2 (by simp;omega) (W2.heap.size+1) (by simp) ?_;intro gg cap w3 hown3 hgrow hat hlt3))
     have hc03:w3.cell? ⟨B,0,none⟩=some (.int .i64 m):=by rename_i hh;exact hh.1
     have HX:=Lib.hid (((HX2.out.alloc _).drew).grown hgrow (λk hk=>(hown2.lt k hk).1));have HO1:=Lib.hid (show w3.ownsRow w.heap.size 90 3 (.slice (some ⟨gg,0,none⟩) (acc.length+1) cap) (acc++[TokZ.mk kd ((l.drop p).take n) ((l.drop E).take m)]).length (eE (acc++[TokZ.mk kd ((l.drop p).take n) ((l.drop E).take m)]))from by
      rw[Dx,aab];exact hown3)
     clear hown3 hgrow hat hown2 hsz2 hsz3 hi0 hz0 hz1 hz2 hwr hwr0 hb6 hc0 hc1
     go_wp2
     go_roundg (l.length-(E+m))
     case measure=>omega
     case rel=>
      refine⟨E+m,F',acc++[TokZ.mk kd ((l.drop p).take n)<|(l.drop E).take m],by omega,rfl,by go_num,by simp;omega,by omega,?_,HO1.out,HX.out⟩;rw[<-HSc.out,Mb HLd.out HnE.out (by rw[HDp.out];exact HT.out),HDp.out,List.drop_drop,<-HEE.out]
      congr 2<;>omega
theorem Si(l:YB)(w:World)(hl:l.length<=281474976710656):Calls prog 141 #[.string ⟨l.toArray⟩] w (ScanPost l w):=by
 by_cases h4:4096<l.length
 ·have HS:=Lib.hid (show je l=⟨[],[],4096,3⟩from by simp[je,h4])
  go_enter func141,ntmps141
  go_wp2
  exact bodyPost_ret (v:=.tuple #[.slice none 0 0,.string ⟨([]:YB).toArray⟩,.int .i64 4096,.int .i64 3]) (by simp[results,results141,go_sem]) rfl<|GB HS.out rfl rfl rfl (xn _)<|Ext.refl _
 ·have HS:=Lib.hid (show je l=scanT (l.length+1) l 0 []from by simp[je,h4])
  go_enter func141,ntmps141
  go_wp2_with fail
  refine(Qa _ _<|by omega).mono ?_;rintro e w' ⟨v,rfl,Z,G⟩;obtain⟨A,c,rfl,O,hc2,J⟩:=Z;have HR:=Lib.hid J;clear J;have HX:=Lib.hid G;clear G;rw[<-HS.out]at HR O⊢
  go_wp2
  exact bodyPost_ret (v:=.tuple #[.slice A (je l).toks.length c,.string ⟨(je l).tail.toArray⟩,.int .i64 ((je l).place:Nat),.int .i64 ((je l).err:Nat)]) (by simp[results,results141,go_sem]) rfl ⟨_,rfl,⟨A,c,rfl,O,hc2,HR.out⟩,HX.out⟩
theorem zR:∀(l:List TokZ) (k:Nat) (h:k<l.length),(eE l)[k*3]?=some (.int .i64 l[k].kind)∧(eE l)[k*3+1]?=some (.string ⟨l[k].lead.toArray⟩)∧(eE l)[k*3+2]?=some (.string ⟨l[k].text.toArray⟩)
 |t::l,0,_=>⟨rfl,rfl,rfl⟩
 | t::l,k+1,h=>by
  have ih:=zR l k (by simpa using h);have e:eE (t::l)=[.int .i64 t.kind,.string ⟨t.lead.toArray⟩,.string ⟨t.text.toArray⟩]++eE l:=rfl;rw[e];refine⟨?_,?_,?_⟩
  ·rw[List.getElem?_append_right (by simp;omega)];simpa[Nat.succ_mul]using ih.1
  ·rw[List.getElem?_append_right (by simp;omega)];have :(k+1)*3+1-3=k*3+1:=by omega
   simpa[this]using ih.2.1
  ·rw[List.getElem?_append_right (by simp;omega)];have :(k+1)*3+2-3=k*3+2:=by omega
   simpa[this]using ih.2.2
theorem CJ{w:World}{A:Option Addr}{l:List TokZ}(h:Row w 3 A l.length<|eE l)(J:k<l.length):
  ∃b off,A=some ⟨b,off,none⟩∧b<w.heap.size∧w.cell? ⟨b,off+k*3,none⟩=some (.int .i64 l[k].kind)∧w.cell? ⟨b,off+k*3+1,none⟩=some (.string ⟨l[k].lead.toArray⟩)∧w.cell? ⟨b,off+k*3+2,none⟩=some (.string ⟨l[k].text.toArray⟩):=by
 obtain⟨b,off,rfl,hb,G⟩:=h.2 (by omega);obtain⟨O,h1,h2⟩:=zR l k J;refine⟨b,off,I,hb,?_,?_,?_⟩
 ·rw[G _ (by omega),O]
 ·rw[aav,G _ (by omega),h1]
 ·rw[aav,G _ (by omega),h2]
set_option maxHeartbeats 1000000 in
theorem Qx(l:YB)(w:World)(hl:l.length<=281474976710656):Calls prog 143 #[.string ⟨l.toArray⟩] w λe w'=>e=.returned (.int .i64 (bi l:Nat))∧w=w':=by
 by_cases G:l=[]
 ·subst G
  go_enter func143,ntmps143
  go_wp2
  go_ret
  exact⟨I,I⟩
 ·have hb1:(l==[])=false:=by simpa using G
  have hb2:l.isEmpty=false:=by simpa using G
  have J:0<l.length:=List.length_pos_iff.2 G;obtain⟨k,n,e,Z⟩:∃k n e,tokenT l=(k,n,e):=⟨_,_,_,rfl⟩;have HT:=Lib.hid Z;have HC:=Lib.hid (show bi l=if e=0∧n=l.length then k else 0 from by simp only[bi,if_neg G,Z]);clear Z G
  go_enter func143,ntmps143
  go_wp2_with fail
  refine(PX _ _ J hl).mono ?_;rintro e0 w' ⟨rfl,rfl⟩;rw[HT.out];by_cases he:e=0
  ·subst he;by_cases O:n=l.length
   ·have hnb:((n:Int)!=(l.length:Int))=false:=by simp;omega
    have HR:=Lib.hid<|HC.out.trans<|if_pos ⟨rfl,O⟩;clear O
    go_wp2
    go_ret
    exact⟨bP (by rw[HR.out]),I⟩
   ·have hnb:((n:Int)!=(l.length:Int))=true:=by simp;omega
    have HR:=Lib.hid<|HC.out.trans<|if_neg λh=>O h.2;clear O
    go_wp2
    go_ret
    exact⟨bP (by rw[HR.out];rfl),I⟩
  ·have heb:((e:Int)!=0)=true:=by simp;omega
   have HR:=Lib.hid<|HC.out.trans<|if_neg λh=>he h.1
   go_wp2
   go_ret
   exact⟨bP (by rw[HR.out];rfl),I⟩
theorem yD{c:UInt8}(G:0<l.length)(J:l[0]=c)(h:ct c=true∨c.toNat=35):tokenT l=(0,0,2):=by
 have hv:c.toNat=9∨c.toNat=10∨c.toNat=13∨c.toNat=32∨c.toNat=35:=by
  rcases h with h|h
  ·simp[ct]at h;omega
  ·omega
 have O:be c=true:=by
  rcases hv with h|h|h|h|h<;>simp[be,ct,eu,h]
 have hs:sk.contains c=false:=by
  have h:∀n:UInt8,(c==n)=(c.toNat==n.toNat):=λn=>by rw[Bool.eq_iff_iff];simp[UInt8.toNat_inj]
  simp only[sk,List.contains_cons,List.contains_nil,Bool.or_false,h];rcases hv with h|h|h|h|h<;>rw[h]<;>rfl
 rw[yH G J,if_neg (by simp[O]),if_neg (by simp[bB,cR,upperB];omega),if_neg (by simp[br];omega),if_neg (by omega),if_neg (by omega),if_neg (by rw[hs];simp)]
set_option maxHeartbeats 1000000 in
theorem Fh(l:YB)(w:World)(hl:l.length<=281474976710656):Calls prog 140 #[.string ⟨l.toArray⟩] w λe w'=>e=.returned (.int .i64 (bi l:Nat))∧Ext w w':=by
 by_cases J:l=[]
 ·subst J
  go_enter func140,ntmps140
  go_wp2
  go_ret
  exact⟨I,Ext.refl _⟩
 ·have hb1:(l==[])=false:=by simpa using J
  have hb2:l.isEmpty=false:=by simpa using J
  have hpos:0<l.length:=List.length_pos_iff.2 J;obtain⟨k,n,e,hT⟩:∃k n e,tokenT l=(k,n,e):=⟨_,_,_,rfl⟩;have HT:=Lib.hid hT;have HC:=Lib.hid (show bi l=if e=0∧n=l.length then k else 0 from by simp only[bi,if_neg J,hT]);clear hT J;obtain⟨c,hc⟩:∃c,({data:=l.toArray}:ByteArray)[0]'hpos=c:=⟨_,rfl⟩;have HC0:=Lib.hid<|show l[0]=c from hc;cases hw:ct c
  rotate_left
  ·have O:(k,n,e)=(0,0,2):=HT.out.symm.trans<|yD hpos HC0.out<|.inl hw;have HR:=Lib.hid (show bi l=0 from by simp only[Prod.mk.injEq]at O;rw[HC.out,if_neg<|by omega]);clear O
   go_enter func140,ntmps140
   go_wp2_with (first|(go_at_call 174;refine qmm (kK _ _) ?_))
   go_ret
   exact⟨bP (by rw[HR.out];rfl),Ext.refl _⟩
  cases h35:((c.toNat:Int)==35)
  rotate_left
  ·have O:(k,n,e)=(0,0,2):=HT.out.symm.trans<|yD hpos HC0.out<|.inr<|dQ (m:=35) h35;have HR:=Lib.hid (show bi l=0 from by simp only[Prod.mk.injEq]at O;rw[HC.out,if_neg<|by omega]);clear O
   go_enter func140,ntmps140
   go_wp2_with (first|(go_at_call 174;refine qmm (kK _ _) ?_))
   go_ret
   exact⟨bP (by rw[HR.out];rfl),Ext.refl _⟩
  have CN:=Lib.hid λw=>Ok l 0 0 rfl w hpos hl
  go_enter func140,ntmps140
  go_wp2_with (first|(go_at_call 174;refine qmm (kK _ _) ?_))
  refine(CN.out _).mono ?_;rintro e0 w1 ⟨rfl,G⟩;rw[List.drop_zero,HT.out];have HX:=Lib.hid G;clear G CN;by_cases he:e=0
  ·subst he;have HI:=Lib.hid (show oI 0 (k,n,0)=.agg #[.int .i64 n,.int .i64 k,.int .i64 0,.int .i64 0]from by simp[oI]);rw[HI.out];clear HI;by_cases Z:n=l.length
   ·have hnb:((n:Int)!=(l.length:Int))=false:=by simp;omega
    have HR:=Lib.hid<|HC.out.trans<|if_pos ⟨rfl,Z⟩;clear Z
    go_wp2
    go_ret
    exact⟨bP (by rw[HR.out]),HX.out.alloc _⟩
   ·have hnb:((n:Int)!=(l.length:Int))=true:=by simp;omega
    have HR:=Lib.hid<|HC.out.trans<|if_neg λh=>Z h.2;clear Z
    go_wp2
    go_ret
    exact⟨bP (by rw[HR.out];rfl),HX.out.alloc _⟩
  ·have HI:=Lib.hid (show oI 0 (k,n,e)=.agg #[.int .i64 0,.int .i64 0,.int .i64 e,.int .i64 ((0+n:Nat):Int)]from by simp[oI,he]);rw[HI.out];clear HI;have heb:((e:Int)!=0)=true:=by simp;omega
   have HR:=Lib.hid<|HC.out.trans<|if_neg λh=>he h.1
   go_wp2
   go_ret
   exact⟨bP (by rw[HR.out];rfl),HX.out.alloc _⟩
open Go.RowKit Lx Sx
variable{fid:FuncId}
theorem sum0_calls{us:List V}{v:V}(G:pureL us=true)(J:v.pure=true)(h:∀(S:Nat->Prop) w ρ xs,LRel S w ρ us xs->Calls prog fid xs.toArray w λe w'=>∃x,e=.returned x∧VRel S w' ρ v x∧Chg [] w w'):sO prog fid us v:=
 ⟨G,J,λS w ρ xs hr hx=>(h S w ρ xs hx).mono λe w' ⟨x,h1,h2,O⟩=>
  ⟨x,S,ρ,v,_,h1,rfl,hr.chg0 O,⟨ChgP.of0 O,λ_ h=>h,λ_ h=>.inl h,λid b hb=>.inl ⟨id,hb⟩,λid x h=>by
   simp only[xm]at h;split at h
   ·exact h
   ·cases h⟩,h2⟩⟩
theorem BN{w:World}(h:Ext w w'):Chg [] w w':=Chg.of_ext h []
theorem OS(l:YB)(G:l.length<=281474976710656):sO prog 143 [.str l] (.int .i64 (bi l:Nat)):=
 sum0_calls rfl rfl λS w ρ xs hx=>by simp only[LRel]at hx;obtain⟨x,ys,rfl,h1,rfl⟩:=hx;simp only[VRel]at h1;subst h1;exact(Qx l w G).mono λe w' ⟨h1,h2⟩=>⟨_,h1,by simp only[VRel],h2▸Chg.refl _ _⟩
theorem Nw(l:YB)(G:l.length<=281474976710656):sO prog 140 [.str l] (.int .i64 (bi l:Nat)):=
 sum0_calls rfl rfl λS w ρ xs hx=>by simp only[LRel]at hx;obtain⟨x,ys,rfl,h1,rfl⟩:=hx;simp only[VRel]at h1;subst h1;exact(Fh l w G).mono λe w' ⟨h1,h2⟩=>⟨_,h1,by simp only[VRel],BN h2⟩
def ep:List YB->Nat
 |[]=>0
 |l::r=>l.length+1+ep r
mutual
def tbulk:Tree->Nat
 |.node _ s ls ks=>s.length+ep ls+kbulk ks+1
def kbulk:YT->Nat
 |[]=>0
 |t::r=>tbulk t+kbulk r
end
theorem bU(t:Tree):0<tbulk t:=by cases t;simp only[tbulk];omega
theorem fD:∀(ks:YT),ks.length<=kbulk ks
 |[]=>aaf _
 |t::r=>by have :=fD r;have :=bU t;simp only[kbulk,aac];omega
theorem bR:∀{ks:YT} {i:Nat} {t:Tree},ks[i]?=some t->tbulk t<=kbulk ks
 |[],i,t,h=>by simp at h
 |u::r,0,t,h=>by simp only[List.getElem?_cons_zero,aad]at h;subst h;simp only[kbulk];omega
 |u::r,i+1,t,h=>by have :=bR (ks:=r) (i:=i) (by simpa using h);simp only[kbulk];omega
theorem gm:∀(a b:YT),kbulk (a++b)=kbulk a+kbulk b
 |[],b=>by simp[kbulk]
 |t::r,b=>by simp only[aay,kbulk,gm r b];omega
theorem AJ:∀(l:List YB),l.length<=ep l
 |[]=>aaf _
 |x::r=>by have :=AJ r;simp only[ep,aac];omega
theorem AK:∀{l:List YB} {i:Nat} {x:YB},l[i]?=some x->x.length+1<=ep l
 |[],i,x,h=>by simp at h
 |u::r,0,x,h=>by simp only[List.getElem?_cons_zero,aad]at h;subst h;simp only[ep];omega
 |u::r,i+1,x,h=>by have :=AK (l:=r) (i:=i) (by simpa using h);simp only[ep];omega
theorem bm(t:Tree):tbulk t=t.text.length+ep t.leads+kbulk t.kids+1:=by cases t;simp[tbulk,Tree.text,Tree.leads,Tree.kids]
variable{i:Nat}
theorem aF{t u:Tree}(h:t.kids[i]?=some u):tbulk u<tbulk t:=by have :=bR h;rw[bm t];omega
theorem bw(t:Tree):t.kids.length<tbulk t:=by have :=fD t.kids;rw[bm t];omega
theorem cO(t:Tree):t.text.length<tbulk t:=by rw[bm t];omega
theorem Dd(t:Tree):t.leads.length<tbulk t:=by have :=AJ t.leads;rw[bm t];omega
theorem da{C:Tree->Prop}(h:∀t:Tree,(∀(i:Nat) (u:Tree),t.kids[i]?=some u->C u)->C t):∀t,C t:=λt=>by
 have :∀n t,tbulk t<=n->C t:=λn=>by
  induction n with
  |zero=>intro t ht;have :=bU t;omega
  |succ n ih=>intro t ht;exact h t λi u G=>ih u (by have :=aF G;omega)
 exact this _ t<|aaf _
theorem aV{α:Type}(l:List α)(i:Nat):(∃x,l[i]?=some x∧i<l.length)∨(¬i<l.length):=by
 by_cases h:i<l.length
 ·exact .inl ⟨l[i],by simp[h],h⟩
 ·exact .inr h
theorem aX{α:Type}{l:List α}{x:α}(h:l[i]?=some x):l.drop i=x::l.drop (i+1):=by obtain⟨G,rfl⟩:=List.getElem?_eq_some_iff.1 h;exact aam G
set_option maxHeartbeats 1000000
def f0(n:Int)(least leads list:Nat)(most:Int):Int:=if 0<=most∧most<n then-1 else if n<least then-1 else if most<0∧(list:Int)<n then leads+(n-list-1)else leads
def dJ(k n:Int):Int:=if k=1 then(if n<0 then-1 else 3)else if k=2 then f0 n 2 6 2 (-1)else if k=16 then f0 n 0 3 0 (-1)else if k=18 then f0 n 1 2 0 (-1)else if k=3 then f0 n 1 3 0 1 else if k=4 then f0 n 1 2 0 1 else if k=8 then f0 n 1 2 0 1 else if k=22 then f0 n 1 2 0 1 else if k=17 then f0 n 1 0 0 1 else if k=19 then f0 n 3 3 0 3 else if k=20 then f0 n 2 4 0 2 else if k=21 then f0 n 2 1 0 2 else if k=5∨k=6∨k=7∨k=9∨k=10∨k=11∨k=12∨k=13∨k=14∨k=15 then f0 n 0 1 0 0 else-1
theorem uG(a b c:Int):ga a b c (if a<b then-1 else c):=zH 0 _ _ _ _ ⟨λh=>by rw[if_pos h],λh=>by rw[if_neg h]⟩
theorem QU(a b c:Int):cD a b c (if a=b then c else-1):=yf 0 _ _ _ _ ⟨λh=>by rw[if_pos h],λh=>by rw[if_neg h]⟩
theorem Rk(m:Nat){n:Int}(J:0<=n)(h1:n<=1000000000)(a b c:Nat)(z:Int)(hb:b<=10)(O:c<=2)(G:¬(0<=z∧z<n)):mg (m+1) n a b c z (f0 n a b c z):=by
 refine Ab m _ _ _ _ _ _ ⟨λh=>⟨λh'=>⟨by omega,by omega,by omega,_,uG _ _ _,?_⟩,λh'=>⟨_,uG _ _ _,?_⟩⟩,λh=>⟨_,uG _ _ _,?_⟩⟩
 ·simp only[f0,if_neg G,h,h',true_and,if_true]
 ·simp only[f0,if_neg G,h,h',true_and,if_false]
 ·simp only[f0,if_neg G,h,false_and,if_false]
theorem Qr(m:Nat){n:Int}(G:0<=n)(h1:n<=1000000000)(a b c:Nat)(z:Int)(hb:b<=10)(J:c<=2):aT (m+2) n a b c z (f0 n a b c z):=by
 refine Ac (m+1) _ _ _ _ _ _ ⟨λh=>⟨λh'=>?_,λh'=>Rk m G h1 _ _ _ _ hb J<|by omega⟩,λh=>Rk m G h1 _ _ _ _ hb J<|by omega⟩;simp[f0,h,h']
theorem OP{k n:Int}(O:0<=n)(h1:n<=1000000000):rN k n (dJ k n):=by
 have Z:∀{r:Int} (a b c:Nat) (z:Int),b<=10->c<=2->r=f0 n a b c z->aT 3 n a b c z r:=λa b c z hb G e=>by rw[e];exact Qr 1 O h1 a b c z hb G
 have J:∀{r:Int} (a b c:Nat) (z:Int),b<=10->c<=2->r=f0 n a b c z->aT 4 n a b c z r:=λa b c z hb G e=>by rw[e];exact Qr 2 O h1 a b c z hb G
 refine AX 4 _ _ _ ?_
 repeat' first|(refine⟨_,uG _ _ _,?_⟩)|(refine And.intro (λ_=>?_) λ_=>?_)|(refine Ae 3 _ _ _ _ ?_)
 all_goals first|(refine J _ _ _ _ (by decide) (by decide) ?_)|(refine Z _ _ _ _ (by decide) (by decide) ?_)|skip
 all_goals simp_all[dJ]
theorem xt{k n:Int}(G:0<=n)(h1:n<=1000000000):fT k n (dJ k n):=by
 refine xr 2 _ _ _ ?_
 repeat' first|(refine⟨_,QU _ _ _,?_⟩)|(refine And.intro (λ_=>?_) λ_=>?_)|(refine wv 1 _ _ _ _ ?_)|(refine wA 0 _ _ _ _ ?_)|(refine And.intro (by omega) ?_)
 all_goals simp_all[dJ]
 all_goals (try unfold f0)
 all_goals (repeat' split)
 all_goals omega
def uH(x:YB):Bool:=x==[43]||x==[45]||x==[42]||x==[60]||x==[61,61]
def iQ(k:Int)(x:YB):Bool:=if k=1∨k=3 then(bi x:Int)==2 else if k=2∨k=4∨k=12∨k=20 then(bi x:Int)==1 else if k=9 then(bi x:Int)==2||(bi x:Int)==4 else if k=16 then(bi x:Int)==1||(bi x:Int)==3 else if k=10 then(bi x:Int)==5 else if k=11 then(bi x:Int)==6 else if k=21 then uH x else x==[]
theorem JQ(x:YB):nP x (uH x):=by
 refine yw 0 _ _ ?_
 repeat' (refine And.intro (λ_=>?_) λ_=>?_)
 all_goals simp_all[uH]
theorem Gh(x:YB):iL x (uH x):=by
 refine tj 0 _ _ ?_
 repeat' (refine And.intro (λ_=>?_) λ_=>?_)
 all_goals simp_all[uH]
theorem Ng(k:Int)(x:YB)(hx:x.length<=281474976710656):re k x (iQ k x):=by
 refine zV 2 _ _ _ ?_;refine⟨_,OS x hx,?_⟩
 repeat' first|(refine⟨_,JQ _,?_⟩)|(refine And.intro (λ_=>?_) λ_=>?_)|(refine zK 1 _ _ _ _ _ ?_)|(refine zJ 0 _ _ _ _ _ ?_)
 all_goals simp_all[iQ]
theorem Ld(k:Int)(x:YB)(hx:x.length<=281474976710656):jY k x (iQ k x):=by
 refine ut 2 _ _ _ ?_;refine⟨_,Nw x hx,?_⟩
 repeat' first|(refine⟨_,Gh _,?_⟩)|(refine And.intro (λ_=>?_) λ_=>?_)|(refine tA 1 _ _ _ _ _ ?_)|(refine tP 0 _ _ _ _ _ ?_)
 all_goals simp_all[iQ]
def gN(k:Int):Bool:=decide<|5<=k∧k<=9
def fv(k:Int):Bool:=decide<|10<=k∧k<=22∧k≠17
def uI(k:Int):Bool:=fv k&&decide (k≠19∧k≠20∧k≠21)
theorem MY(k:Int):mu k (gN k):=AE 0 _ _ ⟨λh=>by simp[gN,h],λh=>by simp[gN,h]⟩
theorem Mg(k:Int):ic k (gN k):=wz 0 _ _ ⟨λh=>by simp[gN,h],λh=>by simp[gN,h]⟩
theorem zd(a b:Int):(a !=b)=decide (a≠b):=by by_cases h:a=b<;>simp[h]
theorem FC(k:Int):eQ k (fv k):=vM 0 _ _ ⟨λh=>⟨λh'=>by simp[fv,h,h',zd],λh'=>by simp[fv,h,h']⟩,λh=>by simp[fv,h]⟩
theorem CM(k:Int):fh k (fv k):=vN 0 _ _ ⟨λh=>⟨λh'=>by simp[fv,h,h',zd],λh'=>by simp[fv,h,h']⟩,λh=>by simp[fv,h]⟩
theorem Na(k:Int):qY k (uI k):=by
 refine zZ 0 _ _ ⟨_,FC k,?_⟩
 repeat' (refine And.intro (λ_=>?_) λ_=>?_)
 all_goals simp_all[uI,zd]
theorem yU(k:Int):io k (uI k):=by
 refine vO 0 _ _ ⟨_,CM k,?_⟩
 repeat' (refine And.intro (λ_=>?_) λ_=>?_)
 all_goals simp_all[uI,zd]
def fi(k n:Int)(i:Int)(kk:Int):Bool:=if k=1 then kk==2||kk==3 else if k=2 then(if i=n-1 then fv kk else if i=n-2 then gN kk else kk==4)else if k=3∨k=4∨k=8 then gN kk else if k=16 then kk==17 else if k=21 then uI kk||(decide (i=0)&&kk==21)else fv kk
theorem Pb{t u:Tree}(G:t.kids[i]?=some u):rR t i (fi t.kind t.kids.length i u.kind):=by
 refine Bx 1 _ _ _ ⟨i,I,u,G,?_⟩
 repeat' first|(refine⟨_,FC _,?_⟩)|(refine⟨_,MY _,?_⟩)|(refine⟨_,Na _,?_⟩)|(refine And.intro (λ_=>?_) λ_=>?_)|(refine Ak 0 _ _ _ _ _ ?_)
 all_goals simp_all[fi]
theorem SV(t:Tree)(i:Nat)(kk:Int):nN t i kk (fi t.kind t.kids.length i kk):=by
 refine yC 1 _ _ _ _ ?_
 repeat' first|(refine⟨_,CM _,?_⟩)|(refine⟨_,Mg _,?_⟩)|(refine⟨_,yU _,?_⟩)|(refine And.intro (λ_=>?_) λ_=>?_)|(refine ye 0 _ _ _ _ _ ?_)
 all_goals simp_all[fi]
mutual
def shapeK:Tree->Bool
 |.node k s _ ks=>decide (0<=dJ k ks.length)&&iQ k s&&shapeKs k ks.length 0 ks
def shapeKs(k n:Int):Nat->YT->Bool
 |_,[]=>true
 |i,t::r=>fi k n i t.kind&&shapeK t&&shapeKs k n (i+1) r
end
theorem aY(t:Tree):shapeK t=(decide (0<=dJ t.kind t.kids.length)&&iQ t.kind t.text&&shapeKs t.kind t.kids.length 0 t.kids):=by cases t;simp only[shapeK];rfl
theorem oV:∀t:Tree,tbulk t<=1000000000->dW t (shapeK t):=da λt ih hb=>by
 have hk:=bw t;have ht:=cO t;have loop:∀m i,t.kids.length-i<=m->(0<=dJ t.kind t.kids.length∧iQ t.kind t.text=true)->lF (m+1) t i (shapeKs t.kind t.kids.length i<|t.kids.drop i):=λm=>by
  induction m with
  |zero=>
   intro i hi hw;refine sU 0 _ _ _ ⟨λh=>by omega,λh=>?_⟩;rw[List.drop_of_length_le (by omega),shapeKs]
  | succ m ihm=>
   intro i hi hw;refine sU (m+1) _ _ _ ⟨λh=>?_,λh=>?_⟩
   ·obtain⟨u,hu,_⟩|h':=aV t.kids i
    ·rw[aX hu,shapeKs];have hbu:=aF hu;refine⟨u,hu,_,Pb hu,λh1=>by simp[h1],λh1=>⟨_,ih i u hu (by omega),λh2=>by simp[h1,h2],λh2=>⟨by omega,?_⟩⟩⟩;simp only[h1,h2,Bool.true_and];exact ihm (i+1) (by omega) hw
    ·exact absurd h h'
   ·rw[List.drop_of_length_le (by omega),shapeKs]
 rw[aY];refine Ag (t.kids.length+1) _ _ ⟨_,OP (by omega) (by omega),λh=>?_,λh=>⟨_,Ng _ _ (by omega),λh1=>by simp[h1],λh1=>?_⟩⟩
 ·rw[decide_eq_false<|by omega];rfl
 ·rw[decide_eq_true (by omega),h1];exact loop _ 0 (by omega) ⟨by omega,h1⟩
theorem CY:∀t:Tree,tbulk t<=1000000000->fk t (shapeK t):=da λt ih hb=>by
 have hk:=bw t;have ht:=cO t;have loop:∀m i,t.kids.length-i<=m->gx (m+1) t i (shapeKs t.kind t.kids.length i<|t.kids.drop i):=λm=>by
  induction m with
  |zero=>
   intro i hi;refine og 0 _ _ _ ⟨λh=>by omega,λh=>?_⟩;rw[List.drop_of_length_le (by omega),shapeKs]
  | succ m ihm=>
   intro i hi;refine og (m+1) _ _ _ ⟨λh=>?_,λh=>?_⟩
   ·obtain⟨u,hu,_⟩|h':=aV t.kids i
    ·rw[aX hu,shapeKs];have hbu:=aF hu;refine⟨u,hu,_,SV _ _ _,λh1=>by simp[h1],λh1=>⟨u,hu,_,ih i u hu (by omega),λh2=>by simp[h1,h2],λh2=>?_⟩⟩;simp only[h1,h2,Bool.true_and];exact ihm (i+1) (by omega)
    ·exact absurd h h'
   ·rw[List.drop_of_length_le (by omega),shapeKs]
 rw[aY];refine wf (t.kids.length+1) _ _ ⟨_,xt (by omega) (by omega),λh=>?_,λh=>⟨_,Ld _ _ (by omega),λh1=>by simp[h1],λh1=>?_⟩⟩
 ·rw[decide_eq_false<|by omega];rfl
 ·rw[decide_eq_true (by omega),h1];exact loop _ 0 (by omega)
open Go.RowKit
set_option maxHeartbeats 1000000 in
theorem Hq(s:ByteArray)(c:Int)(w:World):Calls prog 163 #[.string s,.int .u8 c] w λe w'=>e=.returned (.int .i64<|Lib.indexByte s.data.toList c.toNat.toUInt8)∧w=w':=by
 go_enter func163,ntmps163
 go_wp2
 rw[run_callFunc_extern func185 (by kernel_rfl) (by kernel_rfl) (by kernel_rfl) (e:=Extern.BytealgIndexByte.indexByte) (by kernel_rfl),Lib.run_indexByteString];simp only[Result.andThen];rw[Oper.upon_value]
 go_wp2
 go_ret
 exact⟨I,I⟩
theorem Je(s:ByteArray)(c:Int)(w:World):Calls prog 121 #[.string s,.int .u8 c] w λe w'=>e=.returned (.int .i64<|Lib.indexByte s.data.toList c.toNat.toUInt8)∧w=w':=by
 go_enter func121,ntmps121
 go_wp2_with (go_at_call 163;refine qmm (Hq _ _ _) ?_)
 go_ret
 exact⟨I,I⟩
def jA(s:YB):YT->Nat->Int
 |[],_=>-1
 |t::r,i=>if t.text=s then(i:Int)else jA s r (i+1)
theorem qM(s:YB):∀(l:YT) (i:Nat),jA s l i=-1∨∃k t,jA s l i=((i+k:Nat):Int)∧l[k]?=some t∧t.text=s∧∀j u,j<k->l[j]?=some u->u.text≠s
 |[],i=>.inl rfl
 | t::r,i=>by
  simp only[jA];split
  ·rename_i h;exact .inr ⟨0,t,I,I,h,λj u hj _=>by omega⟩
  ·rename_i h;rcases qM s r (i+1)with h1|⟨k,u,h1,h2,h3,h4⟩
   ·exact .inl h1
   ·refine .inr ⟨k+1,u,by rw[h1];congr 1;omega,by simpa using h2,h3,λj x hj hx=>?_⟩;cases j with
    |zero=>simp at hx;subst hx;exact h
    |succ j=>exact h4 j x (by omega) (by simpa using hx)
theorem MQ(t:Tree)(s:YB):rJ t s (t.text==s):=AZ 0 _ _ _ rfl
theorem Gu(l:YT)(s:YB)(hl:l.length<=1000000000):mK l s (jA s l 0):=by
 have loop:∀m i,l.length-i<=m->iP (m+1) l s i (jA s (l.drop i) i):=λm=>by
  induction m with
  |zero=>
   intro i hi;refine pY 0 _ _ _ _ ⟨λh=>by omega,λh=>?_⟩;rw[List.drop_of_length_le (by omega),jA]
  | succ m ihm=>
   intro i hi;refine pY (m+1) _ _ _ _ ⟨λh=>?_,λh=>?_⟩
   ·obtain⟨u,hu,_⟩|h':=aV l i
    ·rw[aX hu,jA];refine⟨u,hu,_,MQ u s,λh1=>?_,λh1=>⟨by omega,?_⟩⟩
     ·rw[if_pos<|by simpa using h1]
     ·rw[if_neg<|by simpa using h1];exact ihm (i+1) (by omega)
    ·exact absurd h h'
   ·rw[List.drop_of_length_le (by omega),jA]
 exact yd _ _ _ _ (loop l.length 0<|by omega)
theorem Hk(l:YT)(s:YB)(G:l.length<=1000000000):qv l s (jA s l 0):=Dr 0 _ _ _ ⟨_,Gu l s G,rfl⟩
def fo:YB->Nat->Int
 |[],_=>-1
 |c::r,i=>if c=46 then(i:Int)else fo r (i+1)
theorem Bq:∀(l:YB) (i:Nat),fo l i=-1∨∃k,fo l i=((i+k:Nat):Int)∧k<l.length
 |[],i=>.inl rfl
 | c::r,i=>by
  simp only[fo];split
  ·exact .inr ⟨0,rfl,by simp⟩
  ·rcases Bq r (i+1)with h1|⟨k,h1,h2⟩
   ·exact .inl h1
   ·exact .inr ⟨k+1,by rw[h1];congr 1;omega,by simp;omega⟩
theorem NZ(c:UInt8):∀(l:YB),-1<=Lib.indexByte l c
 |[]=>by simp[Lib.indexByte]
 |b::r=>by
  have :=NZ c r;simp only[Lib.indexByte];split
  ·omega
  ·split<;>omega
theorem xW:∀(l:YB) (i:Nat),fo l i=if Lib.indexByte l 46=-1 then-1 else Lib.indexByte l 46+(i:Int)
 |[],i=>by simp[fo,Lib.indexByte]
 | c::r,i=>by
  have ih:=xW r<|i+1;have :=NZ 46 r;simp only[fo,Lib.indexByte,ih];by_cases h:c=46
  ·simp[h]
  ·have h':(c==46)=false:=by simpa using h
   simp only[if_neg h,h'];by_cases h2:Lib.indexByte r 46=-1
   ·simp[h2]
   ·have h3:(Lib.indexByte r 46==-1)=false:=by simpa using h2
    simp only[if_neg h2,h3,aaA,if_false];rw[if_neg<|by omega];omega
theorem Gr(l:YB):iJ l 46 (fo l 0):=sum0_calls rfl rfl λS w ρ xs hx=>by
 simp only[LRel]at hx;obtain⟨x,ys,rfl,h1,y,zs,rfl,h2,rfl⟩:=hx;simp only[VRel]at h1 h2;subst h1 h2;refine(Hq _ _ w).mono λe w' ⟨h1,h2⟩=>⟨_,h1,?_,h2▸Chg.refl _ _⟩;simp only[VRel];have e:fo l 0=Lib.indexByte l 46:=by
  rw[xW];split
  ·rename_i h;rw[h]
  ·simp
 rw[e];rfl
theorem Ps(l:YB):ew l (fo l 0):=by
 refine ou 1 _ _ ⟨λh=>?_,λh=>nS 0 _ _ ?_⟩
 ·subst h;rfl
 ·exact⟨_,Gr l,I⟩
theorem Ru(l:YB)(G:l.length<=1000000000):nQ l (if 0<=fo l 0 then l.take (fo l 0).toNat else l) (if 0<=fo l 0 then l.drop ((fo l 0).toNat+1)else[]) (decide<|0<=fo l 0):=by
 refine yL 0 _ _ _ _ ⟨_,_,_,?_,I,I,I⟩;refine pX 0 _ _ _ _ ⟨_,Ps l,λh=>?_,λh=>?_⟩
 ·rcases Bq l 0 with h1|⟨k,h1,h2⟩
  ·rw[h1]at h;omega
  ·rw[h1];exact⟨k,by simp,by omega,by omega,k+1,by simp,by omega,by simp,by simp,by simp⟩
 ·simp[h]
def inK(p:YT)(m:Int)(w:YB):Int×Int×Bool:=if m<0 then(0,0,false)else match p[m.toNat]? with
 |none=>(0,0,false)
 |some t=>if jA w t.kids 0<0 then(0,0,false)else(m,jA w t.kids 0,true)
def aC(p:YT)(m:Int)(w:YB):Int×Int×Bool:=if 0<=fo w 0 then inK p (jA (w.take (fo w 0).toNat) p 0) (w.drop<|(fo w 0).toNat+1)else inK p m w
theorem Hh{p:YT}{m:Int}{w:YB}(G:m<p.length)(J:kbulk p<=1000000000):nk 1 p m w (inK p m w).1 (inK p m w).2.1 (inK p m w).2.2:=by
 refine BA 0 _ _ _ _ _ _ ⟨λh=>by simp[inK,h],λh=>?_⟩;obtain⟨t,ht,_⟩|h':=aV p m.toNat
 ·have :=bR ht;have :=bw t;refine⟨m.toNat,by omega,t,ht,_,Hk _ _ (by omega),λh1=>?_,λh1=>?_⟩
  ·simp[inK,h,ht,h1]
  ·simp[inK,h,ht,h1]
 ·omega
theorem Ff{p:YT}{m:Int}{w:YB}(h0:0<=m)(J:m<p.length)(G:kbulk p<=1000000000)(O:w.length<=1000000000):oR p m w (aC p m w).1 (aC p m w).2.1 (aC p m w).2.2:=by
 have Z:=fD p;refine BL 1 _ _ _ _ _ _ ⟨λh=>by omega,λh=>⟨λh=>by omega,λh=>⟨_,_,_,Ru w O,λh1=>?_,λh1=>?_⟩⟩⟩
 ·have h1:0<=fo w 0:=by simpa using h1
  simp only[if_pos h1,aC];refine⟨_,Hk _ _ (by omega),?_⟩;refine Hh ?_ G;rcases qM (w.take (fo w 0).toNat) p 0 with h2|⟨k,t,h2,h3,_⟩
  ·rw[h2];omega
  ·have :=(List.getElem?_eq_some_iff.1 h3).1;rw[h2];omega
 ·have h1:¬0<=fo w 0:=by simpa using h1
  simp only[aC,if_neg h1];exact Hh J G
mutual
def nodK:Tree->YI->List (YI×Tree)
 |.node k s ls ks,q=>(q,.node k s ls ks)::nodKs ks q 0
def nodKs:YT->YI->Nat->List (YI×Tree)
 |[],_,_=>[]
 |t::r,q,i=>nodK t (q++[(i:Int)])++nodKs r q (i+1)
end
theorem kY(t:Tree)(q:YI):nodK t q=(q,t)::nodKs t.kids q 0:=by cases t;simp only[nodK];rfl
mutual
theorem nodK_len:∀(t:Tree) (q:YI),(nodK t q).length<=tbulk t
 |.node k s ls ks,q=>by have :=nodKs_len ks q 0;simp only[nodK,tbulk,aac];omega
theorem nodKs_len:∀(l:YT) (q:YI) (i:Nat),(nodKs l q i).length<=kbulk l
 |[],_,_=>by simp[nodKs,kbulk]
 |t::r,q,i=>by have :=nodK_len t<|q++[(i:Int)];have :=nodKs_len r q<|i+1;simp only[nodKs,kbulk,aab];omega
end
def atK:Tree->YI->Option Tree
 |t,[]=>some t
 |t,i::r=>if i<0 then none else match t.kids[i.toNat]? with
  |none=>none
  |some u=>atK u r
theorem GJ:∀(t:Tree) (q r:YI),atK t (q++r)=(atK t q).bind λu=>atK u r
 |t,[],r=>rfl
 | t,i::q,r=>by
  simp only[aay,atK];split
  ·rfl
  ·split
   ·rfl
   ·rename_i u hu;exact GJ u q r
theorem OF{t u:Tree}(h:t.kids[i]?=some u):atK t [(i:Int)]=some u:=by simp[atK,h,show¬((i:Int)<0) by omega]
mutual
theorem nodK_at(root:Tree):∀(t:Tree) (q:YI),atK root q=some t->∀x∈nodK t q,atK root x.1=some x.2
 |.node k s ls ks,q,h,x,hx=>by
  simp only[nodK,aah]at hx;rcases hx with rfl|hx
  ·exact h
  ·exact nodKs_at root (.node k s ls ks) q h ks 0 rfl x hx
theorem nodKs_at(root t:Tree)(q:YI)(h:atK root q=some t):∀(l:YT) (i:Nat),t.kids.drop i=l->∀x∈nodKs l q i,atK root x.1=some x.2
 |[],_,_,x,hx=>by simp[nodKs]at hx
 | u::r,i,hd,x,hx=>by
  simp only[nodKs,aai]at hx;have hu:t.kids[i]?=some u:=by have :=congrArg (·[0]?) hd;simpa using this
  rcases hx with hx|hx
  ·exact nodK_at root u (q++[(i:Int)]) (by rw[GJ,h];exact OF hu) x hx
  ·exact nodKs_at root t q h r (i+1) (by rw[<-List.tail_drop,hd];rfl) x hx
end
theorem MZ(l:YI)(G:l.length<=1000000000):oW l l:=zI 0 _ _ λb hb=>⟨λh=>(List.length_eq_zero_iff.1 (hb h)).symm,λ_=>⟨G,rfl⟩⟩
def cH(u:Tree):Bool:=u.kind==16||u.kind==9
def tgK(p:YT)(m:Int)(q:YI)(u:Tree):ar:=⟨⟨m,q⟩,(aC p m u.text).1,(aC p m u.text).2.1,!(aC p m u.text).2.2⟩
def ca(p:YT)(m:Int):List (YI×Tree)->List ar
 |[]=>[]
 |x::r=>(if cH x.2 then[tgK p m x.1 x.2]else[])++ca p m r
theorem rQ(p:YT)(m:Int):∀a b,ca p m (a++b)=ca p m a++ca p m b
 |[],b=>rfl
 |x::r,b=>by simp only[aay,ca,rQ p m r b,aaq]
theorem xP(p:YT)(m:Int):∀a,(ca p m a).length<=a.length
 |[]=>aaf _
 |x::r=>by have :=xP p m r;simp only[ca,aab,aac];split<;>simp <;>omega
theorem Pn{p:YT}{M:Int}(h0:0<=M)(hM:M<p.length)(hp:kbulk p<=1000000000):∀(t:Tree) (q:YI) (fd:List ar),q.length+tbulk t<=1000000000->fd.length+tbulk t<=1000000000->gb p M q fd t p M q (fd++ca p M (nodK t q)):=da λt ih q fd hq hf=>by
 have hk:=bw t;have ht:=cO t;have hb:=bm t;have loop:∀k i fd,t.kids.length-i<=k->fd.length+kbulk (t.kids.drop i)<=1000000000->dP (k+1) t fd p M q i p M q (fd++ca p M (nodKs (t.kids.drop i) q i)):=λk=>by
  induction k with
  |zero=>
   intro i fd hi hf;refine nc 0 _ _ _ _ _ _ _ _ _ _ ⟨λh=>by omega,λh=>⟨I,I,I,?_⟩⟩;rw[List.drop_of_length_le<|by omega];simp[nodKs,ca]
  | succ k ihk=>
   intro i fd hi hf;refine nc (k+1) _ _ _ _ _ _ _ _ _ _ ⟨λh=>?_,λh=>⟨I,I,I,?_⟩⟩
   ·obtain⟨u,hu,_⟩|h':=aV t.kids i
    ·have hd:=aX hu;rw[hd,kbulk]at hf;have hbu:=aF hu;have hl:=nodK_len u<|q++[(i:Int)];have hl2:=xP p M<|nodK u<|q++[(i:Int)];refine⟨u,hu,by simp;omega,_,_,_,_,ih i u hu (q++[(i:Int)]) fd (by simp;omega) (by omega),q.length,by simp,by simp,by omega,?_⟩;have :=ihk (i+1) (fd++ca p M (nodK u<|q++[(i:Int)])) (by omega) (by simp;omega);rw[hd,nodKs,rQ,<-aaq];simpa using this
    ·exact absurd h h'
   ·rw[List.drop_of_length_le<|by omega];simp[nodKs,ca]
 have key:∀b,b=cH t->fH (t.kids.length+3) p M q fd t b p M q (fd++ca p M (nodK t q)):=λb hbb=>by
  rw[kY,ca];refine tI (t.kids.length+2) _ _ _ _ _ _ _ _ _ _ ⟨λh=>?_,λh=>?_⟩
  ·rw[if_pos (by rw[<-hbb];exact h)];refine⟨_,_,_,Ff h0 hM hp (by omega),_,MZ q (by omega),tZ (t.kids.length+1) _ _ _ _ _ _ _ _ _ _ _ _ _ ⟨by simp;omega,?_⟩⟩;have :=loop t.kids.length 0 (fd++[tgK p M q t]) (by omega) (by simp;omega);rw[<-aaq];exact this
  ·rw[if_neg (by rw[<-hbb,h];simp)];have :=loop (t.kids.length+1) 0 fd (by omega) (by simp;omega);simpa using this
 refine uv (t.kids.length+3) _ _ _ _ _ _ _ _ _ ⟨λh=>key _ (by simp[cH,h]),λh=>key _<|by simp[cH,h]⟩
def bn:YT->Bool
 |[]=>true
 |t::r=>t.kind==1&&shapeK t&&bn r
theorem CI(p:YT)(hp:kbulk p<=1000000000):nl p (bn p):=by
 have hl:=fD p;have loop:∀m i,p.length-i<=m->mn (m+1) p i (bn<|p.drop i):=λm=>by
  induction m with
  |zero=>
   intro i hi;refine tM 0 _ _ _ ⟨λh=>by omega,λh=>?_⟩;rw[List.drop_of_length_le (by omega),bn]
  | succ m ihm=>
   intro i hi;refine tM (m+1) _ _ _ ⟨λh=>?_,λh=>?_⟩
   ·obtain⟨u,hu,_⟩|h':=aV p i
    ·rw[aX hu,bn];have :=bR hu;refine⟨u,hu,λh1=>by simp[h1],λh1=>⟨_,oV u (by omega),λh2=>by simp[h1,h2],λh2=>⟨by omega,?_⟩⟩⟩;simp only[h1,h2,beq_self_eq_true,Bool.true_and];exact ihm (i+1) (by omega)
    ·exact absurd h h'
   ·rw[List.drop_of_length_le (by omega),bn]
 exact AU _ _ _ (loop p.length 0<|by omega)
def gH(p:YT):Nat->YT->List ar
 |_,[]=>[]
 |i,t::r=>ca p i (nodK t [])++gH p (i+1) r
theorem Dk(p:YT):∀(i:Nat) (l:YT),(gH p i l).length<=kbulk l
 |_,[]=>aaf _
 |i,t::r=>by
  have :=Dk p (i+1) r;have :=xP p i<|nodK t [];have :=nodK_len t [];simp only[gH,kbulk,aab];omega
def bC(p:YT):List ar:=if bn p then gH p 0 p else[]
theorem yq(p:YT)(hp:kbulk p<=100000000):ld p (bC p):=by
 have hl:=fD p;have loop:∀m i z fd,p.length-i<=m->fd.length+kbulk (p.drop i)<=1000000000->mm (m+1) p p z [] fd i (fd++gH p i (p.drop i)):=λm=>by
  induction m with
  |zero=>
   intro i z fd hi hf;refine tF 0 _ _ _ _ _ _ _ ⟨λh=>by omega,λh=>?_⟩;rw[List.drop_of_length_le<|by omega];simp[gH]
  | succ m ihm=>
   intro i z fd hi hf;refine tF (m+1) _ _ _ _ _ _ _ ⟨λh=>?_,λh=>?_⟩
   ·obtain⟨u,hu,_⟩|h':=aV p i
    ·have :=bR hu;have hd:=aX hu;rw[hd,kbulk]at hf;have :=xP p i<|nodK u [];have :=nodK_len u [];refine⟨u,hu,_,_,_,_,Pn (p:=p) (M:=(i:Int)) (by omega) (by omega) (by omega) u [] fd (by simp;omega) (by omega),by omega,?_⟩;rw[hd,gH,<-aaq];exact ihm (i+1) _ _ (by omega) (by simp;omega)
    ·exact absurd h h'
   ·rw[List.drop_of_length_le<|by omega];simp[gH]
 refine AY (p.length+1) _ _ ⟨_,CI p (by omega),λh=>by simp[bC,h],λh=>?_⟩;have :=loop p.length 0 0 [] (by omega) (by simp;omega);simpa[bC,h]using this
mutual
def wD:ac->Nat
 |.mk _ _ s l=>1+s.length+wDs l
def wDs:List ac->Nat
 |[]=>0
 |d::r=>wD d+wDs r
end
mutual
def sameD:ac->ac->Bool
 |.mk k n s l,.mk k' n' s' l'=>k==k'&&n==n'&&s==s'&&l.length==l'.length&&sameDs l l'
def sameDs:List ac->List ac->Bool
 |[],_=>true
 |_::_,[]=>true
 |a::r,b::q=>sameD a b&&sameDs r q
end
mutual
def formD:ac->Bool
 |.mk k n s l=>if k=1 then s==[]&&((l.length:Nat):Int)==0 else if k=2 then n==0&&((l.length:Nat):Int)==0 else if k=3 then s==[]&&((l.length:Nat):Int)==0&&(n==0||n==1)else if k=4 then formDs l&&s==[]&&n==0 else false
def formDs:List ac->Bool
 |[]=>true
 |d::r=>formD d&&formDs r
end
theorem zC(d:ac):wD d=1+d.S.length+wDs d.L:=by cases d;simp[wD]
theorem tS(d:ac):formD d=(if d.Kind=1 then d.S==[]&&((d.L.length:Nat):Int)==0 else if d.Kind=2 then d.N==0&&((d.L.length:Nat):Int)==0 else if d.Kind=3 then d.S==[]&&((d.L.length:Nat):Int)==0&&(d.N==0||d.N==1)else if d.Kind=4 then formDs d.L&&d.S==[]&&d.N==0 else false):=by cases d;simp[formD]
theorem NH(a b:ac):sameD a b=(a.Kind==b.Kind&&a.N==b.N&&a.S==b.S&&a.L.length==b.L.length&&sameDs a.L b.L):=by cases a;cases b;simp[sameD]
theorem Bu{P:ac->Prop}(h:∀d,(∀x∈d.L,P x)->P d)(d:ac):P d:=by
 refine ac.rec (motive_1:=P) (motive_2:=λl=>∀x∈l,P x) ?_ ?_ ?_ d
 ·intro k n s l ih;exact h _ ih
 ·simp
 ·intro a r h1 h2 x hx;rcases List.mem_cons.1 hx with rfl|hx
  ·exact h1
  ·exact h2 x hx
theorem Me:∀{l:List ac} {x:ac},x∈l->wD x<=wDs l
 |a::r,x,h=>by
  simp only[wDs];rcases List.mem_cons.1 h with rfl|h
  ·omega
  ·have :=Me h;omega
theorem LI(d:ac):1<=wD d:=by rw[zC];omega
theorem GY:∀l:List ac,l.length<=wDs l
 |[]=>aaf _
 |a::r=>by have :=GY r;have :=LI a;simp only[wDs,aac];omega
def GD0:ac:=⟨0,0,[],[]⟩
def dI(n:Int):ac:=⟨1,n,[],[]⟩
def dB(b:Bool):ac:=⟨3,if b=true then 1 else 0,[],[]⟩
abbrev Bnd:=YB×ac
def pd:List Bnd->YB->Option ac
 |[],_=>none
 |b::r,s=>if b.1=s then some b.2 else pd r s
def aM(t:Tree)(i:Nat):Tree:=t.kids.getD i<|.node 0 [] [] []
def fF(t:Tree):Tree:=if t.kind=17 then aM t 0 else t
def BQ:YB->Int->Int
 |[],n=>n
 |c::r,n=>BQ r<|n*10+((c.toNat:Int)-48)
def fm(p:YT)(m d:Int):Tree:=aM (p.getD m.toNat<|.node 0 [] [] []) d.toNat
def fZ(ks:YT)(l:List ac):List Bnd:=List.zipWith (λk d=>(k.text,d)) ks l
def fV(op:YB)(a b:ac):ac×Int:=
 if op=[61,61]then(if a.Kind=b.Kind then(dB<|sameD a b,0)else(GD0,20))
 else if op=[43]∧a.Kind=2∧b.Kind=2 then(if 4096<a.S.length+b.S.length+1 then(GD0,3)else(⟨2,0,a.S++b.S,[]⟩,0))
 else if¬(a.Kind=1∧b.Kind=1)then(GD0,20)
 else if op=[43]then(dI<|IntKind.i64.wrap<|a.N+b.N,0)
 else if op=[45]then(dI<|IntKind.i64.wrap<|a.N-b.N,0)
 else if op=[42]then(dI<|IntKind.i64.wrap<|a.N*b.N,0)
 else(dB<|decide<|a.N<b.N,0)
def evL(f:Tree->Nat->ac×Int×Nat):YT->Nat->List ac×Int×Nat
 |[],r=>([],0,r)
 |t::ts,r=>match f (fF t) r with
  |(d,e,G)=>if e=0 then(match evL f ts G with|(l,J,r'')=>if J=0 then(d::l,0,r'')else([],J,r''))else([],e,G)
def evG(p:YT):Nat->Int->Tree->List Bnd->Nat->ac×Int×Nat
 |0,_,_,_,_=>(GD0,21,0)
 |_+1,_,_,_,0=>(GD0,21,0)
 |g+1,m,t,env,r+1=>
  if t.kind=10 then(dI<|BQ t.text 0,0,r)
  else if t.kind=11 then(⟨2,0,(t.text.drop 1).take<|t.text.length-1-1,[]⟩,0,r)
  else if t.kind=13 then(dB true,0,r)
  else if t.kind=14 then(dB false,0,r)
  else if t.kind=22 then evG p g m (aM t 0) env r
  else if t.kind=12 then(match pd env t.text with|some d=>(d,0,r)|none=>(GD0,7,r))
  else if t.kind=20 then(match evG p g m (aM t 0) env r with|(d,e,G)=>if e=0 then evG p g m (aM t 1) ((t.text,d)::env) G else(GD0,e,G))
  else if t.kind=19 then(match evG p g m (aM t 0) env r with|(d,e,G)=>if e=0 then(if d.Kind=3 then(if d.N=1 then evG p g m (aM t 1) env G else evG p g m (aM t 2) env G)else(GD0,20,G))else(GD0,e,G))
  else if t.kind=18 then(match evL (λk r=>evG p g m k env r) t.kids r with|(l,e,G)=>if e=0 then(if 4096<1+wDs l then(GD0,3,G)else(⟨4,0,[],l⟩,0,G))else(GD0,e,G))
  else if t.kind=16 then(match evL (λk r=>evG p g m k env r) t.kids r with|(l,e,G)=>if e=0 then(if(aC p m t.text).2.2=true then(if(fm p (aC p m t.text).1 (aC p m t.text).2.1).kids.length=l.length+2 then evG p g (aC p m t.text).1 (aM (fm p (aC p m t.text).1 (aC p m t.text).2.1)<|l.length+1) (fZ (fm p (aC p m t.text).1 (aC p m t.text).2.1).kids l) G else(GD0,5,G))else(GD0,7,G))else(GD0,e,G))
  else if t.kind=21 then(match evL (λk r=>evG p g m k env r) t.kids r with|(l,e,G)=>if e=0 then((fV t.text (l.getD 0 GD0)<|l.getD 1 GD0).1,(fV t.text (l.getD 0 GD0)<|l.getD 1 GD0).2,G)else(GD0,e,G))
  else(GD0,7,r)
set_option maxHeartbeats 4000000
structure aA where
 module:Int
 def_:Int
abbrev aA.c(x:aA):List V:=[.int .i64 x.module,.int .i64 x.def_]
abbrev aA.w(x:aA):V:=.agg x.c
def cX:KeyT prog 180 (Int×Int) (λx=>V.agg [(V.int .i64 x.1),(V.int .i64 x.2)]):=Ol (λx=>x.1) (λx=>x.2) (λx y h1 h2=>Prod.ext h1 h2) underlying180 (by kernel_rfl) (by decide) (by decide) rfl rfl underlying3 underlying3
abbrev vE(a0:Int)(a1:YB):Ob:=.var 35 [.int .i64 a0,.str a1,.nils,.nils]
abbrev vD(a0:Int)(a1:YB)(a2:List YB)(a3:YT):Ob:=.var 35 [.int .i64 a0,.str a1,.row 1 (List.map V.str a2),.row 4 (kidsV a3)]
def oL(G J:Tree)(O:Int):Prop:=qS 188 [.agg<|ao G]<|.tup [.agg<|ao J,qi O]
def ms(G:YT)(J:Bool):Prop:=qS 129 [.row 4<|kidsV G]<|.bool J
def mi(J:YT)(G:(List<|(Int×Int)×aA)):Prop:=bv [] prog 130 [.row 4<|kidsV J] ⟨0,[]⟩<|z6 (.sl 0) ⟨1,[(0,.mp 180 180 (List.map (λp=>(λx=>V.agg [(V.int .i64 x.1),(V.int .i64 x.2)]) p.1) G)<|List.map (λp=>aA.w p.2) G)]⟩
def rI(G:YT)(p1:Int)(p2 J:Tree)(O:Int):Prop:=qS 166 [.row 4<|kidsV G,qi p1,.agg<|ao p2]<|.tup [.agg<|ao J,qi O]
def lz(G:YT)(p1 p2:Int)(J:Bool):Prop:=qS 84 [.row 4<|kidsV G,qi p1,qi p2]<|.bool J
def ni(m:Nat)(a:Tree)(b:Nat)(G:Tree)(J:Int):Prop:=z7 m [] f188 (q9<|.tup [.agg<|ao G,qi J]) (cL<|xL<|xA<|aj f188) [.blk 0,.seq<|xH<|aj f188] 16 [(1,.ptr 0 0),(2,.ptr 1 0),(4,qi (b:Int))] ⟨2,[(1,vE 0 []),(0,.var 35<|ao a)]⟩
theorem Ci(m:Nat)(p0 r0:Tree)(r1:Int)(h:ni m p0 0 r0 r1):oL p0 r0 r1:=by
 refine⟨I,I,?_⟩;refine qA 16 [] func188 λK hK=>?_;exact gR 14 I<|go_loop m<|qW hK h [0,1]
theorem uT(m:Nat)(a:Tree)(b:Nat)(G:Tree)(J:Int)(h:y8 a.kind 8 (∃c,a.kids[0]?=some c∧b+1<=9223372036854775807∧ni m c (b+1) G J)<|a=G∧(b:Int)=J):ni (m+1) a b G J:=by
 refine qj λK Z O e=>?_;refine gR 8 rfl<|qXe 7 rfl rfl rfl h ?_ ?_<;>intro hd h;refine gR 8 I ?_;obtain⟨c,d,h⟩:=h;refine gY (aI (ay d) ai I I I I) I I<|gR 6 I ?_;obtain⟨hb,h⟩:=h;exact gR 1 I<|gV 13 (qi ((b+1:Nat):Int)) I (am (by omega)<|by omega) I<|gR 3 I<|go_xloop<|qW O h [0,1];refine gR 3 I<|go_xloopE<|gR 11 I ?_;obtain⟨rfl,rfl⟩:=h;exact go_sub (F':=(mkF 16 0 [(2,.ptr 0 0),(3,qi (b:Int))])) (H':=⟨1,[(0,vD a.kind a.text a.leads a.kids)]⟩) [1] [] I O pq2 (pqo1 I I) I<|qN [.cell 2 35,.tmp 3]
def lx(m:Nat)(G:YT)(a:Nat)(J:Bool):Prop:=z7 m [] Tryz.f129 (q9<|.bool J) (cL<|xE<|cB<|aj Tryz.f129) [.blk 0,.seq<|xA<|aj Tryz.f129] 20 [(5,.row 4<|kidsV G),(6,qi (G.length:Int)),(7,qi (a:Int))] ⟨0,[]⟩
theorem Ar(m:Nat)(p0:YT)(r0:Bool)(h:lx m p0 0 r0):ms p0 r0:=by
 refine⟨I,I,?_⟩;refine qA 20 [] func129 λK hK=>?_;exact gR 10 I<|gV 6 (qi (p0.length:Int)) I (aP<|aJ _) I<|gLB 5 I (aJ _) λa=>gR 4 I<|go_loop m<|qW hK h []
theorem ta(m:Nat)(J:YT)(a:Nat)(G:Bool)(h:y5 (a<J.length) (∃b,J[a]?=some b∧y9 b.kind 1 (false=G) (∃c,dW b c∧y7 c (false=G) (a+1<=9223372036854775807∧lx m J (a+1) G)))<|true=G):lx (m+1) J a G:=by
 refine qj λK j1 Z f=>?_;refine gR 6 rfl<|qXh 8 rfl rfl rfl h cg ch ?_ ?_<;>intro O h;refine gR 7 I ?_;obtain⟨b,d,h⟩:=h;refine gY (aI (ay d) ai rfl rfl rfl rfl) rfl rfl<|gR 11 rfl<|qXhZ 14 13 rfl rfl rfl rfl h cz bH ?_ ?_<;>intro O h;refine gR 15 I<|go_xloopR<|gR 2 I ?_;subst h;exact qN [.tmp 2];refine gR 1 I ?_;obtain⟨c,e,h⟩:=h;refine qC0 e rfl<|gR 4 rfl<|qXh 18 rfl rfl rfl h cv cu ?_ ?_<;>intro O h;refine gR 9 I<|go_xloopR<|gR 2 I ?_;subst h;exact qN [.tmp 2];refine gR 5 I ?_;obtain⟨hb,h⟩:=h;exact gR 1 I<|gV 19 (qi ((a+1:Nat):Int)) I (am (by omega)<|by omega) I<|gR 2 I<|go_xloop<|qW Z h [];refine gR 3 I<|go_xloopE<|gR 8 I ?_;subst h;exact qN [.tmp 2]
def fX(m:Nat)(J:YT)(a:List ar)(b:(List<|(Int×Int)×aA))(c:Nat)(G:(List<|(Int×Int)×aA)):Prop:=z7 m [] f130 (z6 (.sl 0) ⟨1,[(0,.mp 180 180 (List.map (λp=>(λx=>V.agg [(V.int .i64 x.1),(V.int .i64 x.2)]) p.1) G)<|List.map (λp=>aA.w p.2) G)]⟩) (xI<|aj f130) [.blk 0,.seq<|xH<|aj f130] 50 [(0,.row 4<|kidsV J),(3,.sl 0),(9,.row 5<|List.map ar.w a),(10,qi (a.length:Int)),(11,qi (c:Int))] ⟨1,[(0,.mp 180 180 (List.map (λp=>(λx=>V.agg [(V.int .i64 x.1),(V.int .i64 x.2)]) p.1) b)<|List.map (λp=>aA.w p.2) b)]⟩
theorem Au(m:Nat)(p0:YT)(r0:(List<|(Int×Int)×aA))(h:∃a,ld p0 a∧fX m p0 a ([]:(List<|(Int×Int)×aA)) 0 r0):mi p0 r0:=by
 refine qA 50 [] func130 λK hK=>?_;refine gR 2 I<|gY (yMn) I I<|gR 4 I<|gDo (.new<|.mp 180 180 [] []) (dMM 180 180) trivial I I I<|gHM 0 (List.map (λp=>(λx=>V.agg [(V.int .i64 x.1),(V.int .i64 x.2)]) p.1) ([]:(List<|(Int×Int)×aA))) (List.map (λp=>aA.w p.2) ([]:(List<|(Int×Int)×aA))) I I I I<|gR 7 I ?_;obtain⟨a,b,h⟩:=h;exact qC0 b I<|gR 1 I<|gV 10 (qi (a.length:Int)) I (aP<|aQ ar.w _) I<|gLB 9 I (aQ ar.w _) λc=>gR 4 I<|go_loop m<|qW hK h [0]
theorem sX(m:Nat)(G:YT)(e:List ar)(c:(List<|(Int×Int)×aA))(b:Nat)(J:(List<|(Int×Int)×aA))(h:y5 (b<e.length) (∃a,e[b]?=some a∧∃g,a.Use.Path[0]?=some g∧y7 a.Free (∃i,a.Use.Module=((i:Nat):Int)∧∃o,G[i]?=some o∧∃j,g=((j:Nat):Int)∧∃n,o.kids[j]?=some n∧y8 n.kind 3 (b+1<=9223372036854775807∧fX m G e (bS (a.Use.Module,g) (aA.mk a.Module a.Def) c) (b+1) J) (b+1<=9223372036854775807∧fX m G e c (b+1) J)) (b+1<=9223372036854775807∧fX m G e c (b+1) J))<|c=J):fX (m+1) G e c b J:=by
 refine qj λK j1 O z=>?_;refine gR 6 rfl<|qXh 12 rfl rfl rfl h cg ch ?_ ?_<;>intro Z h;refine gR 7 I ?_;obtain⟨a,q,h⟩:=h;refine gY (aI (aB (f:=ar.w) q) ai I I I I) I I<|gR 10 I ?_;obtain⟨g,r,h⟩:=h;refine gY (aI (aB (f:=(V.int .i64)) r) ai rfl rfl rfl rfl) rfl rfl<|gR 10 rfl<|qXhZ 23 22 rfl rfl rfl rfl h cv cu ?_ ?_<;>intro Z h;refine gR 4 I ?_;obtain⟨i,v,h⟩:=h;refine gV 27 (qi ((i:Nat):Int)) I (bd v) I ?_;obtain⟨o,s,h⟩:=h;refine gY (aI (ay s) ai I I I I) I I<|gR 3 I ?_;obtain⟨j,y,h⟩:=h;refine gV 31 (qi ((j:Nat):Int)) I (bd y) I ?_;obtain⟨n,t,h⟩:=h;refine gY (aI (ay t) ai rfl rfl rfl rfl) rfl rfl<|gR 6 rfl<|qXe 36 rfl rfl rfl h ?_ ?_<;>intro Z h;refine gR 13 I<|gDo (.set 0<|.mp 180 180 (List.map (λp=>(λx=>V.agg [(V.int .i64 x.1),(V.int .i64 x.2)]) p.1)<|bS (a.Use.Module,g) (aA.mk a.Module a.Def) c)<|List.map (λp=>aA.w p.2)<|bS (a.Use.Module,g) (aA.mk a.Module a.Def) c) (yA cX (encV:=aA.w) (k:=(a.Use.Module,g)) (d:=(aA.mk a.Module a.Def)) (l:=c) underlying181 I I I I I I I I) (okM I) I I I<|gR 4 I ?_;obtain⟨hb,h⟩:=h;exact gR 1 I<|gV 48 (qi ((b+1:Nat):Int)) I (am (by omega)<|by omega) I<|gR 2 I<|go_xloop<|qW O h [0];refine gR 5 I ?_;obtain⟨hb,h⟩:=h;exact gR 1 I<|gV 48 (qi ((b+1:Nat):Int)) I (am (by omega)<|by omega) I<|gR 2 I<|go_xloop<|qW O h [0];refine gR 20 I ?_;obtain⟨hb,h⟩:=h;exact gR 1 I<|gV 48 (qi ((b+1:Nat):Int)) I (am (by omega)<|by omega) I<|gR 2 I<|go_xloop<|qW O h [0];refine gR 3 I<|go_xloopE<|gR 9 I ?_;subst h;exact gE O [] [(2,.sl 0)] [0] [.tmp 2]
def dT(m:Nat)(G:YT)(a:(List<|(Int×Int)×aA))(c:Tree)(d:Int)(e:Bool)(f g:Int)(b:(List<|(Int×Int)×Bool))(J:Tree)(O:Int):Prop:=z7 m [] f166 (q9<|.tup [.agg<|ao J,qi O]) (cL<|cK<|xJ<|xK<|cA<|xJ<|aj f166) [.blk 0,.seq<|xA<|xH<|aj f166] 118 [(0,.row 4<|kidsV G),(6,.ptr 0 0),(8,.ptr 1 0),(9,qi d),(12,.bool e),(13,.ptr 2 0),(14,.sl 3),(15,.sl 4)] ⟨5,[(4,.mp 180 4 (List.map (λp=>(λx=>V.agg [(V.int .i64 x.1),(V.int .i64 x.2)]) p.1) b)<|List.map (λp=>V.bool p.2) b),(3,.mp 180 180 (List.map (λp=>(λx=>V.agg [(V.int .i64 x.1),(V.int .i64 x.2)]) p.1) a)<|List.map (λp=>aA.w p.2) a),(2,.var 180 [qi f,qi g]),(1,.var 35<|ao c),(0,vE 0 [])]⟩
def jt(m:Nat)(a:Int)(b:YT)(c:Nat)(d:Int)(G:Tree)(J:Int):Prop:=z7 m [] f166 (q9<|.tup [.agg<|ao G,qi J]) (xI<|xJ<|aj f166) [.blk 2,.seq<|xJ<|xH<|aj f166] 118 [(6,.ptr 0 0),(17,.ptr 1 0),(110,qi d),(111,qi (c:Int))] ⟨3,[(2,.row 35 4<|kidsV b),(1,.var 35 [qi a,.str [],.nils,.sl 2]),(0,vE 0 [])]⟩
def mq(m:Nat)(J:YT)(a:(List<|(Int×Int)×aA))(c:Tree)(d e f:Int)(b:(List<|(Int×Int)×Bool))(O:Tree)(Z:Int):Prop:=∀(K:Ctx) (G:Nat),aw K []->m<=G->qLG K f166 (q9<|.tup [.agg<|ao O,qi Z]) (xA<|xD<|cL<|cK<|xJ<|xK<|cA<|xJ<|aj f166) [.blk 1,.loop (cL<|cK<|xJ<|xK<|cA<|xJ<|aj f166) G,.blk 0,.seq<|xA<|xH<|aj f166] 118 (mkF 118 0 [(0,.row 4<|kidsV J),(6,.ptr 0 0),(8,.ptr 1 0),(9,qi d),(13,.ptr 2 0),(14,.sl 3),(15,.sl 4)]) ⟨5,[(4,.mp 180 4 (List.map (λp=>(λx=>V.agg [(V.int .i64 x.1),(V.int .i64 x.2)]) p.1) b)<|List.map (λp=>V.bool p.2) b),(3,.mp 180 180 (List.map (λp=>(λx=>V.agg [(V.int .i64 x.1),(V.int .i64 x.2)]) p.1) a)<|List.map (λp=>aA.w p.2) a),(2,.var 180 [qi e,qi f]),(1,.var 35<|ao c),(0,vE 0 [])]⟩
theorem qo(m:Nat)(p0:YT)(p1:Int)(p2 r0:Tree)(r1:Int)(h:∃c,ms p0 c∧((c=false)->(Tree.node 0 [] [] [])=r0∧5=r1)∧((c=true)->((p1<0)->(Tree.node 0 [] [] [])=r0∧5=r1)∧((¬p1<0)->(((p0.length:Int)<=p1)->(Tree.node 0 [] [] [])=r0∧5=r1)∧((¬(p0.length:Int)<=p1)->((p2.kind<5)->(Tree.node 0 [] [] [])=r0∧5=r1)∧((¬p2.kind<5)->((9<p2.kind)->(Tree.node 0 [] [] [])=r0∧5=r1)∧((¬9<p2.kind)->∃d,dW p2 d∧((d=false)->(Tree.node 0 [] [] [])=r0∧5=r1)∧((d=true)->∃a b,oL p2 a b∧((a.kind=9)->∃e f g,sQ p0 p1 a.text e f g∧∃(i:(List<|(Int×Int)×aA)),mi p0 i∧dT m p0 i a b g e f ([]:(List<|(Int×Int)×Bool)) r0 r1)∧((a.kind≠9)->jt m a.kind ([]:YT) 0 b r0 r1)))))))):rI p0 p1 p2 r0 r1:=by
 refine⟨I,I,?_⟩;refine qA 118 [] func166 λK hK=>?_;refine gR 3 I<|gFP 0 I I I I<|gR 8 I ?_;obtain⟨c,j,h⟩:=h;refine qC0 j rfl<|gR 2 rfl<|qXhZ 21 20 rfl rfl rfl rfl h cv cu ?_ ?_<;>intro hd h;refine gR 21 I ?_;obtain⟨rfl,rfl⟩:=h;exact go_sub (F':=(mkF 118 0 [(6,.ptr 0 0),(7,qi 5)])) (H':=⟨1,[(0,vD ((Tree.node 0 [] [] []).kind) ((Tree.node 0 [] [] []).text) ((Tree.node 0 [] [] []).leads)<|(Tree.node 0 [] [] []).kids)]⟩) [1] [] I hK pq2 ⟨⟨_,I,I,(.cons .rfl<|.cons .rfl<|.cons (.nil 1)<|.cons (.nil 4) .nil)⟩,trivial⟩ I<|qN [.cell 6 35,.tmp 7];refine gR 4 rfl<|qXdZ 25 24 rfl rfl rfl rfl h ?_ ?_<;>intro hd h;refine gR 17 I ?_;obtain⟨rfl,rfl⟩:=h;exact go_sub (F':=(mkF 118 0 [(6,.ptr 0 0),(7,qi 5)])) (H':=⟨1,[(0,vD ((Tree.node 0 [] [] []).kind) ((Tree.node 0 [] [] []).text) ((Tree.node 0 [] [] []).leads)<|(Tree.node 0 [] [] []).kids)]⟩) [1] [] I hK pq2 ⟨⟨_,I,I,(.cons .rfl<|.cons .rfl<|.cons (.nil 1)<|.cons (.nil 4) .nil)⟩,trivial⟩ I<|qN [.cell 6 35,.tmp 7];refine gR 3 rfl<|gV 28 (qi (p0.length:Int)) rfl (aP<|aJ _) rfl<|gLB 27 rfl (aJ _) λq=>gR 4 rfl<|qXd 30 rfl rfl rfl h ?_ ?_<;>intro hd h;refine gR 10 I ?_;obtain⟨rfl,rfl⟩:=h;exact go_sub (F':=(mkF 118 0 [(6,.ptr 0 0),(7,qi 5)])) (H':=⟨1,[(0,vD ((Tree.node 0 [] [] []).kind) ((Tree.node 0 [] [] []).text) ((Tree.node 0 [] [] []).leads)<|(Tree.node 0 [] [] []).kids)]⟩) [1] [] I hK pq2 ⟨⟨_,I,I,(.cons .rfl<|.cons .rfl<|.cons (.nil 1)<|.cons (.nil 4) .nil)⟩,trivial⟩ I<|qN [.cell 6 35,.tmp 7];refine gR 10 rfl<|qXdZ 35 34 rfl rfl rfl rfl h ?_ ?_<;>intro hd h;refine gR 21 I ?_;obtain⟨rfl,rfl⟩:=h;exact go_sub (F':=(mkF 118 0 [(6,.ptr 0 0),(7,qi 5)])) (H':=⟨1,[(0,vD ((Tree.node 0 [] [] []).kind) ((Tree.node 0 [] [] []).text) ((Tree.node 0 [] [] []).leads)<|(Tree.node 0 [] [] []).kids)]⟩) [1] [] I hK pq2 ⟨⟨_,I,I,(.cons .rfl<|.cons .rfl<|.cons (.nil 1)<|.cons (.nil 4) .nil)⟩,trivial⟩ I<|qN [.cell 6 35,.tmp 7];refine gR 5 rfl<|qXdZ 40 39 rfl rfl rfl rfl h ?_ ?_<;>intro hd h;refine gR 16 I ?_;obtain⟨rfl,rfl⟩:=h;exact go_sub (F':=(mkF 118 0 [(6,.ptr 0 0),(7,qi 5)])) (H':=⟨1,[(0,vD ((Tree.node 0 [] [] []).kind) ((Tree.node 0 [] [] []).text) ((Tree.node 0 [] [] []).leads)<|(Tree.node 0 [] [] []).kids)]⟩) [1] [] I hK pq2 ⟨⟨_,I,I,(.cons .rfl<|.cons .rfl<|.cons (.nil 1)<|.cons (.nil 4) .nil)⟩,trivial⟩ I<|qN [.cell 6 35,.tmp 7];refine gR 1 I ?_;obtain⟨d,k,h⟩:=h;refine qC0 k rfl<|gR 4 rfl<|qXh 44 rfl rfl rfl h cv cu ?_ ?_<;>intro hd h;refine gR 10 I ?_;obtain⟨rfl,rfl⟩:=h;exact go_sub (F':=(mkF 118 0 [(6,.ptr 0 0),(7,qi 5)])) (H':=⟨1,[(0,vD ((Tree.node 0 [] [] []).kind) ((Tree.node 0 [] [] []).text) ((Tree.node 0 [] [] []).leads)<|(Tree.node 0 [] [] []).kids)]⟩) [1] [] I hK pq2 ⟨⟨_,I,I,(.cons .rfl<|.cons .rfl<|.cons (.nil 1)<|.cons (.nil 4) .nil)⟩,trivial⟩ I<|qN [.cell 6 35,.tmp 7];refine gR 6 I ?_;obtain⟨a,b,l,h⟩:=h;refine qC0 l rfl<|gR 16 rfl<|qXe 53 rfl rfl rfl h ?_ ?_<;>intro hd h;refine gR 7 I ?_;obtain⟨e,f,g,n,h⟩:=h;refine qC0 n I<|gR 9 I<|go_sub (F':=(mkF 118 0 [(0,.row 4<|kidsV p0),(6,.ptr 0 0),(8,.ptr 1 0),(9,qi b),(10,qi e),(11,qi f),(12,.bool g)])) (H':=⟨2,[(1,.var 35<|ao a),(0,vE 0 [])]⟩) [1,2] [] I hK pq7 (pqo2 I I I I) I<|gR 12 I ?_;obtain⟨i,o,h⟩:=h;refine qC o [] ?_;exact gR 5 I<|gDo (.new<|.mp 180 4 [] []) (dMM 180 4) trivial I I I<|gHM 4 (List.map (λp=>(λx=>V.agg [(V.int .i64 x.1),(V.int .i64 x.2)]) p.1) ([]:(List<|(Int×Int)×Bool))) (List.map (λp=>V.bool p.2) ([]:(List<|(Int×Int)×Bool))) I I I I<|gR 4 I<|go_loop m<|qW hK h [0,1,2,3,4];exact gR 12 I<|go_sub (F':=(mkF 118 0 [(6,.ptr 0 0),(9,qi b),(17,.ptr 1 0)])) (H':=⟨2,[(1,vE a.kind []),(0,vE 0 [])]⟩) [1,3] [] I hK pq3 (pqo2 I I I I) I<|gR 8 I<|go_loop m<|gNC 1 3 35 4 I I I I<|qW hK h [0,1,2]
theorem lv(m:Nat)(p0:YT)(i:(List<|(Int×Int)×aA))(d:Tree)(f:Int)(j:Bool)(a b:Int)(c:(List<|(Int×Int)×Bool))(r0:Tree)(r1:Int)(h:y8 d.kind 9 (y7 j ((Tree.node 0 [] [] [])=r0∧7=r1)<|((aL (a,b) c=none)->mq m p0 i d f a b c r0 r1)∧(∀(e:Bool),aL (a,b) c=some e->y6 e ((Tree.node 0 [] [] [])=r0∧19=r1) (mq m p0 i d f a b c r0 r1)))<|jt m d.kind ([]:YT) 0 f r0 r1):dT (m+1) p0 i d f j a b c r0 r1:=by
 refine qj λK j1 hK n=>?_;refine gR 8 rfl<|qXe 71 rfl rfl rfl h ?_ ?_<;>intro hd h;refine gR 11 rfl<|qXh 73 rfl rfl rfl h cv cu ?_ ?_<;>intro hd h;refine gR 11 I<|go_xloopR<|gR 2 I ?_;obtain⟨rfl,rfl⟩:=h;exact go_sub (F':=(mkF 118 0 [(6,.ptr 0 0),(7,qi 7)])) (H':=⟨1,[(0,vD ((Tree.node 0 [] [] []).kind) ((Tree.node 0 [] [] []).text) ((Tree.node 0 [] [] []).leads)<|(Tree.node 0 [] [] []).kids)]⟩) [0] [] I hK pq2 ⟨⟨_,I,I,(.cons .rfl<|.cons .rfl<|.cons (.nil 1)<|.cons (.nil 4) .nil)⟩,trivial⟩ I<|qN [.cell 6 35,.tmp 7];refine gR 8 I ?_;rcases g:aL (a,b) c with _|e
 replace h:=h.1 g;exact gDo (v:=some<|.bool false) (.nop) (tN cX (encV:=V.bool) (k:=(a,b)) (l:=c) (zv:=.bool false) g underlying183 zeroValue4 (by kernel_rfl) I I I I) trivial I I I<|gR 5 I<|qW hK h [0,1,2,3,4];replace h:=h.2 e g;refine gDo (v:=some<|.bool e) (.nop) (tV cX (encV:=V.bool) (k:=(a,b)) (l:=c) (zv:=.bool false) g underlying183 zeroValue4 (by kernel_rfl) rfl rfl rfl rfl) trivial rfl rfl rfl<|gR 2 rfl<|qXi 77 rfl rfl rfl h ?_ ?_<;>intro hd h;refine gR 11 I<|go_xloopR<|gR 2 I ?_;obtain⟨rfl,rfl⟩:=h;exact go_sub (F':=(mkF 118 0 [(6,.ptr 0 0),(7,qi 19)])) (H':=⟨1,[(0,vD ((Tree.node 0 [] [] []).kind) ((Tree.node 0 [] [] []).text) ((Tree.node 0 [] [] []).leads)<|(Tree.node 0 [] [] []).kids)]⟩) [0] [] I hK pq2 ⟨⟨_,I,I,(.cons .rfl<|.cons .rfl<|.cons (.nil 1)<|.cons (.nil 4) .nil)⟩,trivial⟩ I<|qN [.cell 6 35,.tmp 7];exact gR 3 I<|qW hK h [0,1,2,3,4];exact gR 3 I<|go_xloopE<|gR 19 I<|go_loop m<|gNC 5 3 35 4 I I I I<|qW hK h [0,5,6]
theorem ud(m:Nat)(a:Int)(b:YT)(c:Nat)(d:Int)(G:Tree)(J:Int)(h:y5 ((c:Int)<d) (c+1<=9223372036854775807∧jt m 8 [(Tree.node a [] [] b)] (c+1) d G J)<|(Tree.node a [] [] b)=G∧0=J):jt (m+1) a b c d G J:=by
 refine qj λK Z O e=>?_;refine gR 6 rfl<|qXd 112 rfl rfl rfl h ?_ ?_<;>intro hd h;refine gR 7 I<|gFR 2 I (bu _) I I<|gS 113 (.agg [qi a,.str [],.row 1 [],.row 4<|kidsV b]) I (.agg<|.cons .rfl<|.cons .rfl<|.cons (.nil 1)<|.cons .rfl .nil) I<|gR 1 I<|gHR 3 (kidsV [(Tree.node a [] [] b)]) I (eg<|Tree.node a [] [] b) I<|gR 6 I ?_;obtain⟨hb,h⟩:=h;exact gR 1 I<|gV 116 (qi ((c+1:Nat):Int)) I (am (by omega)<|by omega) I<|gR 2 I<|go_xloop<|qW O h [0,1,3];refine gR 3 I<|go_xloopE<|gR 10 I<|gFR 2 I (bu _) I I ?_;obtain⟨rfl,rfl⟩:=h;exact go_sub (F':=(mkF 118 0 [(6,.ptr 0 0),(7,qi 0)])) (H':=⟨1,[(0,vD ((Tree.node a [] [] b).kind) ((Tree.node a [] [] b).text) ((Tree.node a [] [] b).leads)<|(Tree.node a [] [] b).kids)]⟩) [0] [] I O pq2 ⟨⟨_,I,I,(.cons .rfl<|.cons .rfl<|.cons (.nil 1)<|.cons .rfl .nil)⟩,trivial⟩ I<|qN [.cell 6 35,.tmp 7]
theorem rL2_types_Expand(m:Nat)(G:YT)(e:(List<|(Int×Int)×aA))(ε:Tree)(j a b:Int)(f:(List<|(Int×Int)×Bool))(J:Tree)(O:Int)(h:∃n,a=((n:Nat):Int)∧∃s,G[n]?=some s∧∃o,b=((o:Nat):Int)∧∃t,s.kids[o]?=some t∧∃y,t.kids[0]?=some y∧∃q g,oL y q g∧InI (j+g)∧((aL (a,b) e=none)->dT m G e q (j+g) false 0 0 (bS (a,b) true f) J O)∧(∀(i:aA),aL (a,b) e=some i->dT m G e q (j+g) true i.module i.def_ (bS (a,b) true f) J O)):mq (m+1) G e ε j a b f J O:=by
 refine qj λK j1 Z η=>?_;refine gR 4 I<|gDo (.set 4<|.mp 180 4 (List.map (λp=>(λx=>V.agg [(V.int .i64 x.1),(V.int .i64 x.2)]) p.1)<|bS (a,b) true f)<|List.map (λp=>V.bool p.2)<|bS (a,b) true f) (yA cX (encV:=V.bool) (k:=(a,b)) (d:=true) (l:=f) underlying183 I I I I I I I I) (okM I) I I I<|gR 8 I<|qDs [2] 17 19<|qDr [(0,2),(1,2),(2,3)] I I ?_;obtain⟨n,γ,h⟩:=h;refine gV 84 (qi ((n:Nat):Int)) I (bd γ) I ?_;obtain⟨s,z,h⟩:=h;refine gYd 3 I (by kernel_rfl) (aI (ay z) ai I I I I) I I<|qDr [(4,2),(5,2),(6,0),(7,0)] I I ?_;obtain⟨o,δ,h⟩:=h;refine gV 89 (qi ((o:Nat):Int)) I (bd δ) I ?_;obtain⟨t,α,h⟩:=h;refine cw 8 I (by kernel_rfl) (aI (ay α) ai I I I I) I I ?_;refine qDr [(9,0),(10,0)] I I ?_;obtain⟨y,β,h⟩:=h;refine cw 11 I (by kernel_rfl) (aI (ay β) ai I I I I) I I ?_;refine qDr [(12,0)] I I ?_;obtain⟨q,g,ζ,h⟩:=h;refine bg 13 ζ (by kernel_rfl) I (by kernel_rfl) I I .rfl I I ?_;refine qDr [(14,0),(15,2),(16,2),(17,1),(18,1)] I I<|qDe<|gR 5 I ?_;obtain⟨hb,h⟩:=h;refine gR 1 I<|gV 100 (qi<|j+g) I (am hb I) I<|gR 6 I ?_;rcases r:aL (a,b) e with _|i
 replace h:=h.1 r;exact gDo (v:=some<|.tup [.agg [qi 0,qi 0],.bool false]) (.nop) (tN cX (encV:=aA.w) (k:=(a,b)) (l:=e) (zv:=.agg [qi 0,qi 0]) r underlying181 zeroValue180 (by kernel_rfl) I I I I) trivial I I I<|gR 7 I<|go_xloop<|qW Z h [0,1,2,3,4];replace h:=h.2 i r;exact gDo (v:=some<|.tup [.agg<|aA.c i,.bool true]) (.nop) (tV cX (encV:=aA.w) (k:=(a,b)) (l:=e) (zv:=.agg [qi 0,qi 0]) r underlying181 zeroValue180 (by kernel_rfl) I I I I) trivial I I I<|gR 7 I<|go_xloop<|qW Z h [0,1,2,3,4]
def cd(m:Nat)(p1 p2:Int)(a:(List<|(Int×Int)×aA))(c d:Int)(e:Bool)(b:(List<|(Int×Int)×Bool))(G:Bool):Prop:=z7 m [] f84 (q9<|.bool G) (xI<|xH<|aj f84) [.blk 0,.seq<|xJ<|xA<|aj f84] 70 [(7,.ptr 0 0),(8,.sl 1),(9,.sl 2),(10,.ptr 3 0),(11,.bool e)] ⟨4,[(3,.var 180 [qi c,qi d]),(2,.mp 180 4 (List.map (λp=>(λx=>V.agg [(V.int .i64 x.1),(V.int .i64 x.2)]) p.1) b)<|List.map (λp=>V.bool p.2) b),(1,.mp 180 180 (List.map (λp=>(λx=>V.agg [(V.int .i64 x.1),(V.int .i64 x.2)]) p.1) a)<|List.map (λp=>aA.w p.2) a),(0,.var 180 [qi p1,qi p2])]⟩
def kp(m:Nat)(p1 p2:Int)(a:(List<|(Int×Int)×aA))(c d:Int)(b:(List<|(Int×Int)×Bool))(J:Bool):Prop:=∀(K:Ctx) (G:Nat),aw K []->m<=G->qLG K f84 (q9<|.bool J) (cB<|xI<|xH<|aj f84) [.loop (xI<|xH<|aj f84) G,.blk 0,.seq<|xJ<|xA<|aj f84] 70 (mkF 70 0 [(7,.ptr 0 0),(8,.sl 1),(9,.sl 2),(10,.ptr 3 0)]) ⟨4,[(3,.var 180 [qi c,qi d]),(2,.mp 180 4 (List.map (λp=>(λx=>V.agg [(V.int .i64 x.1),(V.int .i64 x.2)]) p.1) b)<|List.map (λp=>V.bool p.2) b),(1,.mp 180 180 (List.map (λp=>(λx=>V.agg [(V.int .i64 x.1),(V.int .i64 x.2)]) p.1) a)<|List.map (λp=>aA.w p.2) a),(0,.var 180 [qi p1,qi p2])]⟩
theorem rS_types_Circular(m:Nat)(p0:YT)(p1 p2:Int)(r0:Bool)(h:∃e,ms p0 e∧((e=false)->false=r0)∧((e=true)->((p1<0)->false=r0)∧((¬p1<0)->(((p0.length:Int)<=p1)->false=r0)∧((¬(p0.length:Int)<=p1)->((p2<0)->false=r0)∧((¬p2<0)->∃f,p1=((f:Nat):Int)∧∃d,p0[f]?=some d∧(((d.kids.length:Int)<=p2)->false=r0)∧((¬(d.kids.length:Int)<=p2)->∃(a:(List<|(Int×Int)×aA)),mi p0 a∧((aL (p1,p2) a=none)->cd m p1 p2 a 0 0 false ([]:(List<|(Int×Int)×Bool)) r0)∧(∀(b:aA),aL (p1,p2) a=some b->cd m p1 p2 a b.module b.def_ true ([]:(List<|(Int×Int)×Bool)) r0))))))):lz p0 p1 p2 r0:=by
 refine⟨I,I,?_⟩;refine qA 70 [] func84 λK hK=>?_;refine gR 9 I ?_;obtain⟨e,n,h⟩:=h;refine qC0 n rfl<|gR 2 rfl<|qXhZ 15 14 rfl rfl rfl rfl h cv cu ?_ ?_<;>intro hd h;refine gR 33 I ?_;subst h;exact qN [.tmp 6];refine gR 4 rfl<|qXdZ 19 18 rfl rfl rfl rfl h ?_ ?_<;>intro hd h;refine gR 29 I ?_;subst h;exact qN [.tmp 6];refine gR 3 rfl<|gV 22 (qi (p0.length:Int)) rfl (aP<|aJ _) rfl<|gLB 21 rfl (aJ _) λq=>gR 3 rfl<|qXdZ 25 24 rfl rfl rfl rfl h ?_ ?_<;>intro hd h;refine gR 23 I ?_;subst h;exact qN [.tmp 6];refine gR 4 rfl<|qXdZ 29 28 rfl rfl rfl rfl h ?_ ?_<;>intro hd h;refine gR 19 I ?_;subst h;exact qN [.tmp 6];refine gR 3 I ?_;obtain⟨f,j,h⟩:=h;refine gV 32 (qi ((f:Nat):Int)) I (bd j) I ?_;obtain⟨d,i,h⟩:=h;refine gY (aI (ay i) ai rfl rfl rfl rfl) rfl rfl<|gR 3 rfl<|gV 36 (qi (d.kids.length:Int)) rfl (aP<|aJ _) rfl<|gLB 35 rfl (aJ _) λr=>gR 4 rfl<|qXd 38 rfl rfl rfl h ?_ ?_<;>intro hd h;refine gR 8 I ?_;subst h;exact qN [.tmp 6];refine gR 15 I ?_;obtain⟨a,o,h⟩:=h;refine qC o [] ?_;refine gR 5 I<|gDo (.new<|.mp 180 4 [] []) (dMM 180 4) trivial I I I<|gHM 2 (List.map (λp=>(λx=>V.agg [(V.int .i64 x.1),(V.int .i64 x.2)]) p.1) ([]:(List<|(Int×Int)×Bool))) (List.map (λp=>V.bool p.2) ([]:(List<|(Int×Int)×Bool))) I I I I<|gR 8 I ?_;rcases g:aL (p1,p2) a with _|b
 replace h:=h.1 g;exact gDo (v:=some<|.tup [.agg [qi 0,qi 0],.bool false]) (.nop) (tN cX (encV:=aA.w) (k:=(p1,p2)) (l:=a) (zv:=.agg [qi 0,qi 0]) g underlying181 zeroValue180 (by kernel_rfl) I I I I) trivial I I I<|gR 9 I<|go_loop m<|qW hK h [0,1,2,3];replace h:=h.2 b g;exact gDo (v:=some<|.tup [.agg<|aA.c b,.bool true]) (.nop) (tV cX (encV:=aA.w) (k:=(p1,p2)) (l:=a) (zv:=.agg [qi 0,qi 0]) g underlying181 zeroValue180 (by kernel_rfl) I I I I) trivial I I I<|gR 9 I<|go_loop m<|qW hK h [0,1,2,3]
theorem jF(m:Nat)(p1 p2:Int)(f:(List<|(Int×Int)×aA))(a b:Int)(g:Bool)(c:(List<|(Int×Int)×Bool))(J:Bool)(h:y6 g (((aL (a,b) c=none)->kp m p1 p2 f a b c J)∧(∀(d:Bool),aL (a,b) c=some d->y7 d (kp m p1 p2 f a b c J) (false=J)))<|false=J):cd (m+1) p1 p2 f a b g c J:=by
 refine qj λK Z O i=>?_;refine gR 5 rfl<|gB 52 rfl rfl rfl ?_ ?_<;>intro G;refine gT 11 I G I ?_;refine gT 51 I G I ?_;replace h:=h.1 G;refine gR 2 I ?_;rcases e:aL (a,b) c with _|d
 replace h:=h.1 e;exact gDo (v:=some<|.bool false) (.nop) (tN cX (encV:=V.bool) (k:=(a,b)) (l:=c) (zv:=.bool false) e underlying183 zeroValue4 (by kernel_rfl) I I I I) trivial I I I<|gR 7 I<|qW O h [0,1,2,3];replace h:=h.2 d e;refine gDo (v:=some<|.bool d) (.nop) (tV cX (encV:=V.bool) (k:=(a,b)) (l:=c) (zv:=.bool false) e underlying183 zeroValue4 (by kernel_rfl) rfl rfl rfl rfl) trivial rfl rfl rfl<|gR 4 rfl<|qXh 57 rfl rfl rfl h cv cu ?_ ?_<;>intro G h;exact gR 3 I<|qW O h [0,1,2,3];refine gR 3 I<|go_xloopE<|gR 8 I ?_;subst h;exact qN [.tmp 6];refine gF 11 I G I ?_;refine gF 51 I G I ?_;replace h:=h.2 G;refine gR 10 I<|go_xloopE<|gR 8 I ?_;subst h;exact qN [.tmp 6]
theorem sD(m:Nat)(p1 p2:Int)(e:(List<|(Int×Int)×aA))(a b:Int)(f:(List<|(Int×Int)×Bool))(G:Bool)(h:y5 (a=p1∧b=p2) (true=G)<|((aL (a,b) e=none)->cd m p1 p2 e 0 0 false (bS (a,b) true f) G)∧(∀(g:aA),aL (a,b) e=some g->cd m p1 p2 e g.module g.def_ true (bS (a,b) true f) G)):kp (m+1) p1 p2 e a b f G:=by
 refine qj λK O J j=>?_;refine gR 7 rfl<|gY (v:=.bool<|a==p1&&b==p2) (Cb (neg:=false) underlying180 (by kernel_rfl) (by kernel_rfl) (by decide) (by decide) rfl rfl (by kernel_rfl) (by kernel_rfl) rfl rfl qI qI qI qI (eI underlying3)<|eI underlying3) rfl rfl<|gR 2 rfl<|qXh 66 rfl rfl rfl h MD Mz ?_ ?_<;>intro Z h;refine gR 10 I<|go_xloopR<|gR 2 I ?_;subst h;exact qN [.tmp 6];refine gR 6 I<|gDo (.set 2<|.mp 180 4 (List.map (λp=>(λx=>V.agg [(V.int .i64 x.1),(V.int .i64 x.2)]) p.1)<|bS (a,b) true f)<|List.map (λp=>V.bool p.2)<|bS (a,b) true f) (yA cX (encV:=V.bool) (k:=(a,b)) (d:=true) (l:=f) underlying183 I I I I I I I I) (okM I) I I I<|gR 17 I ?_;rcases i:aL (a,b) e with _|g
 replace h:=h.1 i;exact gDo (v:=some<|.tup [.agg [qi 0,qi 0],.bool false]) (.nop) (tN cX (encV:=aA.w) (k:=(a,b)) (l:=e) (zv:=.agg [qi 0,qi 0]) i underlying181 zeroValue180 (by kernel_rfl) I I I I) trivial I I I<|gR 6 I<|go_xloop<|qW J h [0,1,2,4];replace h:=h.2 g i;exact gDo (v:=some<|.tup [.agg<|aA.c g,.bool true]) (.nop) (tV cX (encV:=aA.w) (k:=(a,b)) (l:=e) (zv:=.agg [qi 0,qi 0]) i underlying181 zeroValue180 (by kernel_rfl) I I I I) trivial I I I<|gR 6 I<|go_xloop<|qW J h [0,1,2,4]
variable{e:TypeId}
section
variable{P:Program}{T:Tab}{K:Ctx}{Q:Exit->Act->World->Prop}{s:List EI}{n:Nat}{F F1:Fm}{H H1:Hp}{all:Array Oper}{rest:List Oper}{L:YN}{m fuel:Nat}{listed:Array Bool}{p:EP}
def eqL(H:Hp):List (Nat×Ob)->Prop
 |[]=>True
 |(j,o)::r=>H.get j=o∧eqL H r
theorem FF:∀{l:List<|Nat×Ob},eqL H l->∀i,aE l i=H.get i∨aE l i=.gone
 |[],_,i=>.inr rfl
 | (j,o)::r,h,i=>by
  simp only[eqL]at h;by_cases hj:j=i
  ·subst hj;left;simp only[aE,nbT];exact h.1.symm
  ·simp only[aE,nbF hj];exact FF h.2 i
theorem gHn(H':Hp)(J:H'.nx=H.nx)(h:eqL H H'.es)(k:Go P K Q p s n F H'):Go P K Q p s n F H:=λS w ρ a hr hi O=>by
 have G:∀i,H'.get i=H.get i∨H'.get i=.gone:=λi=>by
  unfold Hp.get;rw[J];cases hb:Nat.blt i H.nx
  ·exact .inl I
  ·simp only[];have :=FF h i;unfold Hp.get at this;rw[hb]at this;exact this
 exact k S w ρ a (hr.drop G) (hi.drop G) O
theorem QR{f:Nat->Option Value}{a:Act}{w:World}{ty:TypeId}{t:TypeId}{x y:Operand}{len sz:Nat}{cs:List Value}(h:Fr a n f)(ht:P.underlying t=some (.array len e))(G:mR P e=some sz)(hx:aR f x=some (.agg cs.toArray))(hy:aR f y=some (.int .i64 (k:Int)))(J:k<len):
  Runs P a ty (.index t x y) w (.value<|.agg ((cs.drop<|k*sz).take sz).toArray) w:=λ_ _ _ _=>by
 have Z:(isAgg e).run P w=.ok true w∧(sizeOf e).run P w=.ok sz w:=by
  unfold mR at G;cases O:P.underlying e with
  |none=>rw[O]at G;cases G
  |some d=>
   rw[O]at G;cases d<;>first|cases G|(obtain⟨i,hi,hs⟩:=Option.map_eq_some_iff.1 G;simp[isAgg,run_underlying O,sizeOf,typeInfo,hi,hs])
 simp only[execOp,h.eval hx,h.eval hy];simp[Instr.index,asIntOf,run_underlying ht,part,Z.1,Z.2,J]
theorem Io(hT:TabOk P T){t:TypeId}{x y:Operand}{len sz:Nat}{cs cs':List V}{tz:TD}{ty:TypeId}(ht:T.ty t=some tz)(G:(match tz.kind with|.arr l e'=>Nat.beq l len&&Nat.beq e e'|_=>false)=true)(he:mR P e=some sz)(hx:aO F x=some (.agg cs))(hy:aO F y=some (.int .i64 (k:Int)))(O:k<len)(hc:(cs.drop<|k*sz).take sz=cs'):
  ∀S w ρ a,HRel S w ρ H.get->FRel S w ρ a n F->Yld P S w ρ a ty (.index t x y) (.agg cs'):=λS w ρ a hr Z=>by
 subst hc;obtain⟨y0,h1,h2⟩:=au Z hx;simp only[VRel]at h2;obtain⟨xs,rfl,h3⟩:=h2;have J:P.underlying t=some (.array len e):=by
  split at G
  ·rename_i l e' he';simp only[aaa]at G;have h3:=aag G.1;have h4:=aag G.2;subst h3 h4;exact(hT.ty _ _ ht).arr he'
  ·cases G
 exact⟨_,by simp only[VRel];exact⟨_,rfl,(h3.drop<|k*sz).take sz⟩,λw' _=>QR Z.fr J he h1 (bj<|au Z hy) O⟩
theorem DH{t:Tmp}{args:List Operand}{tys:Array TypeId}{vs caps us:List V}{v:V}{d:Option Tmp}{ty:TypeId}{ps:String}{af:Array Edge}{g:Option<|Nat×Bool}(i:Nat)(hS:sO P fid us v)(he:cZ P fid=true)(hi:all[i]?=some ⟨d,.call {callee:=.value<|.tmp t,args:=args.toArray,argTypes:=tys},ty,ps,af,g⟩)(O:Region.ready .any all listed=[i])(hw:bt F all g=some true)(hf:aO F (.tmp t)=some (.clo fid caps))(hv:gd F args=some vs)(hs:aD (vs++caps) us)(hL:db H.get L=true)(h1:F.puto d (some v) id=F1)
  (k:Go P K Q (.drw all L m fuel<|listed.setIfInBounds i true) s n F1 H):Go P K Q (.drw all L m (fuel+1) listed) s n F H:=λS w ρ a hr Z G J=>by
 rw[Fm.puto_eq]at h1;subst h1;refine pC (S:=S) O ?_;obtain⟨xs,h1,h2⟩:=pk G hv;obtain⟨y,h3,h4⟩:=au G hf;simp only[VRel]at h4;obtain⟨ys,rfl,h5⟩:=h4;have hc:=iT (K:=K) (H:=H) hS hs L hL S w ρ (xs++ys) hr Z<|h2.append h5;unfold wpOp;simp only[hi];rw[if_pos<|cj G hw];refine .inl ?_;have hx:(execOp a.eval ⟨d,.call {callee:=.value<|.tmp t,args:=args.toArray,argTypes:=tys},ty,ps,af,g⟩).run P w=.ok (.enter fid (xs++ys).toArray) w:=by
  have e:args.toArray.map a.eval=xs.toArray:=by rw[<-G.fr.vals h1];simp
  have e2:a.eval (.tmp t)=.func (.func fid) #[] ys.toArray:=G.fr.eval h3;simp only[execOp,resolve,e,e2];simp[Deferred.ofValue,invoke,mC he]
 unfold Oper.wp;rw[hx,Oper.upon_enter];refine hc.mono λe w1 hR=>?_;obtain⟨x,S',ρ',v',H',rfl,⟨rfl,rfl⟩,hr',hi',hu,hvr,hls⟩:=hR;have hk:=k S' w1 ρ' _ hr' hi' (cP (G.up hu) d hvr) J;exact kB hu (λb hb=>hu.blk b hb<|hr.slt b hb) (.inl hls) hk
theorem wP{S:Nat->Prop}{w:World}{ρ:Nat->Option Value}:∀{l:YI} {xs:List Value},CRel S w ρ 1 (l.map<|V.int .i64) xs↔xs=l.map λz=>Value.int .i64 z
 |[],xs=>by simp[CRel]
 | s::r,xs=>by
  simp only[aan,CRel];constructor
  ·rintro⟨y,ys,rfl,_,h2,h3⟩;simp only[VRel]at h2;subst h2;rw[wP.1 h3];rfl
  ·rintro rfl;exact⟨Value.int .i64 s,r.map λz=>Value.int .i64 z,rfl,⟨rfl,rfl⟩,by simp only[VRel],wP.2 rfl⟩
theorem RH{J O s0 s1 s2:Nat}{e0 e1:TypeId}{l0 l2:List V}{r:YI}(hS:bv [] P fid [.row s1 [.row s0 l0,.row s2 l2]] ⟨0,[]⟩ λu G=>u=.sl 0∧G=⟨1,[(0,.row e 1<|r.map<|V.int .i64)]⟩)(ho1:H.get O=.row e1 s1 [.sl J,.row s2 l2])(ho0:H.get J=.row e0 s0 l0)(hne:Nat.beq O J=false)(hp:pureL l0=true)(hL:db H.get L=true):
  CallR P K fid [.sl O] H L (λv' H''=>v'=.sl H.nx∧H''=H.app (.new<|.row e 1<|r.map<|V.int .i64)):=λS w ρ xs hr hi hx=>by
 have hne':O≠J:=Nat.ne_of_beq_eq_false hne;simp only[LRel]at hx;obtain⟨x1,_,rfl,hx1,rfl⟩:=hx;obtain⟨f1,f2⟩:=fE (id:=J) hr;obtain⟨S1,hS1⟩:∃S1:Nat->Prop,S1=λb=>S b∨own ρ J (H.get J) b:=⟨_,rfl⟩;have fz:∀x,VRel S w ρ (.sl J) x->VRel S1 w ρ (.row s0 l0) x:=λx hx=>by rw[hS1];exact tm hr ho0 hp hx
 rw[<-hS1]at f1 f2;have o1:bQ H.get J .gone O=.row e1 s1 [.sl J,.row s2 l2]:=by rw[co _ _ hne',ho1]
 obtain⟨v,ys,q1,q2,q3⟩:=jK hr ho1;have q3':CRel S1 w ρ s1 [.row s0 l0,.row s2 l2] ys:=by simp only[CRel]at q3⊢;obtain⟨a1,b1,rfl,c1,d1,a2,b2,rfl,c2,d2,rfl⟩:=q3;exact⟨a1,_,I,c1,fz _ d1,a2,_,I,c2,d2.up f2,I⟩
 have hr2:HRel S1 w ρ (bQ (bQ H.get J .gone) O<|.row e1 s1 [.row s0 l0,.row s2 l2]):=by
  have how:∀i b,own ρ i (bQ (bQ H.get J .gone) O (.row e1 s1 [.row s0 l0,.row s2 l2]) i) b->own ρ i (bQ H.get J .gone i) b:=λi b hb=>by
   by_cases hii:i=O
   ·subst hii;rw[bD]at hb;rw[o1];exact hb
   ·rw[co _ _ hii]at hb;exact hb
  refine⟨λi=>?_,λi b hb=>f1.sep i b<|how i b hb,λi j b h1 h2=>f1.dis i j b (how i b h1)<|how j b h2,f1.slt⟩;by_cases hii:i=O
  ·subst hii;rw[bD];exact⟨v,ys,q1,q2,q3'⟩
  ·rw[co _ _ hii];exact f1.ob i
 have o2:bQ (bQ H.get J .gone) O (.row e1 s1 [.row s0 l0,.row s2 l2]) O=.row e1 s1 [.row s0 l0,.row s2 l2]:=bD _ _ _;obtain⟨g1,g2⟩:=fE (id:=O) hr2;have hx2:=tm hr2 o2 (by rfl) (x:=x1) (by simpa only[VRel]using hx1);have hr0:HRel (λb=>S1 b∨own ρ O (bQ (bQ H.get J .gone) O (.row e1 s1 [.row s0 l0,.row s2 l2]) O) b) w ρ0 (⟨0,[]⟩:Hp).get:=⟨λi=>by rw[uL];rfl,λi b hb=>by rw[uL]at hb;exact hb.elim,λi j b hb _=>by rw[uL]at hb;exact hb.elim,g1.slt⟩;refine(hS _ w ρ0 [x1] hr0 ⟨x1,[],I,hx2.pure I,I⟩).mono λe' w' hR=>?_;obtain⟨x,S',ρ',u,H',rfl,⟨rfl,rfl⟩,hr',Z,hv⟩:=hR;have hno:∀b,¬∃id,own ρ0 id ((⟨0,[]⟩:Hp).get id) b:=λb ⟨id,hb⟩=>by rw[uL]at hb;exact hb
 have hc:Chg [] w w':=⟨Z.chg.os,Z.chg.tape,Z.chg.output,Z.chg.size,λb hb _=>Z.chg.block b hb<|hno b⟩;have oo:(⟨1,[(0,.row e 1<|r.map<|V.int .i64)]⟩:Hp).get 0=.row e 1 (r.map<|V.int .i64):=rfl;obtain⟨v',zs,k1,k2,k3⟩:=jK hr' oo;simp only[VRel]at hv;rw[hv.1]at k1;injection k1 with k1;subst k1
 have he:Eff S w w' ρ (dS ρ H.nx x) H.get (bQ H.get H.nx<|.row e 1<|r.map<|V.int .i64) (λ_=>False):=
  eff_new hr H.get_free hc ⟨x,zs,bb _ _ _,k2,wP.2 (wP.1 k3)⟩ (λb hb=>by
   obtain⟨q,a1,a2⟩:=hb;rw[bb]at a1;injection a1 with a1;subst a1
   rcases Z.ow 0 b (by rw[oo];exact⟨x,hv.1,a2⟩)with h|h
   ·exact absurd h<|hno b
   ·exact h)
 have hg:(H.app<|.new<|.row e 1<|r.map<|V.int .i64).get=bQ H.get H.nx (.row e 1<|r.map<|V.int .i64):=Hp.get_app trivial;refine⟨x,S,dS ρ H.nx x,.sl H.nx,_,rfl,⟨rfl,rfl⟩,by rw[hg];exact he.hr,by rw[hg];exact hi.eff he,he.up,by simp only[VRel];exact⟨bb _ _ _,hv.2⟩,λid hid y b hy hb=>?_⟩;exact hc.block b (gv (hr.ob id)<|mZ hr hL id hid y b hy hb) (by simp)
theorem Tx{args:List Operand}{tys:Array TypeId}{J s0 s1 s2:Nat}{e0 e1:TypeId}{O l2:List V}{r:YI}{d:Option Tmp}{ty:TypeId}{ps:String}{af:Array Edge}{g:Option<|Nat×Bool}(Z:Nat)(hS:bv [] P fid [.row s1 [.row s0 O,.row s2 l2]] ⟨0,[]⟩ λu G=>u=.sl 0∧G=⟨1,[(0,.row e 1<|r.map<|V.int .i64)]⟩)(he:cZ P fid=true)(hw:bt F all g=some true)(hv:gd F args=some [.sl Z])(ho1:H.get Z=.row e1 s1 [.sl J,.row s2 l2])(ho0:H.get J=.row e0 s0 O)(hne:Nat.beq Z J=false)(hp:pureL O=true)(h1:F.puto d (some<|.sl H.nx) id=F1)(h2:H.ap (.new<|.row e 1<|r.map<|V.int .i64) id=H1)
  (kk:Go P K Q (.ops all rest) s n F1 H1):Go P K Q (.ops all<|⟨d,.call {callee:=.value<|.func fid,args:=args.toArray,argTypes:=tys},ty,ps,af,g⟩::rest) s n F H:=by
 rw[Fm.puto_eq]at h1;rw[Hp.ap_eq]at h2;subst h1 h2;exact go_opC (o:=⟨d,.call {callee:=.value<|.func fid,args:=args.toArray,argTypes:=tys},ty,ps,af,g⟩) he rfl hw hv (RH hS ho1 ho0 hne hp (L:=[]) rfl) λv' H'' ⟨a1,a2⟩=>by subst a1 a2;exact kk
end
section
variable{P:Program}{K:Ctx}{Q:Exit->Act->World->Prop}{p:EP}{s:List EI}{n:Nat}{F:Fm}{H:Hp}
theorem qHX(H':Hp)(k:Go P K Q p s n F H')(G:H'.nx=H.nx:=by rfl)(h:eqL H H'.es:=by repeat (first|exact trivial|refine⟨by first|rfl|exact congrArg (Ob.row _ _)<|mL _ _ (λ_=>rfl) _,?_⟩)):Go P K Q p s n F H:=gHn H' G h k
end
end Go.Proofs.YthnohcipianijaaGreatDoor
