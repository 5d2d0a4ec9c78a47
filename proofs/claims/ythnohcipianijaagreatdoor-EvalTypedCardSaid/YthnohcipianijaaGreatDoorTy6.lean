/- Contracts of the functions that the law reaches, part 6. -/
import Derived.Test.YthnohcipianijaaGreatDoorTy5
set_option linter.unusedVariables false
set_option linter.unusedSimpArgs false
namespace Go.Proofs.YthnohcipianijaaGreatDoor
open _root_.Go.Proofs.Tryz
open Go.RowKit Lx Sx
set_option maxRecDepth 100000
set_option maxHeartbeats 4000000
structure aa where
 Lead:(List UInt8)
 Text:(List UInt8)
abbrev aa.c(x:aa):List V:=[.str x.Lead,.str x.Text]
abbrev aa.w(x:aa):V:=.agg x.c
abbrev vB(a0:YI)(a1:Int):Ob:=.var 108 [.row 1 (List.map (V.int .i64) a0),.int .i64 a1]
theorem vJ(σ:YN)(l):renL σ (List.map aa.w l)=List.map aa.w l:=mL σ aa.w (λ_=>rfl) l
def lq(G:YB)(p1 J:Bool):Prop:=qS 138 [.str G,.bool p1]<|.bool J
def rx(G p1:YB)(J:Bool):Prop:=qS 96 [.str G,.str p1]<|.bool J
def pc(G p1 J:Int):Prop:=qS 26 [qi G,qi p1]<|qi J
def nO(G b:YI)(a:Int):Prop:=bv [] prog 31 [.row 1<|List.map (V.int .i64) G] ⟨0,[]⟩<|z6 (.ptr 0 0) ⟨1,[(0,vB b a)]⟩
def js(G:YI)(J:Bool):Prop:=qS 20 [.row 1<|List.map (V.int .i64) G]<|.bool J
def bz(c:YI)(a:Int)(p1:(List YB))(G:YB)(d:YI)(b:Int):Prop:=bv [] prog 90 [.ptr 0 0,.row 1<|List.map V.str p1] ⟨1,[(0,vB c a)]⟩<|z6 (.str G) ⟨1,[(0,vB d b)]⟩
def de(c:YI)(a p1:Int)(G:Tree)(d:YI)(b:Int):Prop:=bv [] prog 91 [.ptr 0 0,qi p1] ⟨1,[(0,vB c a)]⟩<|z6 (.agg<|ao G) ⟨2,[(0,vB d b)]⟩
def fC(c:YI)(a p1:Int)(G:Tree)(d:YI)(b:Int):Prop:=bv [] prog 135 [.ptr 0 0,qi p1] ⟨1,[(0,vB c a)]⟩<|z6 (.agg<|ao G) ⟨2,[(0,vB d b)]⟩
def aW(c:YI)(a p1:Int)(G:Tree)(d:YI)(b:Int):Prop:=bv [] prog 92 [.ptr 0 0,qi p1] ⟨1,[(0,vB c a)]⟩<|z6 (.agg<|ao G) ⟨2,[(0,vB d b)]⟩
def pf(c:YI)(a:Int)(G:Tree)(d:YI)(b:Int):Prop:=bv [] prog 59 [.ptr 0 0] ⟨1,[(0,vB c a)]⟩<|z6 (.agg<|ao G) ⟨2,[(0,vB d b)]⟩
def jy(c:YI)(a:Int)(p1 G:Tree)(d:YI)(b:Int):Prop:=bv [] prog 61 [.ptr 0 0,.agg<|ao p1] ⟨1,[(0,vB c a)]⟩<|z6 (.agg<|ao G) ⟨2,[(0,vB d b)]⟩
def lV(c:YI)(a:Int)(p1:YB)(G:Tree)(d:YI)(b:Int):Prop:=bv [] prog 40 [.ptr 0 0,.str p1] ⟨1,[(0,vB c a)]⟩<|z6 (.agg<|ao G) ⟨2,[(0,vB d b)]⟩
def lu(G:YI)(J:YT):Prop:=qS 21 [.row 1<|List.map (V.int .i64) G]<|.row 4<|kidsV J
def aH(c:YI)(a p1 G:Int)(d:YI)(b:Int):Prop:=bv [] prog 39 [.ptr 0 0,qi p1] ⟨1,[(0,vB c a)]⟩<|z6 (qi G) ⟨1,[(0,vB d b)]⟩
def lA(G:Int)(J:(List YB)):Prop:=bv [] prog 136 [qi G] ⟨0,[]⟩<|z6 (.sl 0) ⟨1,[(0,.row 9 1<|List.map V.str J)]⟩
def lK(G:Tree)(p1:Int)(p2 J:YB):Prop:=qS 137 [.agg<|ao G,qi p1,.str p2]<|.str J
def gP(G:Tree)(p1:YB)(J:Tree):Prop:=qS 93 [.agg<|ao G,.str p1]<|.agg<|ao J
def kG(G J:Tree):Prop:=qS 60 [.agg<|ao G]<|.agg<|ao J
def fP(G:Tree)(J:Bool):Prop:=qS 41 [.agg<|ao G]<|.bool J
def fL(G:Tree)(J:Bool):Prop:=qS 62 [.agg<|ao G]<|.bool J
def ja(G:Tree)(J:Bool):Prop:=qS 94 [.agg<|ao G]<|.bool J
def ie(G:Tree)(J:Bool):Prop:=qS 63 [.agg<|ao G]<|.bool J
def iR(G:Tree)(J:Int):Prop:=qS 64 [.agg<|ao G]<|qi J
def ma(G:Tree)(J:YB):Prop:=qS 65 [.agg<|ao G]<|.str J
def rq(G:Tree)(J:List aa):Prop:=qS 95 [.agg<|ao G]<|.row 2<|List.map aa.w J
def ax(G:List aa)(p1:Tree)(J:List aa):Prop:=bv [] prog 139 [.sl 0,.agg<|ao p1] ⟨1,[(0,.row 152 2<|List.map aa.w G)]⟩<|z6 (.sl 1) ⟨2,[(1,.row 152 2<|List.map aa.w J)]⟩
def fw(G:List aa)(p1:Tree)(p2 p3 J:Int)(O:List aa):Prop:=bv [] prog 173 [.sl 0,.agg<|ao p1,qi p2,qi p3,qi J] ⟨1,[(0,.row 152 2<|List.map aa.w G)]⟩<|z6 (.sl 1) ⟨2,[(1,.row 152 2<|List.map aa.w O)]⟩
def av(G:Tree)(p1:Int)(J:YB):Prop:=qS 172 [.agg<|ao G,qi p1]<|.str J
theorem sZ(m:Nat)(G p1 J:Int)(h:p1≠0∧(((Int.tmod G p1)<0)->InI ((Int.tmod G p1)+p1)∧((Int.tmod G p1)+p1)=J)∧((¬(Int.tmod G p1)<0)->(Int.tmod G p1)=J)):pc G p1 J:=by
 refine⟨I,I,?_⟩;refine qA 14 [] func26 λK O=>?_;refine gR 9 I ?_;obtain⟨hb,h⟩:=h;refine gY (Tg rfl rfl hb) rfl rfl<|gR 10 rfl<|qBd 9 rfl rfl rfl h ?_ ?_<;>intro h;refine gR 4 I ?_;obtain⟨hb,h⟩:=h;refine gR 1 I<|gV 12 (qi<|(Int.tmod G p1)+p1) I (am hb I) I<|gR 10 I ?_;subst h;exact qN [.tmp 4];refine gR 10 I ?_;subst h;exact qN [.tmp 4]
theorem sI(m:Nat)(G b:YI)(a:Int)(h:G.length<=1000000000∧G=b∧0=a):nO G b a:=by
 refine qA 8 [] func31 λK J=>?_;refine gR 9 I ?_;obtain⟨hb,h⟩:=h;refine gDo (.repl 0<|.row 3 1<|List.map (V.int .i64) G) (bI ai I I I I I (aax _) (by rw[aQ];exact hb)) (okR I) I I I<|gR 6 I<|gFR 1 I (iV _ (λ_=>I) _) I I ?_;obtain⟨rfl,rfl⟩:=h;exact gE J [] [(2,.ptr 0 0)] [2] [.tmp 2]
theorem yj(m:Nat)(G:YI)(J:Bool)(h:decide ((G.length:Int)<=120)=J):js G J:=by
 refine⟨I,I,?_⟩;refine qA 6 [] func20 λK O=>?_;refine gR 9 I<|gV 4 (qi (G.length:Int)) I (aP<|aQ (V.int .i64) _) I<|gLB 3 I (aQ (V.int .i64) _) λa=>gR 5 I ?_;subst h;exact qN [.tmp 2]
theorem ym(m:Nat)(k:YI)(c:Int)(p1:(List YB))(G:YB)(l:YI)(d:Int)(h:∃e g i,aH k c (p1.length:Int) e g i∧∃a,e=((a:Nat):Int)∧∃b,p1[a]?=some b∧b=G∧g=l∧i=d):bz k c p1 G l d:=by
 refine qA 12 [0] func90 λK J=>?_;refine gR 11 I<|gV 8 (qi (p1.length:Int)) I (aP<|aQ V.str _) I<|gLB 7 I (aQ V.str _) λp=>?_;obtain⟨e,g,i,o,h⟩:=h;refine qC o [0] ?_;obtain⟨a,n,h⟩:=h;refine gV 9 (qi ((a:Nat):Int)) I (bd n) I ?_;obtain⟨b,j,h⟩:=h;refine gY (aI (aB (f:=V.str) j) ai I I I I) I I<|gR 5 I ?_;obtain⟨rfl,rfl,rfl⟩:=h;exact gE J [] [(4,.str b)] [0] [.tmp 4]
def hO(m:Nat)(p1 b:Int)(c:YI)(d:Int)(e:Bool)(G:Tree)(f:YI)(a:Int):Prop:=z8 [0] f91 (z6 (.agg<|ao G) ⟨2,[(0,vB f a)]⟩) (cB<|xE<|cB<|aj f91) [.blk 0,.seq<|xA<|aj f91] 32 [(0,.ptr 0 0),(1,qi p1),(4,.ptr 1 0),(6,qi b),(7,.bool e)] ⟨2,[(1,vE 0 []),(0,vB c d)]⟩
theorem kw(m:Nat)(g:YI)(e p1:Int)(J:Tree)(f:YI)(b:Int)(h:∃a c d,aH g e 7 a c d∧y8 a 0 (hO m p1 a c d true J f b) (hO m p1 a c d (a==1) J f b)):de g e p1 J f b:=by
 refine qA 32 [0] func91 λK G=>?_;refine gR 9 I ?_;obtain⟨a,c,d,i,h⟩:=h;refine qC i [0] ?_;refine gR 10 rfl<|qBeZ 7 8 rfl rfl rfl rfl h ?_ ?_<;>intro h;exact gR 3 I<|qJ G (h K G) [0,1];exact gR 6 I<|qJ G (h K G) [0,1]
theorem bG(m:Nat)(p1 c:Int)(d:YI)(e:Int)(i:Bool)(G:Tree)(f:YI)(a:Int)(h:y6 i ((Tree.node 5 [] [] [])=G∧d=f∧e=a)<|y8 c 2 ((Tree.node 7 [] [] [])=G∧d=f∧e=a)<|y8 c 3 ((Tree.node 6 [] [] [])=G∧d=f∧e=a)<|y8 c 4 (∃g j k,bz d e [[84],[85],[65,46,84],[66,46,85]] g j k∧(Tree.node 9 g [] [])=G∧j=f∧k=a)<|y5 (p1<1) ((Tree.node 5 [] [] [])=G∧d=f∧e=a)<|InI (p1-1)∧∃b l n,de d e (p1-1) b l n∧(Tree.node 8 [] [] [b])=G∧l=f∧n=a):hO (m+1) p1 c d e i G f a:=by
 intro K J;refine qBi 7 rfl rfl rfl h ?_ ?_<;>intro h;refine gR 10 I ?_;obtain⟨rfl,rfl,rfl⟩:=h;exact gE J [(1,vD ((Tree.node 5 [] [] []).kind) ((Tree.node 5 [] [] []).text) ((Tree.node 5 [] [] []).leads) ((Tree.node 5 [] [] []).kids))] [(4,.ptr 1 0)] [0,1] [.cell 4 35] (hH:=⟨⟨_,I,⟨I,(.cons .rfl (.cons .rfl (.cons (.nil 1) (.cons (.nil 4) .nil))))⟩⟩,⟨⟨_,I,⟨I,aD.rfl⟩⟩,trivial⟩⟩);refine gR 7 rfl<|qBeZ 11 12 rfl rfl rfl rfl h ?_ ?_<;>intro h;refine gR 10 I ?_;obtain⟨rfl,rfl,rfl⟩:=h;exact gE J [(1,vD ((Tree.node 7 [] [] []).kind) ((Tree.node 7 [] [] []).text) ((Tree.node 7 [] [] []).leads) ((Tree.node 7 [] [] []).kids))] [(4,.ptr 1 0)] [0,1] [.cell 4 35] (hH:=⟨⟨_,I,⟨I,(.cons .rfl (.cons .rfl (.cons (.nil 1) (.cons (.nil 4) .nil))))⟩⟩,⟨⟨_,I,⟨I,aD.rfl⟩⟩,trivial⟩⟩);refine gR 7 rfl<|qBeZ 14 15 rfl rfl rfl rfl h ?_ ?_<;>intro h;refine gR 10 I ?_;obtain⟨rfl,rfl,rfl⟩:=h;exact gE J [(1,vD ((Tree.node 6 [] [] []).kind) ((Tree.node 6 [] [] []).text) ((Tree.node 6 [] [] []).leads) ((Tree.node 6 [] [] []).kids))] [(4,.ptr 1 0)] [0,1] [.cell 4 35] (hH:=⟨⟨_,I,⟨I,(.cons .rfl (.cons .rfl (.cons (.nil 1) (.cons (.nil 4) .nil))))⟩⟩,⟨⟨_,I,⟨I,aD.rfl⟩⟩,trivial⟩⟩);refine gR 7 rfl<|qBeZ 17 18 rfl rfl rfl rfl h ?_ ?_<;>intro h;refine gR 5 I<|gFR 2 I I I I ?_;obtain⟨g,j,k,p,h⟩:=h;refine qC p [0] ?_;refine gR 7 I ?_;obtain⟨rfl,rfl,rfl⟩:=h;exact gE J [(1,vD ((Tree.node 9 g [] []).kind) ((Tree.node 9 g [] []).text) ((Tree.node 9 g [] []).leads) ((Tree.node 9 g [] []).kids))] [(4,.ptr 1 0)] [0,1] [.cell 4 35] (hH:=⟨⟨_,I,⟨I,(.cons .rfl (.cons .rfl (.cons (.nil 1) (.cons (.nil 4) .nil))))⟩⟩,⟨⟨_,I,⟨I,aD.rfl⟩⟩,trivial⟩⟩);refine gR 11 rfl<|qBd 24 rfl rfl rfl h ?_ ?_<;>intro h;refine gR 9 I ?_;obtain⟨rfl,rfl,rfl⟩:=h;exact gE J [(1,vD ((Tree.node 5 [] [] []).kind) ((Tree.node 5 [] [] []).text) ((Tree.node 5 [] [] []).leads) ((Tree.node 5 [] [] []).kids))] [(4,.ptr 1 0)] [0,1] [.cell 4 35] (hH:=⟨⟨_,I,⟨I,(.cons .rfl (.cons .rfl (.cons (.nil 1) (.cons (.nil 4) .nil))))⟩⟩,⟨⟨_,I,⟨I,aD.rfl⟩⟩,trivial⟩⟩);refine gR 7 I ?_;obtain⟨hb,h⟩:=h;refine gR 1 I<|gV 28 (qi (p1-1)) I (am hb I) I ?_;obtain⟨b,l,n,o,h⟩:=h;refine qC o [0] ?_;refine gR 1 I<|gHR 4 (kidsV [b]) I (eg b) I<|gR 5 I<|gFR 4 I (bu _) I I ?_;obtain⟨rfl,rfl,rfl⟩:=h;exact gE J [(1,vD ((Tree.node 8 [] [] [b]).kind) ((Tree.node 8 [] [] [b]).text) ((Tree.node 8 [] [] [b]).leads) ((Tree.node 8 [] [] [b]).kids))] [(4,.ptr 1 0)] [0,1] [.cell 4 35] (hH:=⟨⟨_,I,⟨I,(.cons .rfl (.cons .rfl (.cons (.nil 1) (.cons .rfl .nil))))⟩⟩,⟨⟨_,I,⟨I,aD.rfl⟩⟩,trivial⟩⟩)
theorem sJ(m:Nat)(i:YI)(f p1:Int)(G:Tree)(g:YI)(b:Int)(h:∃a c d,aW i f p1 a c d∧∃e,io a.kind e∧y7 e ((Tree.node 22 [] [] [a])=G∧c=g∧d=b) (a=G∧c=g∧d=b)):fC i f p1 G g b:=by
 refine qA 17 [0] func135 λK J=>?_;refine gR 9 I ?_;obtain⟨a,c,d,j,h⟩:=h;refine qC j [0] ?_;refine gR 9 I ?_;obtain⟨e,k,h⟩:=h;refine qC0 k rfl<|gR 3 rfl<|qBh 12 rfl rfl rfl h cv cu ?_ ?_<;>intro h;refine gR 5 I<|gHR 5 (kidsV [a]) I (eg a) I<|gR 6 I<|gFR 5 I (bu _) I I ?_;obtain⟨rfl,rfl,rfl⟩:=h;exact gE J [(1,vD ((Tree.node 22 [] [] [a]).kind) ((Tree.node 22 [] [] [a]).text) ((Tree.node 22 [] [] [a]).leads)<|(Tree.node 22 [] [] [a]).kids)] [(4,.ptr 1 0)] [0,1] [.cell 4 35] (hH:=⟨⟨_,I,⟨I,(.cons .rfl<|.cons .rfl<|.cons (.nil 1)<|.cons .rfl .nil)⟩⟩,⟨⟨_,I,⟨I,aD.rfl⟩⟩,trivial⟩⟩);refine gR 10 I ?_;obtain⟨rfl,rfl,rfl⟩:=h;exact gE J [(1,vD a.kind a.text a.leads a.kids)] [(4,.ptr 1 0)] [0,1] [.cell 4 35]
def cY(m:Nat)(p1:Int)(b:YI)(c d:Int)(G:Tree)(e:YI)(a:Int):Prop:=z8 [0] f92 (z6 (.agg<|ao G) ⟨2,[(0,vB e a)]⟩) (xH<|aj f92) [] 168 [(0,.ptr 0 0),(1,qi p1),(4,.ptr 1 0),(5,qi d)] ⟨2,[(1,vE 0 []),(0,vB b c)]⟩
def mT(m:Nat)(p1:Int)(b:YI)(c d:Int)(e:Bool)(G:Tree)(f:YI)(a:Int):Prop:=z8 [0] f92 (z6 (.agg<|ao G) ⟨2,[(0,vB f a)]⟩) (cB<|xF<|cB<|aj f92) [.blk 0,.seq<|xJ<|aj f92] 168 [(0,.ptr 0 0),(1,qi p1),(4,.ptr 1 0),(24,qi d),(25,.bool e)] ⟨2,[(1,vE 0 []),(0,vB b c)]⟩
def jv(m:Nat)(p1:Int)(b:YI)(c d:Int)(G:Tree)(e:YI)(a:Int):Prop:=z8 [0] f92 (z6 (.agg<|ao G) ⟨2,[(0,vB e a)]⟩) (xM<|cB<|aj f92) [.blk 0,.seq<|xJ<|aj f92] 168 [(0,.ptr 0 0),(1,qi p1),(4,.ptr 1 0),(24,qi d)] ⟨2,[(1,vE 0 []),(0,vB b c)]⟩
def so(m:Nat)(p1:Int)(b:YI)(c d:Int)(G:Tree)(e:YI)(a:Int):Prop:=z8 [0] f92 (z6 (.agg<|ao G) ⟨2,[(0,vB e a)]⟩) (xC<|xF<|cB<|aj f92) [.blk 0,.seq<|xJ<|aj f92] 168 [(0,.ptr 0 0),(1,qi p1),(4,.ptr 1 0),(24,qi d)] ⟨2,[(1,vE 0 []),(0,vB b c)]⟩
def sq(m:Nat)(p1:Int)(b:YI)(c d:Int)(G:Tree)(e:YI)(a:Int):Prop:=z8 [0] f92 (z6 (.agg<|ao G) ⟨2,[(0,vB e a)]⟩) (xC<|xM<|cB<|aj f92) [.blk 0,.seq<|xJ<|aj f92] 168 [(0,.ptr 0 0),(1,qi p1),(4,.ptr 1 0),(24,qi d)] ⟨2,[(1,vE 0 []),(0,vB b c)]⟩
def sE(m:Nat)(p1:Int)(b:YI)(c d:Int)(G:Tree)(e:YI)(a:Int):Prop:=z8 [0] f92 (z6 (.agg<|ao G) ⟨2,[(0,vB e a)]⟩) (xG<|xF<|cB<|aj f92) [.blk 0,.seq<|xJ<|aj f92] 168 [(0,.ptr 0 0),(1,qi p1),(4,.ptr 1 0),(24,qi d)] ⟨2,[(1,vE 0 []),(0,vB b c)]⟩
def jD(m:Nat)(p1:Int)(b:YI)(c d:Int)(G:Tree)(e:YI)(a:Int):Prop:=z8 [0] f92 (z6 (.agg<|ao G) ⟨2,[(0,vB e a)]⟩) (xG<|xM<|cB<|aj f92) [.blk 0,.seq<|xJ<|aj f92] 168 [(0,.ptr 0 0),(1,qi p1),(4,.ptr 1 0),(24,qi d)] ⟨2,[(1,vE 0 []),(0,vB b c)]⟩
def mQ(m:Nat)(p1:Int)(b:YI)(c d:Int)(e:Bool)(G:Tree)(f:YI)(a:Int):Prop:=z8 [0] f92 (z6 (.agg<|ao G) ⟨2,[(0,vB f a)]⟩) (cB<|xG<|xM<|cB<|aj f92) [.blk 0,.seq<|xJ<|aj f92] 168 [(0,.ptr 0 0),(1,qi p1),(4,.ptr 1 0),(24,qi d),(57,.bool e)] ⟨2,[(1,vE 0 []),(0,vB b c)]⟩
def mS(m:Nat)(p1:Int)(b:YI)(c:Int)(G:Tree)(d:YI)(a:Int):Prop:=z8 [0] f92 (z6 (.agg<|ao G) ⟨2,[(0,vB d a)]⟩) (xK<|xG<|xM<|cB<|aj f92) [.blk 0,.seq<|xJ<|aj f92] 168 [(0,.ptr 0 0),(1,qi p1),(4,.ptr 1 0)] ⟨2,[(1,vE 0 []),(0,vB b c)]⟩
def gs(m:Nat)(p1:Int)(b:YI)(c d:Int)(G:Tree)(e:YI)(a:Int):Prop:=z8 [0] f92 (z6 (.agg<|ao G) ⟨2,[(0,vB e a)]⟩) (xG<|xC<|xF<|cB<|aj f92) [.blk 0,.seq<|xJ<|aj f92] 168 [(0,.ptr 0 0),(1,qi p1),(4,.ptr 1 0),(24,qi d)] ⟨2,[(1,vE 0 []),(0,vB b c)]⟩
def jc(m:Nat)(p1:Int)(f:YB)(a:YI)(b:Int)(c:YT)(d:Int)(G:Tree)(g:YI)(e:Int):Prop:=z7 m [0] f92 (z6 (.agg<|ao G) ⟨2,[(0,vB g e)]⟩) (cL<|xE<|cB<|xK<|xG<|xM<|cB<|aj f92) [.blk 1,.seq<|xA<|xK<|xG<|xM<|cB<|aj f92,.blk 0,.seq<|xJ<|aj f92] 168 [(0,.ptr 0 0),(1,qi p1),(4,.ptr 1 0),(6,.ptr 2 0),(7,qi d)] ⟨4,[(3,.row 35 4<|kidsV c),(2,.var 35 [qi 16,.str f,.nils,.sl 3]),(1,vE 0 []),(0,vB a b)]⟩
def iZ(m:Nat)(p1:Int)(a:YI)(b:Int)(c:YT)(d:Int)(G:Tree)(f:YI)(e:Int):Prop:=z7 m [0] f92 (z6 (.agg<|ao G) ⟨2,[(0,vB f e)]⟩) (cL<|xE<|cB<|xK<|xG<|xC<|xF<|cB<|aj f92) [.blk 3,.seq<|xA<|xK<|xG<|xC<|xF<|cB<|aj f92,.blk 0,.seq<|xJ<|aj f92] 168 [(0,.ptr 0 0),(1,qi p1),(4,.ptr 1 0),(8,.ptr 2 0),(9,qi d)] ⟨4,[(3,.row 35 4<|kidsV c),(2,.var 35 [qi 18,.str [],.nils,.sl 3]),(1,vE 0 []),(0,vB a b)]⟩
def iY(m:Nat)(p1:Int)(b:YI)(c d:Int)(G:Tree)(e:YI)(a:Int):Prop:=z8 [0] f92 (z6 (.agg<|ao G) ⟨2,[(0,vB e a)]⟩) (xG<|xC<|xM<|cB<|aj f92) [.blk 0,.seq<|xJ<|aj f92] 168 [(0,.ptr 0 0),(1,qi p1),(4,.ptr 1 0),(24,qi d)] ⟨2,[(1,vE 0 []),(0,vB b c)]⟩
def rr(m:Nat)(p1:Int)(b:YI)(c:Int)(G:Tree)(d:YI)(a:Int):Prop:=z8 [0] f92 (z6 (.agg<|ao G) ⟨2,[(0,vB d a)]⟩) (xK<|xG<|xC<|xM<|cB<|aj f92) [.blk 0,.seq<|xJ<|aj f92] 168 [(0,.ptr 0 0),(1,qi p1),(4,.ptr 1 0)] ⟨2,[(1,vE 0 []),(0,vB b c)]⟩
def fO(m:Nat)(p1:Int)(b:YI)(c d:Int)(G:Tree)(e:YI)(a:Int):Prop:=z8 [0] f92 (z6 (.agg<|ao G) ⟨2,[(0,vB e a)]⟩) (xN<|xF<|cB<|aj f92) [.blk 0,.seq<|xJ<|aj f92] 168 [(0,.ptr 0 0),(1,qi p1),(4,.ptr 1 0),(24,qi d)] ⟨2,[(1,vE 0 []),(0,vB b c)]⟩
def mb(m:Nat)(p1:Int)(c:YI)(d e:Int)(a:Bool)(G:Tree)(f:YI)(b:Int):Prop:=z8 [0] f92 (z6 (.agg<|ao G) ⟨2,[(0,vB f b)]⟩) (cB<|xN<|xF<|cB<|aj f92) [.blk 0,.seq<|xJ<|aj f92] 168 [(0,.ptr 0 0),(1,qi p1),(4,.ptr 1 0),(24,qi e),(118,.bool a)] ⟨2,[(1,vE 0 []),(0,vB c d)]⟩
def lZ(m:Nat)(p1:Int)(b:YI)(c:Int)(G:Tree)(d:YI)(a:Int):Prop:=z8 [0] f92 (z6 (.agg<|ao G) ⟨2,[(0,vB d a)]⟩) (xK<|xN<|xF<|cB<|aj f92) [.blk 0,.seq<|xJ<|aj f92] 168 [(0,.ptr 0 0),(1,qi p1),(4,.ptr 1 0)] ⟨2,[(1,vE 0 []),(0,vB b c)]⟩
def iS(m:Nat)(p1:Int)(b:YI)(c d:Int)(G:Tree)(e:YI)(a:Int):Prop:=z8 [0] f92 (z6 (.agg<|ao G) ⟨2,[(0,vB e a)]⟩) (xN<|xM<|cB<|aj f92) [.blk 0,.seq<|xJ<|aj f92] 168 [(0,.ptr 0 0),(1,qi p1),(4,.ptr 1 0),(24,qi d)] ⟨2,[(1,vE 0 []),(0,vB b c)]⟩
def rv(m:Nat)(p1:Int)(b:YI)(c:Int)(G:Tree)(d:YI)(a:Int):Prop:=z8 [0] f92 (z6 (.agg<|ao G) ⟨2,[(0,vB d a)]⟩) (xK<|xN<|xM<|cB<|aj f92) [.blk 0,.seq<|xJ<|aj f92] 168 [(0,.ptr 0 0),(1,qi p1),(4,.ptr 1 0)] ⟨2,[(1,vE 0 []),(0,vB b c)]⟩
theorem jI(m:Nat)(g:YI)(f p1:Int)(J:Tree)(e:YI)(b:Int)(h:∃a c d,aH g f 14 a c d∧y5 (p1<1) (y5 (5<a) (InI (a-6)∧y5 (5<(a-6)) (cY m p1 c d 0 J e b) (cY m p1 c d (a-6) J e b))<|cY m p1 c d a J e b) (cY m p1 c d a J e b)):aW g f p1 J e b:=by
 refine qA 168 [0] func92 λK G=>?_;refine gR 8 I ?_;obtain⟨a,c,d,i,h⟩:=h;refine qC i [0] ?_;refine gR 9 rfl<|qBdZ 16 15 rfl rfl rfl rfl h ?_ ?_<;>intro h;refine gR 5 rfl<|qBd 19 rfl rfl rfl h ?_ ?_<;>intro h;refine gR 4 I ?_;obtain⟨hb,h⟩:=h;refine gR 1 rfl<|gV 21 (qi<|a-6) rfl (am hb rfl) rfl<|gR 9 rfl<|qBd 23 rfl rfl rfl h ?_ ?_<;>intro h;exact gR 5 I<|qJ G (h K G) [0,1];exact gR 3 I<|qJ G (h K G) [0,1];exact gR 3 I<|qJ G (h K G) [0,1];exact gR 8 I<|qJ G (h K G) [0,1]
theorem rL0_semvcsmake_Expr(m:Nat)(p1:Int)(c:YI)(d a:Int)(J:Tree)(e:YI)(b:Int)(h:y8 a 0 (mT m p1 c d a true J e b)<|mT m p1 c d a (a==1) J e b):cY (m+1) p1 c d a J e b:=by
 intro K G;refine gR 14 rfl<|qBeZ 25 26 rfl rfl rfl rfl h ?_ ?_<;>intro h;exact gR 3 I<|qJ G (h K G) [0,1];exact gR 6 I<|qJ G (h K G) [0,1]
theorem lU(m:Nat)(p1:Int)(c:YI)(d j:Int)(e:Bool)(G:Tree)(f:YI)(b:Int)(h:y6 e (∃a g i,bz c d [[120],[121],[122]] a g i∧(Tree.node 12 a [] [])=G∧g=f∧i=b)<|jv m p1 c d j G f b):mT (m+1) p1 c d j e G f b:=by
 intro K J;refine qBi 25 rfl rfl rfl h ?_ ?_<;>intro h;refine gR 5 I<|gFR 2 I I I I ?_;obtain⟨a,g,i,k,h⟩:=h;refine qC k [0] ?_;refine gR 7 I ?_;obtain⟨rfl,rfl,rfl⟩:=h;exact gE J [(1,vD ((Tree.node 12 a [] []).kind) ((Tree.node 12 a [] []).text) ((Tree.node 12 a [] []).leads) ((Tree.node 12 a [] []).kids))] [(4,.ptr 1 0)] [0,1] [.cell 4 35] (hH:=⟨⟨_,I,⟨I,(.cons .rfl (.cons .rfl (.cons (.nil 1) (.cons (.nil 4) .nil))))⟩⟩,⟨⟨_,I,⟨I,aD.rfl⟩⟩,trivial⟩⟩);exact gR 1 I<|qJ J (h K J) [0,1]
theorem rL2_semvcsmake_Expr(m:Nat)(p1:Int)(d:YI)(e c:Int)(G:Tree)(f:YI)(b:Int)(h:y8 c 2 (∃a g i,bz d e [[48],[49],[50],[49,48]] a g i∧(Tree.node 10 a [] [])=G∧g=f∧i=b)<|so m p1 d e c G f b):jv (m+1) p1 d e c G f b:=by
 intro K J;refine gR 6 rfl<|qBeZ 32 33 rfl rfl rfl rfl h ?_ ?_<;>intro h;refine gR 5 I<|gFR 2 I I I I ?_;obtain⟨a,g,i,j,h⟩:=h;refine qC j [0] ?_;refine gR 7 I ?_;obtain⟨rfl,rfl,rfl⟩:=h;exact gE J [(1,vD ((Tree.node 10 a [] []).kind) ((Tree.node 10 a [] []).text) ((Tree.node 10 a [] []).leads) ((Tree.node 10 a [] []).kids))] [(4,.ptr 1 0)] [0,1] [.cell 4 35] (hH:=⟨⟨_,I,⟨I,(.cons .rfl (.cons .rfl (.cons (.nil 1) (.cons (.nil 4) .nil))))⟩⟩,⟨⟨_,I,⟨I,aD.rfl⟩⟩,trivial⟩⟩);exact gR 1 I<|qJ J (h K J) [0,1]
theorem fS(m:Nat)(p1:Int)(d:YI)(e c:Int)(G:Tree)(f:YI)(b:Int)(h:y8 c 3 (∃a g i,bz d e [[34,34],[34,97,34],[34,35,32,98,34]] a g i∧(Tree.node 11 a [] [])=G∧g=f∧i=b)<|sq m p1 d e c G f b):so (m+1) p1 d e c G f b:=by
 intro K J;refine gR 6 rfl<|qBeZ 38 39 rfl rfl rfl rfl h ?_ ?_<;>intro h;refine gR 5 I<|gFR 2 I I I I ?_;obtain⟨a,g,i,j,h⟩:=h;refine qC j [0] ?_;refine gR 7 I ?_;obtain⟨rfl,rfl,rfl⟩:=h;exact gE J [(1,vD ((Tree.node 11 a [] []).kind) ((Tree.node 11 a [] []).text) ((Tree.node 11 a [] []).leads) ((Tree.node 11 a [] []).kids))] [(4,.ptr 1 0)] [0,1] [.cell 4 35] (hH:=⟨⟨_,I,⟨I,(.cons .rfl (.cons .rfl (.cons (.nil 1) (.cons (.nil 4) .nil))))⟩⟩,⟨⟨_,I,⟨I,aD.rfl⟩⟩,trivial⟩⟩);exact gR 1 I<|qJ J (h K J) [0,1]
theorem iU(m:Nat)(p1:Int)(d:YI)(e c:Int)(G:Tree)(f:YI)(b:Int)(h:y8 c 4 (∃a g i,aH d e 2 a g i∧InI (13+a)∧(Tree.node (13+a) [] [] [])=G∧g=f∧i=b)<|sE m p1 d e c G f b):sq (m+1) p1 d e c G f b:=by
 intro K J;refine gR 6 rfl<|qBeZ 44 45 rfl rfl rfl rfl h ?_ ?_<;>intro h;refine gR 4 I ?_;obtain⟨a,g,i,j,h⟩:=h;refine qC j [0] ?_;obtain⟨hb,h⟩:=h;refine gR 1 I<|gV 48 (qi (13+a)) I (am hb I) I<|gR 7 I ?_;obtain⟨rfl,rfl,rfl⟩:=h;exact gE J [(1,vD ((Tree.node (13+a) [] [] []).kind) ((Tree.node (13+a) [] [] []).text) ((Tree.node (13+a) [] [] []).leads) ((Tree.node (13+a) [] [] []).kids))] [(4,.ptr 1 0)] [0,1] [.cell 4 35] (hH:=⟨⟨_,I,⟨I,(.cons .rfl (.cons .rfl (.cons (.nil 1) (.cons (.nil 4) .nil))))⟩⟩,⟨⟨_,I,⟨I,aD.rfl⟩⟩,trivial⟩⟩);exact gR 1 I<|qJ J (h K J) [0,1]
theorem lY(m:Nat)(p1:Int)(g:YI)(i b:Int)(G:Tree)(c:YI)(a:Int)(h:y8 b 5 (∃d e f,aH g i 3 d e f∧y8 d 0 ((Tree.node 15 [] [] [])=G∧e=c∧f=a) ((Tree.node 10 [51] [] [])=G∧e=c∧f=a))<|jD m p1 g i b G c a):sE (m+1) p1 g i b G c a:=by
 intro K J;refine gR 6 rfl<|qBeZ 50 51 rfl rfl rfl rfl h ?_ ?_<;>intro h;refine gR 5 I ?_;obtain⟨d,e,f,j,h⟩:=h;refine qC j [0] ?_;refine gR 3 rfl<|qBe 54 rfl rfl rfl h ?_ ?_<;>intro h;refine gR 11 I ?_;obtain⟨rfl,rfl,rfl⟩:=h;exact gE J [(1,vD ((Tree.node 15 [] [] []).kind) ((Tree.node 15 [] [] []).text) ((Tree.node 15 [] [] []).leads) ((Tree.node 15 [] [] []).kids))] [(4,.ptr 1 0)] [0,1] [.cell 4 35] (hH:=⟨⟨_,I,⟨I,(.cons .rfl (.cons .rfl (.cons (.nil 1) (.cons (.nil 4) .nil))))⟩⟩,⟨⟨_,I,⟨I,aD.rfl⟩⟩,trivial⟩⟩);refine gR 12 I ?_;obtain⟨rfl,rfl,rfl⟩:=h;exact gE J [(1,vD ((Tree.node 10 [51] [] []).kind) ((Tree.node 10 [51] [] []).text) ((Tree.node 10 [51] [] []).leads) ((Tree.node 10 [51] [] []).kids))] [(4,.ptr 1 0)] [0,1] [.cell 4 35] (hH:=⟨⟨_,I,⟨I,(.cons .rfl (.cons .rfl (.cons (.nil 1) (.cons (.nil 4) .nil))))⟩⟩,⟨⟨_,I,⟨I,aD.rfl⟩⟩,trivial⟩⟩);exact gR 1 I<|qJ J (h K J) [0,1]
theorem rL6_semvcsmake_Expr(m:Nat)(p1:Int)(c:YI)(d a:Int)(J:Tree)(e:YI)(b:Int)(h:y8 a 6 (mQ m p1 c d a true J e b)<|mQ m p1 c d a (a==7) J e b):jD (m+1) p1 c d a J e b:=by
 intro K G;refine gR 7 rfl<|qBeZ 57 58 rfl rfl rfl rfl h ?_ ?_<;>intro h;exact gR 3 I<|qJ G (h K G) [0,1];exact gR 6 I<|qJ G (h K G) [0,1]
theorem mc(m:Nat)(p1:Int)(b:YI)(c f:Int)(d:Bool)(J:Tree)(e:YI)(a:Int)(h:y6 d (mS m p1 b c J e a)<|gs m p1 b c f J e a):mQ (m+1) p1 b c f d J e a:=by
 intro K G;refine qBi 57 rfl rfl rfl h ?_ ?_<;>intro h;exact gR 1 I<|qJ G (h K G) [0,1];exact gR 1 I<|qJ G (h K G) [0,1]
theorem yk(m:Nat)(p1:Int)(i:YI)(j:Int)(r0:Tree)(k:YI)(a:Int)(h:∃b c d,bz i j [[102],[103],[104],[65,46,102],[66,46,103],[65,46,104]] b c d∧∃e f g,aH c d 4 e f g∧jc m p1 b f g ([]:YT) e r0 k a):mS (m+1) p1 i j r0 k a:=by
 intro K hK;refine gR 4 I<|gFR 2 I I I I ?_;obtain⟨b,c,d,l,h⟩:=h;refine qC l [0] ?_;refine gR 9 I ?_;obtain⟨e,f,g,n,h⟩:=h;refine qC n [0] ?_;exact gR 4 I<|go_loop m<|gNC 4 3 35 4 I I I I<|qW hK h [0,1,4,6]
theorem ru(m:Nat)(p1:Int)(f:YI)(g e:Int)(r0:Tree)(i:YI)(b:Int)(h:y8 e 8 (∃a c d,aH f g 3 a c d∧InI (1+a)∧iZ m p1 c d ([]:YT) (1+a) r0 i b)<|iY m p1 f g e r0 i b):gs (m+1) p1 f g e r0 i b:=by
 intro K hK;refine gR 6 rfl<|qXeZ 82 83 rfl rfl rfl rfl h ?_ ?_<;>intro hd h;refine gR 12 I ?_;obtain⟨a,c,d,j,h⟩:=h;refine qC j [0] ?_;obtain⟨hb,h⟩:=h;exact gR 1 I<|gV 87 (qi (1+a)) I (am hb I) I<|gR 4 I<|go_loop m<|gNC 2 3 35 4 I I I I<|qW hK h [0,1,2,4];exact gR 1 I<|qJ hK (h K hK) [0,1]
theorem pZ(m:Nat)(p1:Int)(d:YB)(e:YI)(f:Int)(b:YT)(c:Int)(G:Tree)(k:YI)(g:Int)(h:y5 (0<c) (InI (p1-1)∧∃a i j,aW e f (p1-1) a i j∧(b++[(Tree.node 17 [] [] [a])]).length<=1000000000∧InI (c-1)∧jc m p1 d i j (b++[(Tree.node 17 [] [] [a])]) (c-1) G k g)<|(Tree.node 16 d [] b)=G∧e=k∧f=g):jc (m+1) p1 d e f b c G k g:=by
 refine qj λK O J n=>?_;refine gR 7 rfl<|qXd 67 rfl rfl rfl h ?_ ?_<;>intro Z h;refine gR 5 I<|qDs [2] 11 12<|qDr [(0,2),(1,3),(2,2),(3,0)] I I ?_;obtain⟨hb,h⟩:=h;refine qDr [(4,0)] I I<|gV 74 (qi<|p1-1) I (am hb I) I ?_;obtain⟨a,i,j,l,h⟩:=h;refine qDC 5 l [0] I ?_;refine qDr [(6,0)] I I<|gHR 6 (kidsV [a]) I (eg a) I<|qDr [(7,0)] I I<|gFR 6 I (bu _) I I<|gS 77 (.agg [qi 17,.str [],.row 1 [],.row 4<|kidsV [a]]) I (.agg<|.cons .rfl<|.cons .rfl<|.cons (.nil 1)<|.cons .rfl .nil) I<|qDr [(8,0)] I I<|gHR 7 (kidsV [(Tree.node 17 [] [] [a])]) I (eg<|Tree.node 17 [] [] [a]) I ?_;obtain⟨hb,h⟩:=h;refine bo 9 (.repl 3<|.row 35 4<|kidsV<|b++[(Tree.node 17 [] [] [a])]) I (by kernel_rfl) (bI ai I I I I I (jB b [(Tree.node 17 [] [] [a])]).symm (by rw[aJ];exact hb)) (okR I) I (by kernel_rfl) I I ?_;refine qDr [(10,0),(11,1)] I I<|qDe<|gR 4 I ?_;obtain⟨hb,h⟩:=h;exact gR 1 I<|gV 69 (qi<|c-1) I (am hb I) I<|gR 2 I<|go_xloop<|qW J h [0,1,2,8];refine gR 3 I<|go_xloopE<|gR 11 I<|gFR 3 I (bu _) I I ?_;obtain⟨rfl,rfl,rfl⟩:=h;exact gE J [(1,vD ((Tree.node 16 d [] b).kind) ((Tree.node 16 d [] b).text) ((Tree.node 16 d [] b).leads)<|(Tree.node 16 d [] b).kids)] [(4,.ptr 1 0)] [0,1] [.cell 4 35] (hH:=⟨⟨_,I,⟨I,(.cons .rfl<|.cons .rfl<|.cons (.nil 1)<|.cons .rfl .nil)⟩⟩,⟨⟨_,I,⟨I,aD.rfl⟩⟩,trivial⟩⟩)
theorem qn(m:Nat)(p1:Int)(d:YI)(e:Int)(a:YT)(c:Int)(G:Tree)(j:YI)(f:Int)(h:y5 (0<c) (InI (p1-1)∧∃b g i,aW d e (p1-1) b g i∧(a++[b]).length<=1000000000∧InI (c-1)∧iZ m p1 g i (a++[b]) (c-1) G j f)<|(Tree.node 18 [] [] a)=G∧d=j∧e=f):iZ (m+1) p1 d e a c G j f:=by
 refine qj λK O J l=>?_;refine gR 7 rfl<|qXd 89 rfl rfl rfl h ?_ ?_<;>intro Z h;refine gR 5 I<|qDs [2] 9 10<|qDr [(0,2),(1,3),(2,2),(3,0)] I I ?_;obtain⟨hb,h⟩:=h;refine qDr [(4,0)] I I<|gV 96 (qi<|p1-1) I (am hb I) I ?_;obtain⟨b,g,i,k,h⟩:=h;refine qDC 5 k [0] I ?_;refine qDr [(6,0)] I I<|gHR 6 (kidsV [b]) I (eg b) I ?_;obtain⟨hb,h⟩:=h;refine bo 7 (.repl 3<|.row 35 4<|kidsV<|a++[b]) I (by kernel_rfl) (bI ai I I I I I (jB a [b]).symm (by rw[aJ];exact hb)) (okR I) I (by kernel_rfl) I I ?_;refine qDr [(8,0),(9,1)] I I<|qDe<|gR 4 I ?_;obtain⟨hb,h⟩:=h;exact gR 1 I<|gV 91 (qi<|c-1) I (am hb I) I<|gR 2 I<|go_xloop<|qW J h [0,1,2,7];refine gR 3 I<|go_xloopE<|gR 11 I<|gFR 3 I (bu _) I I ?_;obtain⟨rfl,rfl,rfl⟩:=h;exact gE J [(1,vD ((Tree.node 18 [] [] a).kind) ((Tree.node 18 [] [] a).text) ((Tree.node 18 [] [] a).leads)<|(Tree.node 18 [] [] a).kids)] [(4,.ptr 1 0)] [0,1] [.cell 4 35] (hH:=⟨⟨_,I,⟨I,(.cons .rfl<|.cons .rfl<|.cons (.nil 1)<|.cons .rfl .nil)⟩⟩,⟨⟨_,I,⟨I,aD.rfl⟩⟩,trivial⟩⟩)
theorem rh(m:Nat)(p1:Int)(c:YI)(d b:Int)(J:Tree)(e:YI)(a:Int)(h:y8 b 9 (rr m p1 c d J e a)<|fO m p1 c d b J e a):iY (m+1) p1 c d b J e a:=by
 intro K G;refine gR 6 rfl<|qBeZ 102 103 rfl rfl rfl rfl h ?_ ?_<;>intro h;exact gR 1 I<|qJ G (h K G) [0,1];exact gR 1 I<|qJ G (h K G) [0,1]
theorem xz(m:Nat)(p1:Int)(l:YI)(n:Int)(G:Tree)(o:YI)(k:Int)(h:InI (p1-1)∧∃a d e,aW l n (p1-1) a d e∧InI (p1-1)∧∃b f g,aW d e (p1-1) b f g∧InI (p1-1)∧∃c i j,aW f g (p1-1) c i j∧(Tree.node 19 [] [] [a,b,c])=G∧i=o∧j=k):rr (m+1) p1 l n G o k:=by
 intro K J;refine gR 4 I ?_;obtain⟨hb,h⟩:=h;refine gR 1 I<|gV 106 (qi (p1-1)) I (am hb I) I ?_;obtain⟨a,d,e,p,h⟩:=h;refine qC p [0] ?_;refine gR 2 I ?_;obtain⟨hb,h⟩:=h;refine gR 1 I<|gV 110 (qi (p1-1)) I (am hb I) I ?_;obtain⟨b,f,g,q,h⟩:=h;refine qC q [0] ?_;refine gR 2 I ?_;obtain⟨hb,h⟩:=h;refine gR 1 I<|gV 114 (qi (p1-1)) I (am hb I) I ?_;obtain⟨c,i,j,r,h⟩:=h;refine qC r [0] ?_;refine gR 1 I<|gHR 8 (kidsV [a,b,c]) I (Co [a,b,c]) I<|gR 7 I<|gFR 8 I (bu _) I I ?_;obtain⟨rfl,rfl,rfl⟩:=h;exact gE J [(1,vD ((Tree.node 19 [] [] [a,b,c]).kind) ((Tree.node 19 [] [] [a,b,c]).text) ((Tree.node 19 [] [] [a,b,c]).leads) ((Tree.node 19 [] [] [a,b,c]).kids))] [(4,.ptr 1 0)] [0,1] [.cell 4 35] (hH:=⟨⟨_,I,⟨I,(.cons .rfl (.cons .rfl (.cons (.nil 1) (.cons .rfl .nil))))⟩⟩,⟨⟨_,I,⟨I,aD.rfl⟩⟩,trivial⟩⟩)
theorem rL14_semvcsmake_Expr(m:Nat)(p1:Int)(c:YI)(d a:Int)(J:Tree)(e:YI)(b:Int)(h:y8 a 10 (mb m p1 c d a true J e b)<|mb m p1 c d a (a==11) J e b):fO (m+1) p1 c d a J e b:=by
 intro K G;refine gR 7 rfl<|qBeZ 118 119 rfl rfl rfl rfl h ?_ ?_<;>intro h;exact gR 3 I<|qJ G (h K G) [0,1];exact gR 6 I<|qJ G (h K G) [0,1]
theorem lr(m:Nat)(p1:Int)(c:YI)(d f:Int)(a:Bool)(J:Tree)(e:YI)(b:Int)(h:y6 a (lZ m p1 c d J e b)<|iS m p1 c d f J e b):mb (m+1) p1 c d f a J e b:=by
 intro K G;refine qBi 118 rfl rfl rfl h ?_ ?_<;>intro h;exact gR 1 I<|qJ G (h K G) [0,1];exact gR 1 I<|qJ G (h K G) [0,1]
theorem wY(m:Nat)(p1:Int)(l:YI)(n:Int)(G:Tree)(o:YI)(k:Int)(h:∃c d e,bz l n [[120],[121],[122]] c d e∧InI (p1-1)∧∃a f g,aW d e (p1-1) a f g∧InI (p1-1)∧∃b i j,aW f g (p1-1) b i j∧(Tree.node 20 c [] [a,b])=G∧i=o∧j=k):lZ (m+1) p1 l n G o k:=by
 intro K J;refine gR 4 I<|gFR 2 I I I I ?_;obtain⟨c,d,e,p,h⟩:=h;refine qC p [0] ?_;refine gR 2 I ?_;obtain⟨hb,h⟩:=h;refine gR 1 I<|gV 126 (qi (p1-1)) I (am hb I) I ?_;obtain⟨a,f,g,q,h⟩:=h;refine qC q [0] ?_;refine gR 2 I ?_;obtain⟨hb,h⟩:=h;refine gR 1 I<|gV 130 (qi (p1-1)) I (am hb I) I ?_;obtain⟨b,i,j,r,h⟩:=h;refine qC r [0] ?_;refine gR 1 I<|gHR 8 (kidsV [a,b]) I (Co [a,b]) I<|gR 7 I<|gFR 8 I (bu _) I I ?_;obtain⟨rfl,rfl,rfl⟩:=h;exact gE J [(1,vD ((Tree.node 20 c [] [a,b]).kind) ((Tree.node 20 c [] [a,b]).text) ((Tree.node 20 c [] [a,b]).leads) ((Tree.node 20 c [] [a,b]).kids))] [(4,.ptr 1 0)] [0,1] [.cell 4 35] (hH:=⟨⟨_,I,⟨I,(.cons .rfl (.cons .rfl (.cons (.nil 1) (.cons .rfl .nil))))⟩⟩,⟨⟨_,I,⟨I,aD.rfl⟩⟩,trivial⟩⟩)
theorem ln(m:Nat)(p1:Int)(e:YI)(f g:Int)(G:Tree)(i:YI)(b:Int)(h:y8 g 12 (rv m p1 e f G i b)<|InI (p1-1)∧∃a c d,aW e f (p1-1) a c d∧(Tree.node 22 [] [] [a])=G∧c=i∧d=b):iS (m+1) p1 e f g G i b:=by
 intro K J;refine gR 6 rfl<|qBeZ 134 135 rfl rfl rfl rfl h ?_ ?_<;>intro h;exact gR 1 I<|qJ J (h K J) [0,1];refine gR 8 I ?_;obtain⟨hb,h⟩:=h;refine gR 1 I<|gV 164 (qi (p1-1)) I (am hb I) I ?_;obtain⟨a,c,d,j,h⟩:=h;refine qC j [0] ?_;refine gR 1 I<|gHR 4 (kidsV [a]) I (eg a) I<|gR 5 I<|gFR 4 I (bu _) I I ?_;obtain⟨rfl,rfl,rfl⟩:=h;exact gE J [(1,vD ((Tree.node 22 [] [] [a]).kind) ((Tree.node 22 [] [] [a]).text) ((Tree.node 22 [] [] [a]).leads) ((Tree.node 22 [] [] [a]).kids))] [(4,.ptr 1 0)] [0,1] [.cell 4 35] (hH:=⟨⟨_,I,⟨I,(.cons .rfl (.cons .rfl (.cons (.nil 1) (.cons .rfl .nil))))⟩⟩,⟨⟨_,I,⟨I,aD.rfl⟩⟩,trivial⟩⟩)
theorem qq(m:Nat)(p1:Int)(α:YI)(β:Int)(G:Tree)(z:YI)(t:Int)(h:∃d v w,bz α β [[43],[45],[42],[60],[61,61]] d v w∧InI (p1-1)∧∃a x y,fC v w (p1-1) a x y∧∃g i j,aH x y 3 g i j∧y8 g 0 (∃c k l,bz i j [[43],[42]] c k l∧∃b n o,fC k l 0 b n o∧InI (p1-1)∧∃e p q,fC n o (p1-1) e p q∧(Tree.node 21 d [] [(Tree.node 21 c [] [a,b]),e])=G∧p=z∧q=t) (InI (p1-1)∧∃f r s,fC i j (p1-1) f r s∧(Tree.node 21 d [] [a,f])=G∧r=z∧s=t)):rv (m+1) p1 α β G z t:=by
 intro K J;refine gR 4 I<|gFR 2 I I I I ?_;obtain⟨d,v,w,γ,h⟩:=h;refine qC γ [0] ?_;refine gR 7 I ?_;obtain⟨hb,h⟩:=h;refine gR 1 I<|gV 141 (qi (p1-1)) I (am hb I) I ?_;obtain⟨a,x,y,δ,h⟩:=h;refine qC δ [0] ?_;refine gR 8 I ?_;obtain⟨g,i,j,ε,h⟩:=h;refine qC ε [0] ?_;refine gR 3 rfl<|qBe 145 rfl rfl rfl h ?_ ?_<;>intro h;refine gR 1 I<|qDs [6] 8 9<|qDr [(0,2),(3,3),(4,2),(1,0)] I I<|gFR 8 I I I I ?_;obtain⟨c,k,l,ζ,h⟩:=h;refine qDC 2 ζ [0] I ?_;obtain⟨b,n,o,η,h⟩:=h;refine qDC 5 η [0] I ?_;refine qDr [(6,0)] I I<|gHR 12 (kidsV [a,b]) I (Co [a,b]) I<|qDr [(7,0),(8,1)] I I<|qDe<|gR 2 I<|qDs [6] 8 9<|qDr [(0,2),(1,3),(2,2),(3,0)] I I ?_;obtain⟨hb,h⟩:=h;refine qDr [(4,0)] I I<|gV 158 (qi (p1-1)) I (am hb I) I ?_;obtain⟨e,p,q,θ,h⟩:=h;refine qDC 5 θ [0] I ?_;refine gFR 12 I (bu _) I I<|gS 155 (.agg [qi 21,.str c,.row 1 [],.row 4 (kidsV [a,b])]) I (.agg (.cons .rfl (.cons .rfl (.cons (.nil 1) (.cons .rfl .nil))))) I<|qDr [(6,0)] I I<|gHR 15 (kidsV [(Tree.node 21 c [] [a,b]),e]) I (Co [(Tree.node 21 c [] [a,b]),e]) I<|qDr [(7,0),(8,1)] I I<|qDe<|gR 4 I<|gFR 15 I (bu _) I I ?_;obtain⟨rfl,rfl,rfl⟩:=h;exact gE J [(1,vD ((Tree.node 21 d [] [(Tree.node 21 c [] [a,b]),e]).kind) ((Tree.node 21 d [] [(Tree.node 21 c [] [a,b]),e]).text) ((Tree.node 21 d [] [(Tree.node 21 c [] [a,b]),e]).leads) ((Tree.node 21 d [] [(Tree.node 21 c [] [a,b]),e]).kids))] [(4,.ptr 1 0)] [0,1] [.cell 4 35] (hH:=⟨⟨_,I,⟨I,(.cons .rfl (.cons .rfl (.cons (.nil 1) (.cons .rfl .nil))))⟩⟩,⟨⟨_,I,⟨I,aD.rfl⟩⟩,trivial⟩⟩);refine gR 4 I<|qDs [6] 8 9<|qDr [(0,2),(1,3),(2,2),(3,0)] I I ?_;obtain⟨hb,h⟩:=h;refine qDr [(4,0)] I I<|gV 158 (qi (p1-1)) I (am hb I) I ?_;obtain⟨f,r,s,ι,h⟩:=h;refine qDC 5 ι [0] I ?_;refine qDr [(6,0)] I I<|gHR 10 (kidsV [a,f]) I (Co [a,f]) I<|qDr [(7,0),(8,1)] I I<|qDe<|gR 4 I<|gFR 10 I (bu _) I I ?_;obtain⟨rfl,rfl,rfl⟩:=h;exact gE J [(1,vD ((Tree.node 21 d [] [a,f]).kind) ((Tree.node 21 d [] [a,f]).text) ((Tree.node 21 d [] [a,f]).leads) ((Tree.node 21 d [] [a,f]).kids))] [(4,.ptr 1 0)] [0,1] [.cell 4 35] (hH:=⟨⟨_,I,⟨I,(.cons .rfl (.cons .rfl (.cons (.nil 1) (.cons .rfl .nil))))⟩⟩,⟨⟨_,I,⟨I,aD.rfl⟩⟩,trivial⟩⟩)
def ko(m:Nat)(a:YB)(c:YI)(d:Int)(e:YT)(f:Int)(G:Tree)(g:YI)(b:Int):Prop:=z7 m [0] f59 (z6 (.agg<|ao G) ⟨2,[(0,vB g b)]⟩) (xI<|cB<|aj f59) [.blk 0,.seq<|xJ<|aj f59] 47 [(0,.ptr 0 0),(2,.ptr 1 0),(3,.ptr 2 0),(4,qi f)] ⟨4,[(3,.row 35 4<|kidsV e),(2,.var 35 [qi 2,.str a,.nils,.sl 3]),(1,vE 0 []),(0,vB c d)]⟩
theorem sY(m:Nat)(v:YI)(o:Int)(r0:Tree)(p:YI)(c:Int)(h:∃k l n,aH v o 5 k l n∧y8 k 0 (∃b q r,bz l n [[84],[85]] b q r∧∃a s t,de q r 2 a s t∧(Tree.node 3 b [] [a])=r0∧s=p∧t=c) (∃d e f,bz l n [[102],[103],[104]] d e f∧∃g i j,aH e f 4 g i j∧ko m d i j ([]:YT) g r0 p c)):pf v o r0 p c:=by
 refine qA 47 [0] func59 λK hK=>?_;refine gR 9 I ?_;obtain⟨k,l,n,w,h⟩:=h;refine qC w [0] ?_;refine gR 3 rfl<|qXe 7 rfl rfl rfl h ?_ ?_<;>intro hd h;refine gR 5 I<|gFR 3 I I I I ?_;obtain⟨b,q,r,x,h⟩:=h;refine qC x [0] ?_;refine gR 1 I ?_;obtain⟨a,s,t,y,h⟩:=h;refine qC y [0] ?_;refine gR 1 I<|gHR 7 (kidsV [a]) I (eg a) I<|gR 6 I<|gFR 7 I (bu _) I I ?_;obtain⟨rfl,rfl,rfl⟩:=h;exact gE hK [(1,vD ((Tree.node 3 b [] [a]).kind) ((Tree.node 3 b [] [a]).text) ((Tree.node 3 b [] [a]).leads)<|(Tree.node 3 b [] [a]).kids)] [(2,.ptr 1 0)] [0,1] [.cell 2 35] (hH:=⟨⟨_,I,⟨I,(.cons .rfl<|.cons .rfl<|.cons (.nil 1)<|.cons .rfl .nil)⟩⟩,⟨⟨_,I,⟨I,aD.rfl⟩⟩,trivial⟩⟩);refine gR 7 I<|gFR 3 I I I I ?_;obtain⟨d,e,f,z,h⟩:=h;refine qC z [0] ?_;refine gR 9 I ?_;obtain⟨g,i,j,α,h⟩:=h;refine qC α [0] ?_;exact gR 4 I<|go_loop m<|gNC 5 3 35 4 I I I I<|qW hK h [0,1,5,7]
theorem sF(m:Nat)(e:YB)(l:YI)(n:Int)(b:YT)(g:Int)(G:Tree)(o:YI)(i:Int)(h:y5 (0<g) (∃f p q,bz l n [[120],[121],[122]] f p q∧∃c r s,de p q 1 c r s∧(b++[(Tree.node 4 f [] [c])]).length<=1000000000∧InI (g-1)∧ko m e r s (b++[(Tree.node 4 f [] [c])]) (g-1) G o i) (∃d t v,de l n 1 d t v∧∃a j k,aW t v 3 a j k∧(b++[d,a]).length<=1000000000∧(Tree.node 2 e []<|b++[d,a])=G∧j=o∧k=i)):ko (m+1) e l n b g G o i:=by
 refine qj λK O J α=>?_;refine gR 7 rfl<|qXd 22 rfl rfl rfl h ?_ ?_<;>intro Z h;refine gR 5 I<|qDs [2] 12 13<|qDr [(0,2),(1,3),(2,2),(5,2),(3,0)] I I<|gFR 4 I I I I ?_;obtain⟨f,p,q,w,h⟩:=h;refine qDC 4 w [0] I ?_;obtain⟨c,r,s,x,h⟩:=h;refine qDC 6 x [0] I ?_;refine qDr [(7,0)] I I<|gHR 8 (kidsV [c]) I (eg c) I<|qDr [(8,0)] I I<|gFR 8 I (bu _) I I<|gS 33 (.agg [qi 4,.str f,.row 1 [],.row 4<|kidsV [c]]) I (.agg<|.cons .rfl<|.cons .rfl<|.cons (.nil 1)<|.cons .rfl .nil) I<|qDr [(9,0)] I I<|gHR 9 (kidsV [(Tree.node 4 f [] [c])]) I (eg<|Tree.node 4 f [] [c]) I ?_;obtain⟨hb,h⟩:=h;refine bo 10 (.repl 3<|.row 35 4<|kidsV<|b++[(Tree.node 4 f [] [c])]) I (by kernel_rfl) (bI ai I I I I I (jB b [(Tree.node 4 f [] [c])]).symm (by rw[aJ];exact hb)) (okR I) I (by kernel_rfl) I I ?_;refine qDr [(11,0),(12,1)] I I<|qDe<|gR 4 I ?_;obtain⟨hb,h⟩:=h;exact gR 1 I<|gV 24 (qi<|g-1) I (am hb I) I<|gR 2 I<|go_xloop<|qW J h [0,1,2,10];refine gR 3 I<|go_xloopE<|gR 3 I<|qDs [2] 9 10<|qDr [(0,2),(1,3),(2,2),(4,2)] I I ?_;obtain⟨d,t,v,y,h⟩:=h;refine qDC 3 y [0] I ?_;obtain⟨a,j,k,z,h⟩:=h;refine qDC 5 z [0] I ?_;refine qDr [(6,0)] I I<|gHR 8 (kidsV [d,a]) I (Co [d,a]) I ?_;obtain⟨hb,h⟩:=h;refine bo 7 (.repl 3<|.row 35 4<|kidsV<|b++[d,a]) I (by kernel_rfl) (bI ai I I I I I (jB _ _).symm (by rw[aJ];exact hb)) (okR I) I (by kernel_rfl) I I ?_;refine qDr [(8,0),(9,1)] I I<|qDe<|gR 8 I<|gFR 9 I (bu _) I I ?_;obtain⟨rfl,rfl,rfl⟩:=h;exact gE J [(1,vD ((Tree.node 2 e []<|b++[d,a]).kind) ((Tree.node 2 e []<|b++[d,a]).text) ((Tree.node 2 e []<|b++[d,a]).leads)<|(Tree.node 2 e []<|b++[d,a]).kids)] [(2,.ptr 1 0)] [0,1] [.cell 2 35] (hH:=⟨⟨_,I,⟨I,(.cons .rfl<|.cons .rfl<|.cons (.nil 1)<|.cons .rfl .nil)⟩⟩,⟨⟨_,I,⟨I,aD.rfl⟩⟩,trivial⟩⟩)
def dZ(m:Nat)(p1:Tree)(b:YI)(c:Int)(d:(List YB))(e:Nat)(G:Tree)(f:YI)(a:Int):Prop:=z7 m [0] f61 (z6 (.agg<|ao G) ⟨2,[(0,vB f a)]⟩) (xI<|aj f61) [.blk 0,.seq<|xH<|aj f61] 53 [(0,.ptr 0 0),(3,.ptr 1 0),(4,.ptr 2 0),(5,qi (e:Int))] ⟨4,[(3,.row 9 1<|List.map V.str d),(2,vE 0 []),(1,.var 35 [qi p1.kind,.str p1.text,.sl 3,.row 4<|kidsV p1.kids]),(0,vB b c)]⟩
def fR(m:Nat)(p1:Tree)(b:YI)(c:Int)(d:YT)(e:Nat)(f:(List YB))(G:Tree)(g:YI)(a:Int):Prop:=z7 m [0] f61 (z6 (.agg<|ao G) ⟨2,[(0,vB g a)]⟩) (xI<|xA<|aj f61) [.blk 2,.seq<|xA<|xH<|aj f61] 53 [(0,.ptr 0 0),(3,.ptr 1 0),(4,.ptr 2 0),(6,qi (e:Int))] ⟨5,[(4,.row 35 4<|kidsV d),(3,.row 9 1<|List.map V.str f),(2,vE 0 []),(1,.var 35 [qi p1.kind,.str p1.text,.sl 3,.sl 4]),(0,vB b c)]⟩
theorem yc(m:Nat)(c:YI)(a:Int)(p1 r0:Tree)(d:YI)(b:Int)(h:p1.leads.length<=1000000000∧dZ m p1 c a p1.leads 0 r0 d b):jy c a p1 r0 d b:=by
 refine qA 53 [0] func61 λK hK=>?_;refine gR 11 I ?_;obtain⟨hb,h⟩:=h;exact gDo (.repl 3<|.row 9 1<|List.map V.str p1.leads) (bI ai I I I I I (aax _) (by rw[aQ];exact hb)) (okR I) I I I<|gR 11 I<|go_loop m<|qW hK h [0,1,2,4]
theorem lJ(m:Nat)(p1:Tree)(l:YI)(n:Int)(b:(List YB))(a:Nat)(r0:Tree)(e:YI)(c:Int)(h:y5 (a<b.length) (∃g i j,aH l n 9 g i j∧y8 g 1 (∃d o p,bz i j [[32,35,32,99,10],[32,32],[10,9],[35,10]] d o p∧∃q,b[a]?=some q∧dZ m p1 o p (b.set a d) (a+1) r0 e c) (dZ m p1 i j b (a+1) r0 e c))<|p1.kids.length<=1000000000∧fR m p1 l n p1.kids 0 b r0 e c):dZ (m+1) p1 l n b a r0 e c:=by
 refine qj λK j1 hK v=>?_;refine gR 7 rfl<|gV 15 (qi (b.length:Int)) rfl (aP<|aQ V.str _) rfl<|gLO 3 rfl (aQ V.str _) λr=>gR 3 rfl<|qXh 16 rfl rfl rfl h cg ch ?_ ?_<;>intro hd h;refine gR 8 I ?_;obtain⟨g,i,j,s,h⟩:=h;refine qC s [0] ?_;refine gR 3 rfl<|qXe 21 rfl rfl rfl h ?_ ?_<;>intro hd h;refine gR 1 I<|qDs [1] 7 8<|qDr [(0,2),(1,3),(2,2),(3,2),(4,0)] I I<|gFR 5 I I I I ?_;obtain⟨d,o,p,t,h⟩:=h;refine qDC 5 t [0] I ?_;obtain⟨q,k,h⟩:=h;refine cw 6 I (by kernel_rfl) (yIO ai I I I I<|qG<|aB (f:=V.str) k) I I ?_;refine bo 7 (.set 3<|.row 9 1<|List.map V.str<|b.set a d) I (by kernel_rfl) (dSe ai I I I I (aB (f:=V.str) k) I<|lp V.str b a d) (okS I) I (by kernel_rfl) I I ?_;exact qDe<|gR 5 I<|gV 18 (qi ((a+1:Nat):Int)) I (am (by have :=r;omega)<|by omega) I<|gR 2 I<|go_xloop<|qW hK h [0,1,2,3];exact gR 7 I<|gV 18 (qi ((a+1:Nat):Int)) I (am (by have :=r;omega)<|by omega) I<|gR 2 I<|go_xloop<|qW hK h [0,1,2,3];refine gR 3 I<|go_xloopE<|gR 7 I ?_;obtain⟨hb,h⟩:=h;exact gDo (.repl 4<|.row 35 4<|kidsV p1.kids) (bI ai I I I I I (aax _) (by rw[aJ];exact hb)) (okR I) I I I<|gR 11 I<|go_loop m<|qW hK h [0,1,2,3,5]
theorem qu(m:Nat)(p1:Tree)(i:YI)(j:Int)(a:YT)(b:Nat)(c:(List YB))(G:Tree)(k:YI)(e:Int)(h:y5 (b<a.length) (∃l,a[b]?=some l∧∃d n o,jy i j l d n o∧∃p,a[b]?=some p∧fR m p1 n o (a.set b d) (b+1) c G k e)<|(Tree.node p1.kind p1.text c a)=G∧i=k∧j=e):fR (m+1) p1 i j a b c G k e:=by
 refine qj λK O J s=>?_;refine gR 7 rfl<|gV 37 (qi (a.length:Int)) rfl (aP<|aJ _) rfl<|gLO 4 rfl (aJ _) λq=>gR 3 rfl<|qXh 38 rfl rfl rfl h cg ch ?_ ?_<;>intro Z h;refine gR 5 I<|qDs [1,4] 11 12<|qDr ((0,2)::(1,3)::(qR 2 3 2 [(5,3),(6,0)])) I I ?_;obtain⟨l,f,h⟩:=h;refine cw 7 I (by kernel_rfl) (yIO ai I I I I (by have :=(ay f);exact(List.getElem?_eq_some_iff.1 this).1)) I I ?_;refine bo 8 (.nop) I (by kernel_rfl) (dLe ai I I I (ay f) I) trivial I (by kernel_rfl) I I ?_;obtain⟨d,n,o,r,h⟩:=h;refine qDC 9 r [0] I ?_;obtain⟨p,g,h⟩:=h;refine cw 10 I (by kernel_rfl) (yIO ai I I I I (by have :=(ay g);exact(List.getElem?_eq_some_iff.1 this).1)) I I ?_;refine bo 11 (.set 4<|.row 35 4<|kidsV<|a.set b d) I (by kernel_rfl) (dSe ai I I I I (ay g) I<|Mw a b d) (okS I) I (by kernel_rfl) I I ?_;exact qDe<|gR 5 I<|gV 40 (qi ((b+1:Nat):Int)) I (am (by have :=q;omega)<|by omega) I<|gR 2 I<|go_xloop<|qW J h [0,1,2,3,4];refine gR 3 I<|go_xloopE<|gR 9 I<|gFR 3 I (iV _ (λ_=>I) _) I I<|gFR 4 I (bu _) I I ?_;obtain⟨rfl,rfl,rfl⟩:=h;exact gE J [(1,vD ((Tree.node p1.kind p1.text c a).kind) ((Tree.node p1.kind p1.text c a).text) ((Tree.node p1.kind p1.text c a).leads)<|(Tree.node p1.kind p1.text c a).kids)] [(4,.ptr 1 0)] [0,2] [.cell 4 35]
def ii(m:Nat)(p1:YB)(b:YI)(c:Int)(d:YT)(e:Int)(G:Tree)(f:YI)(a:Int):Prop:=z7 m [0] f40 (z6 (.agg<|ao G) ⟨2,[(0,vB f a)]⟩) (xI<|aj f40) [.blk 0,.seq<|xH<|aj f40] 31 [(0,.ptr 0 0),(4,.ptr 1 0),(5,.ptr 2 0),(6,qi e)] ⟨4,[(3,.row 35 4<|kidsV d),(2,.var 35 [qi 1,.str p1,.nils,.sl 3]),(1,vE 0 []),(0,vB b c)]⟩
theorem xq(m:Nat)(f:YI)(a:Int)(p1:YB)(r0:Tree)(g:YI)(b:Int)(h:∃c d e,aH f a 4 c d e∧ii m p1 d e ([]:YT) c r0 g b):lV f a p1 r0 g b:=by
 refine qA 31 [0] func40 λK hK=>?_;refine gR 17 I ?_;obtain⟨c,d,e,i,h⟩:=h;refine qC i [0] ?_;exact gR 4 I<|go_loop m<|gNC 2 3 35 4 I I I I<|qW hK h [0,1,2,4]
theorem kJ(m:Nat)(p1:YB)(n:YI)(o:Int)(d:YT)(e:Int)(G:Tree)(i:YI)(f:Int)(h:y5 (0<e) (∃a p q,pf n o a p q∧(d++[a]).length<=1000000000∧InI (e-1)∧ii m p1 p q (d++[a]) (e-1) G i f) (∃b,kG (Tree.node 1 p1 [] d) b∧∃j k l,aH n o 2 j k l∧y8 j 0 (∃c r g,jy k l b c r g∧c=G∧r=i∧g=f) (b=G∧k=i∧l=f))):ii (m+1) p1 n o d e G i f:=by
 refine qj λK Z J x=>?_;refine gR 7 rfl<|qXd 12 rfl rfl rfl h ?_ ?_<;>intro O h;refine gR 5 I<|qDs [2] 7 8<|qDr [(0,2),(1,3),(2,0)] I I ?_;obtain⟨a,p,q,s,h⟩:=h;refine qDC 3 s [0] I ?_;refine qDr [(4,0)] I I<|gHR 6 (kidsV [a]) I (eg a) I ?_;obtain⟨hb,h⟩:=h;refine bo 5 (.repl 3<|.row 35 4<|kidsV<|d++[a]) I (by kernel_rfl) (bI ai I I I I I (jB d [a]).symm (by rw[aJ];exact hb)) (okR I) I (by kernel_rfl) I I ?_;refine qDr [(6,0),(7,1)] I I<|qDe<|gR 4 I ?_;obtain⟨hb,h⟩:=h;exact gR 1 I<|gV 14 (qi<|e-1) I (am hb I) I<|gR 2 I<|go_xloop<|qW J h [0,1,2,7];refine gR 3 I<|go_xloopE<|gR 5 I<|gFR 3 I (bu _) I I ?_;obtain⟨b,t,h⟩:=h;refine gC0 t (by kernel_rfl) I I (.cons (.agg<|.cons .rfl<|.cons .rfl<|.cons (.nil 1)<|.cons .rfl .nil) .nil) I<|gR 7 I ?_;obtain⟨j,k,l,v,h⟩:=h;refine qC v [0] ?_;refine gR 3 rfl<|qXe 26 rfl rfl rfl h ?_ ?_<;>intro O h;refine gR 4 I ?_;obtain⟨c,r,g,w,h⟩:=h;refine qC w [0] ?_;refine gR 10 I ?_;obtain⟨rfl,rfl,rfl⟩:=h;exact gE J [(1,vD c.kind c.text c.leads c.kids)] [(4,.ptr 1 0)] [0,1] [.cell 4 35];refine gR 10 I ?_;obtain⟨rfl,rfl,rfl⟩:=h;exact gE J [(1,vD b.kind b.text b.leads b.kids)] [(4,.ptr 1 0)] [0,1] [.cell 4 35]
def bX(m:Nat)(a:YI)(b:Int)(c:YT)(d:Int)(G:YT):Prop:=z7 m [] f21 (q9<|.row 4<|kidsV G) (xI<|xA<|aj f21) [.blk 0,.seq<|xA<|xH<|aj f21] 35 [(3,.ptr 0 0),(4,.sl 1),(5,.sl 2),(6,qi d)] ⟨3,[(2,.row 9 1 [.str [65],.str [66],.str [67]]),(1,.row 35 4<|kidsV c),(0,vB a b)]⟩
theorem ws(m:Nat)(p0:YI)(r0:YT)(h:∃a b,nO p0 a b∧∃c d e,aH a b 4 c d e∧bX m d e ([]:YT) c r0):lu p0 r0:=by
 refine⟨I,I,?_⟩;refine qA 35 [] func21 λK hK=>?_;refine gR 8 I ?_;obtain⟨a,b,f,h⟩:=h;refine qC f [] ?_;refine gR 18 I ?_;obtain⟨c,d,e,g,h⟩:=h;refine qC g [0] ?_;exact gR 4 I<|go_loop m<|gNS 4 35 4 I I I I<|qW hK h [0,3,1]
theorem jW(m:Nat)(p:YI)(q:Int)(c:YT)(b:Int)(G:YT)(h:y5 (0<b) (∃l,[[65],[66],[67]][c.length]?=some l∧∃a n o,lV p q l a n o∧∃g d e,aH n o 8 g d e∧y8 g 7 (∃i,fP (Tree.node a.kind [65] a.leads a.kids) i∧y6 i ((c++[(Tree.node a.kind [65] a.leads a.kids)]).length<=1000000000∧InI (b-1)∧bX m d e (c++[(Tree.node a.kind [65] a.leads a.kids)]) (b-1) G) (InI (b-1)∧bX m d e c (b-1) G)) (∃j,fP a j∧y6 j ((c++[a]).length<=1000000000∧InI (b-1)∧bX m d e (c++[a]) (b-1) G) (InI (b-1)∧bX m d e c (b-1) G)))<|c=G):bX (m+1) p q c b G:=by
 refine qj λK Z J x=>?_;refine gR 7 rfl<|qXd 14 rfl rfl rfl h ?_ ?_<;>intro O h;refine gR 11 I<|gV 20 (qi (c.length:Int)) I (aP<|aJ _) I<|gLO 1 I (aJ _) λw=>?_;obtain⟨l,k,h⟩:=h;refine gY (yIO ai I I I I<|qG<|aB (f:=V.str) k) I I ?_;refine gDo (.nop) (dLe ai I I I (aB (f:=V.str) k) I) trivial I I I ?_;obtain⟨a,n,o,r,h⟩:=h;refine qC r [0] ?_;refine gR 8 I ?_;obtain⟨g,d,e,s,h⟩:=h;refine qC s [0] ?_;refine gR 3 rfl<|qXe 26 rfl rfl rfl h ?_ ?_<;>intro O h;refine gR 9 I ?_;obtain⟨i,t,h⟩:=h;refine qC0 t rfl<|gR 2 rfl<|qXi 29 rfl rfl rfl h ?_ ?_<;>intro O h;refine gR 5 I<|gHR 7 (kidsV [(Tree.node a.kind [65] a.leads a.kids)]) I (eg<|Tree.node a.kind [65] a.leads a.kids) I ?_;obtain⟨hb,h⟩:=h;refine gDo (.repl 1<|.row 35 4<|kidsV<|c++[(Tree.node a.kind [65] a.leads a.kids)]) (bI ai I I I I I (jB c [(Tree.node a.kind [65] a.leads a.kids)]).symm (by rw[aJ];exact hb)) (okR I) I I I<|gR 6 I ?_;obtain⟨hb,h⟩:=h;exact gR 1 I<|gV 16 (qi<|b-1) I (am hb I) I<|gR 2 I<|go_xloop<|qW J h [0,8,2];refine gR 6 I ?_;obtain⟨hb,h⟩:=h;exact gR 1 I<|gV 16 (qi<|b-1) I (am hb I) I<|gR 2 I<|go_xloop<|qW J h [0,1,2];refine gR 6 I ?_;obtain⟨j,v,h⟩:=h;refine qC0 v rfl<|gR 2 rfl<|qXi 29 rfl rfl rfl h ?_ ?_<;>intro O h;refine gR 5 I<|gHR 7 (kidsV [a]) I (eg a) I ?_;obtain⟨hb,h⟩:=h;refine gDo (.repl 1<|.row 35 4<|kidsV<|c++[a]) (bI ai I I I I I (jB c [a]).symm (by rw[aJ];exact hb)) (okR I) I I I<|gR 6 I ?_;obtain⟨hb,h⟩:=h;exact gR 1 I<|gV 16 (qi<|b-1) I (am hb I) I<|gR 2 I<|go_xloop<|qW J h [0,8,2];refine gR 6 I ?_;obtain⟨hb,h⟩:=h;exact gR 1 I<|gV 16 (qi<|b-1) I (am hb I) I<|gR 2 I<|go_xloop<|qW J h [0,1,2];refine gR 3 I<|go_xloopE<|gR 9 I<|gFR 1 I (bu _) I I ?_;subst h;exact qN [.tmp 2]
theorem nv(m:Nat)(b:YI)(a p1 G:Int)(g:YI)(c:Int)(h:y5 ((b.length:Int)<=a) (0=G∧b=g∧a=c) (InI (a+1)∧InI ((a+1)-1)∧∃d,((a+1)-1)=((d:Nat):Int)∧∃i,b[d]?=some i∧∃e,pc i p1 e∧e=G∧b=g∧(a+1)=c)):aH b a p1 G g c:=by
 refine qA 35 [0] func39 λK J=>?_;refine gR 7 rfl<|qDs [0] 10 10<|qDr (qR 0 3 2<|(3,3)::(qR 4 5 0 [])) rfl rfl<|gV 13 (qi (b.length:Int)) rfl (aP<|aQ (V.int .i64) _) rfl<|gLB 12 rfl (aQ (V.int .i64) _) λn=>qDr [(9,0)] rfl rfl<|qDe<|gR 1 rfl<|qBd 14 rfl rfl rfl h ?_ ?_<;>intro h;refine gR 8 I ?_;obtain⟨rfl,rfl,rfl⟩:=h;exact gE J [] [(4,qi 0)] [0] [.tmp 4];refine gR 9 I ?_;obtain⟨hb,h⟩:=h;refine gR 1 I<|gV 19 (qi<|a+1) I (am hb I) I<|gR 6 I<|qDs [0] 13 14<|qDr (qR 0 3 2<|(3,3)::(qR 4 3 2 [(7,3)])) I I ?_;obtain⟨hb,h⟩:=h;refine qDr [(8,2)] I I<|gV 30 (qi<|(a+1)-1) I (am hb I) I ?_;obtain⟨d,k,h⟩:=h;refine gV 30 (qi ((d:Nat):Int)) I (bd k) I ?_;obtain⟨i,j,h⟩:=h;refine gYd 9 I (by kernel_rfl) (aI (aB (f:=(V.int .i64)) j) ai I I I I) I I<|qDr [(10,2),(11,0)] I I ?_;obtain⟨e,l,h⟩:=h;refine bg 12 l (by kernel_rfl) I (by kernel_rfl) I I .rfl I I ?_;refine qDr [(13,1)] I I<|qDe<|gR 2 I ?_;obtain⟨rfl,rfl,rfl⟩:=h;exact gE J [] [(4,qi e)] [0] [.tmp 4]
def gy(m:Nat)(G:Int)(a:(List YB))(b:Nat)(J:(List YB)):Prop:=z7 m [] f136 (z6 (.sl 0) ⟨1,[(0,.row 9 1<|List.map V.str J)]⟩) (xI<|aj f136) [.blk 0,.seq<|xH<|aj f136] 14 [(0,qi G),(3,.sl 0),(4,qi (b:Int))] ⟨1,[(0,.row 9 1<|List.map V.str a)]⟩
theorem wq(m:Nat)(p0:Int)(r0:(List YB))(h:gy m p0 ([]:List YB) 0 r0):lA p0 r0:=by
 refine qA 14 [] func136 λK hK=>?_;exact gR 17 I<|go_loop m<|gNS 3 9 1 I I I I<|qW hK h [0]
theorem jR(m:Nat)(G:Int)(a:(List YB))(b:Nat)(J:(List YB))(h:y5 ((b:Int)<G) ((a++[[32]]).length<=1000000000∧b+1<=9223372036854775807∧gy m G (a++[[32]]) (b+1) J)<|a=J):gy (m+1) G a b J:=by
 refine qj λK Z O c=>?_;refine gR 8 rfl<|qXd 7 rfl rfl rfl h ?_ ?_<;>intro hd h;refine gR 8 I ?_;obtain⟨hb,h⟩:=h;refine gDo (.repl 0<|.row 9 1<|List.map V.str<|a++[[32]]) (bI ai I I I I I (apM V.str a [32]) (by rw[aQ];exact hb)) (okR I) I I I<|gR 6 I ?_;obtain⟨hb,h⟩:=h;exact gR 1 I<|gV 9 (qi ((b+1:Nat):Int)) I (am (by omega)<|by omega) I<|gR 2 I<|go_xloop<|qW O h [2];refine gR 3 I<|go_xloopE<|gR 9 I ?_;subst h;exact gE O [] [(2,.sl 0)] [0] [.tmp 2]
def eG(m:Nat)(G:Tree)(p2:YB)(a:Bool)(J:YB):Prop:=z8 [] f137 (q9<|.str J) (cB<|xF<|aj f137) [.blk 1,.seq<|xH<|aj f137] 31 [(2,.str p2),(3,.box (ao G) 0),(15,qi G.kind),(16,.bool a)] ⟨0,[]⟩
theorem vP(m:Nat)(G:Tree)(p1:Int)(p2 O:YB)(h:((G.kind=1)->[10,10]=O)∧((G.kind≠1)->((0<p1)->[32]=O)∧((¬0<p1)->((G.kind=8)->eG m G p2 true O)∧((G.kind≠8)->((G.kind=22)->eG m G p2 true O)∧((G.kind≠22)->((G.kind=16)->eG m G p2 true O)∧((G.kind≠16)->eG m G p2 (G.kind==18) O)))))):lK G p1 p2 O:=by
 refine⟨I,I,?_⟩;refine qA 31 [] func137 λK J=>?_;refine gR 3 rfl<|gFP 0 rfl rfl rfl rfl<|gR 13 rfl<|qBeZ 7 10 rfl rfl rfl rfl h ?_ ?_<;>intro h;refine gR 9 I ?_;subst h;exact qN [.tmp 6];refine gR 8 rfl<|qBdZ 11 13 rfl rfl rfl rfl h ?_ ?_<;>intro h;refine gR 9 I ?_;subst h;exact qN [.tmp 6];refine gR 19 rfl<|qBeZ 16 17 rfl rfl rfl rfl h ?_ ?_<;>intro h;exact gR 3 I<|qJ J (h K J) [];refine gR 7 rfl<|qBeZ 16 18 rfl rfl rfl rfl h ?_ ?_<;>intro h;exact gR 3 I<|qJ J (h K J) [];refine gR 7 rfl<|qBeZ 16 19 rfl rfl rfl rfl h ?_ ?_<;>intro h;exact gR 3 I<|qJ J (h K J) [];exact gR 6 I<|qJ J (h K J) []
theorem vn(m:Nat)(J:Tree)(p2:YB)(a:Bool)(G:YB)(h:y6 a ([]=G)<|y8 J.kind 2 (y5 (2<(J.kids.length:Int)) ([]=G)<|[32]=G)<|y8 J.kind 17 (p2=G)<|y8 J.kind 21 (p2=G)<|[32]=G):eG (m+1) J p2 a G:=by
 intro K O;refine qBi 16 rfl rfl rfl h ?_ ?_<;>intro h;refine gR 9 I ?_;subst h;exact qN [.tmp 6];refine gR 7 rfl<|qBeZ 21 22 rfl rfl rfl rfl h ?_ ?_<;>intro h;refine gR 6 rfl<|gV 25 (qi (J.kids.length:Int)) rfl (aP (aJ _)) rfl<|gLB 24 rfl (aJ _) λb=>gR 3 rfl<|qBd 26 rfl rfl rfl h ?_ ?_<;>intro h;refine gR 9 I ?_;subst h;exact qN [.tmp 6];refine gR 10 I ?_;subst h;exact qN [.tmp 6];refine gR 8 rfl<|qBeZ 27 28 rfl rfl rfl rfl h ?_ ?_<;>intro h;refine gR 13 I ?_;subst h;exact qN [.tmp 6];refine gR 6 rfl<|qBeZ 27 29 rfl rfl rfl rfl h ?_ ?_<;>intro h;refine gR 10 I ?_;subst h;exact qN [.tmp 6];refine gR 10 I ?_;subst h;exact qN [.tmp 6]
def oA(m:Nat)(G:Tree)(p1:YB)(a:(List YB))(J:Tree):Prop:=y4 [] f93 (q9<|.agg<|ao J) [.seq<|xH<|aj f93] 109 [(1,.str p1),(2,.box (ao G) 0),(4,.ptr 0 0),(5,qi (G.kids.length:Int)),(6,.ptr 1 0)] ⟨3,[(2,.row 9 1<|List.map V.str a),(1,.var 35 [qi G.kind,.str G.text,.sl 2,.nils]),(0,vE 0 [])]⟩
def eh(m:Nat)(G:Tree)(p1:YB)(a:(List YB))(b:YT)(c:Nat)(J:Tree):Prop:=z7 m [] f93 (q9<|.agg<|ao J) (xI<|xA<|aj f93) [.blk 0,.seq<|xA<|xH<|aj f93] 109 [(1,.str p1),(2,.box (ao G) 0),(4,.ptr 0 0),(5,qi (G.kids.length:Int)),(6,.ptr 1 0),(7,.sl 2),(8,qi (c:Int))] ⟨4,[(3,.row 9 1<|List.map V.str a),(2,.row 35 4<|kidsV b),(1,.var 35 [qi G.kind,.str G.text,.sl 3,.nils]),(0,vE 0 [])]⟩
def ec(m:Nat)(G:Tree)(a:(List YB))(b:YT)(J:Tree):Prop:=z8 [] f93 (q9<|.agg<|ao J) (xJ<|xA<|aj f93) [] 109 [(2,.box (ao G) 0),(4,.ptr 0 0),(6,.ptr 1 0),(7,.sl 2)] ⟨4,[(3,.row 9 1<|List.map V.str a),(2,.row 35 4<|kidsV b),(1,.var 35 [qi G.kind,.str G.text,.sl 3,.nils]),(0,vE 0 [])]⟩
def gh(m:Nat)(G:Tree)(a:(List YB))(b:Nat)(c:YT)(J:Tree):Prop:=z7 m [] f93 (q9<|.agg<|ao J) (cL<|cK<|xA<|xK<|xM<|xJ<|aj f93) [.blk 3,.blk 2,.seq<|xJ<|xH<|aj f93] 109 [(4,.ptr 0 0),(6,.ptr 1 0),(7,.sl 2),(9,qi (b:Int))] ⟨4,[(3,.row 9 1<|List.map V.str a),(2,.row 35 4<|kidsV c),(1,.var 35 [qi G.kind,.str G.text,.sl 3,.nils]),(0,vE 0 [])]⟩
def ee(m:Nat)(G:Tree)(a:(List YB))(b:Nat)(c:YT)(J:Tree):Prop:=z7 m [] f93 (q9<|.agg<|ao J) (cL<|xD<|xK<|xC<|xM<|xJ<|aj f93) [.blk 5,.blk 2,.seq<|xJ<|xH<|aj f93] 109 [(4,.ptr 0 0),(6,.ptr 1 0),(7,.sl 2),(10,qi (b:Int))] ⟨4,[(3,.row 9 1<|List.map V.str a),(2,.row 35 4<|kidsV c),(1,.var 35 [qi G.kind,.str G.text,.sl 3,.nils]),(0,vE 0 [])]⟩
theorem vz(m:Nat)(J:Tree)(p1:YB)(O:Tree)(h:∃b,fT J.kind (J.kids.length:Int) b∧∃a,lA b a∧oA m J p1 a O):gP J p1 O:=by
 refine⟨I,I,?_⟩;refine qA 109 [] func93 λK G=>?_;refine gR 3 I<|gFP 0 I I I I<|gR 8 I<|gV 13 (qi (J.kids.length:Int)) I (aP<|aJ _) I<|gLB 12 I (aJ _) λf=>gR 4 I<|qDs [] 11 12<|qDr (qR 0 7 2 []) I I ?_;obtain⟨b,c,h⟩:=h;apply bf (i:=7) (j:=10) (by kernel_rfl) rfl rfl rfl rfl;exact(cb (L':=[]) (by kernel_rfl) I I (iT c .rfl [] I)<|.inl I);exact(aG ai I I);obtain⟨a,d,h⟩:=h;apply bf (i:=8) (j:=10) (by kernel_rfl) rfl rfl rfl rfl;exact(cb (L':=[]) (by kernel_rfl) I I (pS (H:=⟨2,[(1,vE 0 [])]⟩) d [] .rfl trivial I [] I)<|.inl I);exact(aG ai I I);exact gHR 2 (List.map V.str a) I (mL _ V.str (λ_=>I) a) I<|qDr [(9,2),(10,0),(11,1)] I I<|qDe<|qJ G (h K G) [1,3,2];refine qDC 8 d [] I ?_;exact gHR 3 (List.map V.str a) I (mL _ V.str (λ_=>I) a) I<|qDr [(9,0),(11,1)] I I<|qDe<|qJ G (h K G) [1,2,3];refine bg 7 c (by kernel_rfl) I (by kernel_rfl) I I .rfl I I ?_;obtain⟨a,e,h⟩:=h;refine qDC 8 e [] I ?_;exact gHR 3 (List.map V.str a) I (mL _ V.str (λ_=>I) a) I<|qDr [(9,0),(11,1)] I I<|qDe<|qJ G (h K G) [1,2,3]
theorem uy(m:Nat)(p0:Tree)(p1:YB)(a:(List YB))(r0:Tree)(h:p0.kids.length<=1000000000∧eh m p0 p1 a (List.replicate p0.kids.length<|Tree.node 0 [] [] []) 0 r0):oA (m+1) p0 p1 a r0:=by
 intro K hK;refine gR 4 I ?_;obtain⟨hb,h⟩:=h;exact gDo (.new (.row 35 4 (List.replicate p0.kids.length (.agg [qi 0,.str [],.nils,.nils])))) (dMk ai rfl rfl rfl rfl rfl rfl rfl (by kernel_rfl) hb) trivial rfl rfl rfl<|gHW 3 (List.replicate p0.kids.length (.agg [qi 0,.str [],.row 1 [],.row 4 (kidsV [])])) rfl rfl (aD.rep (.agg (.cons .rfl (.cons .rfl (.cons (.nil 1) (.cons (.nil 4) .nil))))) _) rfl<|gHR 3 (kidsV (List.replicate p0.kids.length (Tree.node 0 [] [] []))) rfl (by first|(simp only[uA,List.map_replicate];done)|(simp only[uA,List.map_replicate];rfl)) rfl<|gR 10 rfl<|go_loop m<|qW hK h [0,1,3,2]
theorem fN(m:Nat)(G:Tree)(p1:YB)(b:(List YB))(c:YT)(a:Nat)(O:Tree)(h:y5 (a<G.kids.length) (∃i,G.kids[a]?=some i∧∃j,lK G (a:Int) p1 j∧∃d,gP i j d∧∃l,c[a]?=some l∧a+1<=9223372036854775807∧eh m G p1 b (c.set a d) (a+1) O)<|y9 G.kind 17 (y9 G.kind 21 (∃n,b[0]?=some n∧ec m G (b.set 0 p1) c O)<|ec m G b c O)<|ec m G b c O):eh (m+1) G p1 b c a O:=by
 refine qj λK j1 J q=>?_;refine gR 8 rfl<|qXh 28 rfl rfl rfl h cg ch ?_ ?_<;>intro Z h;refine gR 5 I<|qDs [] 13 14<|qDr (qR 0 5 2 []) I I ?_;obtain⟨i,k,h⟩:=h;refine gYd 5 I (by kernel_rfl) (aI (ay k) ai I I I I) I I<|qDr (qR 6 3 2 [(9,0)]) I I ?_;obtain⟨j,o,h⟩:=h;refine bg 10 o (by kernel_rfl) I (by kernel_rfl) I I .rfl I I ?_;obtain⟨d,p,h⟩:=h;refine bg 11 p (by kernel_rfl) I (by kernel_rfl) I I .rfl I I ?_;obtain⟨l,e,h⟩:=h;refine cw 12 I (by kernel_rfl) (yIO ai I I I I (by have :=(ay e);exact(List.getElem?_eq_some_iff.1 this).1)) I I ?_;refine bo 13 (.set 2<|.row 35 4<|kidsV<|c.set a d) I (by kernel_rfl) (dSe ai I I I I (ay e) I<|Mw c a d) (okS I) I (by kernel_rfl) I I ?_;refine qDe<|gR 4 I ?_;obtain⟨hb,h⟩:=h;exact gR 1 I<|gV 30 (qi ((a+1:Nat):Int)) I (am (by omega)<|by omega) I<|gR 2 I<|go_xloop<|qW J h [0,1,2,3];refine gR 3 rfl<|go_xloopE<|gR 9 rfl<|qXhZ 47 46 rfl rfl rfl rfl h cz bH ?_ ?_<;>intro Z h;refine gR 6 rfl<|qXh 51 rfl rfl rfl h cz bH ?_ ?_<;>intro Z h;refine gR 5 I ?_;obtain⟨n,g,h⟩:=h;refine gY (yIO ai I I I I<|qG<|aB (f:=V.str) g) I I ?_;exact gDo (.set 3<|.row 9 1<|List.map V.str<|b.set 0 p1) (dSe ai I I I I (aB (f:=V.str) g) I<|lp V.str b 0 p1) (okS I) I I I<|gR 2 I<|qJ J (h K J) [0,1,2,3];exact gR 3 I<|qJ J (h K J) [0,1,2,3];exact gR 9 I<|qJ J (h K J) [0,1,2,3]
theorem cc(m:Nat)(p0:Tree)(a:(List YB))(b:YT)(r0:Tree)(h:y8 p0.kind 1 (∃l,a[2]?=some l∧(Tree.node p0.kind p0.text (a.set 2 [10]) b)=r0)<|y8 p0.kind 2 (∃n,a[2]?=some n∧∃o,(a.set 2 [])[3]?=some o∧∃p,((a.set 2 []).set 3 [])[4]?=some p∧gh m p0 (((a.set 2 []).set 3 []).set 4 []) 6 b r0)<|y8 p0.kind 4 (∃q,a[1]?=some q∧(Tree.node p0.kind p0.text (a.set 1 []) b)=r0)<|y8 p0.kind 8 (∃r,a[1]?=some r∧(Tree.node p0.kind p0.text (a.set 1 []) b)=r0)<|y8 p0.kind 22 (∃s,a[1]?=some s∧(Tree.node p0.kind p0.text (a.set 1 []) b)=r0)<|y8 p0.kind 16 (ee m p0 a 1 b r0)<|y8 p0.kind 18 (ee m p0 a 1 b r0)<|(Tree.node p0.kind p0.text a b)=r0):ec (m+1) p0 a b r0:=by
 intro K hK;refine gR 14 rfl<|qXeZ 58 59 rfl rfl rfl rfl h ?_ ?_<;>intro hd h;refine gR 4 I ?_;obtain⟨l,c,h⟩:=h;refine gY (yIO ai I I I I (qG (aB (f:=V.str) c))) I I ?_;refine gDo (.set 3 (.row 9 1 (List.map V.str (a.set 2 [10])))) (dSe ai I I I I (aB (f:=V.str) c) I (lp V.str a 2 [10])) (okS I) I I I<|gR 17 I<|gFR 3 I (iV _ (λ_=>I) _) I I<|gFR 2 I (bu _) I I ?_;subst h;exact go_sub (F':=(mkF 109 0 [(4,.ptr 0 0)])) (H':=⟨1,[(0,vD ((Tree.node p0.kind p0.text (a.set 2 [10]) b).kind) ((Tree.node p0.kind p0.text (a.set 2 [10]) b).text) ((Tree.node p0.kind p0.text (a.set 2 [10]) b).leads)<|(Tree.node p0.kind p0.text (a.set 2 [10]) b).kids)]⟩) [0] [] I hK pq1 (pqo1 I I) I<|qN [.cell 4 35];refine gR 7 rfl<|qXeZ 63 64 rfl rfl rfl rfl h ?_ ?_<;>intro hd h;refine gR 2 I<|qDs [1] 11 12<|qDr [(0,2),(1,3),(2,2),(3,3),(4,2),(5,3)] I I ?_;obtain⟨n,d,h⟩:=h;refine cw 6 I (by kernel_rfl) (yIO ai I I I I<|qG<|aB (f:=V.str) d) I I ?_;refine bo 7 (.set 3<|.row 9 1<|List.map V.str<|a.set 2 []) I (by kernel_rfl) (dSe ai I I I I (aB (f:=V.str) d) I<|lp V.str a 2 []) (okS I) I (by kernel_rfl) I I ?_;obtain⟨o,e,h⟩:=h;refine cw 8 I (by kernel_rfl) (yIO ai I I I I<|qG<|aB (f:=V.str) e) I I ?_;refine bo 9 (.set 3<|.row 9 1<|List.map V.str<|(a.set 2 []).set 3 []) I (by kernel_rfl) (dSe ai I I I I (aB (f:=V.str) e) I<|lp V.str (a.set 2 []) 3 []) (okS I) I (by kernel_rfl) I I ?_;obtain⟨p,g,h⟩:=h;refine cw 10 I (by kernel_rfl) (yIO ai I I I I<|qG<|aB (f:=V.str) g) I I ?_;refine bo 11 (.set 3<|.row 9 1<|List.map V.str<|((a.set 2 []).set 3 []).set 4 []) I (by kernel_rfl) (dSe ai I I I I (aB (f:=V.str) g) I<|lp V.str ((a.set 2 []).set 3 []) 4 []) (okS I) I (by kernel_rfl) I I ?_;exact qDe<|gR 7 I<|go_loop m<|qW hK h [0,1,2,3];refine gR 8 rfl<|qXeZ 85 86 rfl rfl rfl rfl h ?_ ?_<;>intro hd h;refine gR 7 I ?_;obtain⟨q,i,h⟩:=h;refine gY (yIO ai I I I I<|qG<|aB (f:=V.str) i) I I ?_;refine gDo (.set 3<|.row 9 1<|List.map V.str<|a.set 1 []) (dSe ai I I I I (aB (f:=V.str) i) I<|lp V.str a 1 []) (okS I) I I I<|gR 17 I<|gFR 3 I (iV _ (λ_=>I) _) I I<|gFR 2 I (bu _) I I ?_;subst h;exact go_sub (F':=(mkF 109 0 [(4,.ptr 0 0)])) (H':=⟨1,[(0,vD ((Tree.node p0.kind p0.text (a.set 1 []) b).kind) ((Tree.node p0.kind p0.text (a.set 1 []) b).text) ((Tree.node p0.kind p0.text (a.set 1 []) b).leads)<|(Tree.node p0.kind p0.text (a.set 1 []) b).kids)]⟩) [0] [] I hK pq1 (pqo1 I I) I<|qN [.cell 4 35];refine gR 7 rfl<|qXeZ 85 87 rfl rfl rfl rfl h ?_ ?_<;>intro hd h;refine gR 7 I ?_;obtain⟨r,j,h⟩:=h;refine gY (yIO ai I I I I<|qG<|aB (f:=V.str) j) I I ?_;refine gDo (.set 3<|.row 9 1<|List.map V.str<|a.set 1 []) (dSe ai I I I I (aB (f:=V.str) j) I<|lp V.str a 1 []) (okS I) I I I<|gR 17 I<|gFR 3 I (iV _ (λ_=>I) _) I I<|gFR 2 I (bu _) I I ?_;subst h;exact go_sub (F':=(mkF 109 0 [(4,.ptr 0 0)])) (H':=⟨1,[(0,vD ((Tree.node p0.kind p0.text (a.set 1 []) b).kind) ((Tree.node p0.kind p0.text (a.set 1 []) b).text) ((Tree.node p0.kind p0.text (a.set 1 []) b).leads)<|(Tree.node p0.kind p0.text (a.set 1 []) b).kids)]⟩) [0] [] I hK pq1 (pqo1 I I) I<|qN [.cell 4 35];refine gR 6 rfl<|qXeZ 85 88 rfl rfl rfl rfl h ?_ ?_<;>intro hd h;refine gR 4 I ?_;obtain⟨s,k,h⟩:=h;refine gY (yIO ai I I I I<|qG<|aB (f:=V.str) k) I I ?_;refine gDo (.set 3<|.row 9 1<|List.map V.str<|a.set 1 []) (dSe ai I I I I (aB (f:=V.str) k) I<|lp V.str a 1 []) (okS I) I I I<|gR 17 I<|gFR 3 I (iV _ (λ_=>I) _) I I<|gFR 2 I (bu _) I I ?_;subst h;exact go_sub (F':=(mkF 109 0 [(4,.ptr 0 0)])) (H':=⟨1,[(0,vD ((Tree.node p0.kind p0.text (a.set 1 []) b).kind) ((Tree.node p0.kind p0.text (a.set 1 []) b).text) ((Tree.node p0.kind p0.text (a.set 1 []) b).leads)<|(Tree.node p0.kind p0.text (a.set 1 []) b).kids)]⟩) [0] [] I hK pq1 (pqo1 I I) I<|qN [.cell 4 35];refine gR 8 rfl<|qXeZ 92 93 rfl rfl rfl rfl h ?_ ?_<;>intro hd h;exact gR 10 I<|go_loop m<|qW hK h [0,1,2,3];refine gR 6 rfl<|qXeZ 92 94 rfl rfl rfl rfl h ?_ ?_<;>intro hd h;exact gR 7 I<|go_loop m<|qW hK h [0,1,2,3];refine gR 18 I<|gFR 3 I (iV _ (λ_=>I) _) I I<|gFR 2 I (bu _) I I ?_;subst h;exact go_sub (F':=(mkF 109 0 [(4,.ptr 0 0)])) (H':=⟨1,[(0,vD ((Tree.node p0.kind p0.text a b).kind) ((Tree.node p0.kind p0.text a b).text) ((Tree.node p0.kind p0.text a b).leads)<|(Tree.node p0.kind p0.text a b).kids)]⟩) [0] [] I hK pq1 (pqo1 I I) I<|qN [.cell 4 35]
theorem jd(m:Nat)(G:Tree)(a:(List YB))(b:Nat)(c:YT)(J:Tree)(h:y5 (b<a.length) (∃e,a[b]?=some e∧gh m G (a.set b []) (b+1) c J)<|(Tree.node G.kind G.text a c)=J):gh (m+1) G a b c J:=by
 refine qj λK Z O i=>?_;refine gR 7 rfl<|gV 77 (qi (a.length:Int)) rfl (aP<|aQ V.str _) rfl<|gLO 3 rfl (aQ V.str _) λg=>gR 3 rfl<|qXh 78 rfl rfl rfl h cg ch ?_ ?_<;>intro hd h;refine gR 9 I ?_;obtain⟨e,d,h⟩:=h;refine gY (yIO ai I I I I<|qG<|aB (f:=V.str) d) I I ?_;exact gDo (.set 3<|.row 9 1<|List.map V.str<|a.set b []) (dSe ai I I I I (aB (f:=V.str) d) I<|lp V.str a b []) (okS I) I I I<|gR 6 I<|gV 80 (qi ((b+1:Nat):Int)) I (am (by have :=g;omega)<|by omega) I<|gR 2 I<|go_xloop<|qW O h [0,1,2,3];refine gR 3 I<|go_xloopE<|gR 17 I<|gFR 3 I (iV _ (λ_=>I) _) I I<|gFR 2 I (bu _) I I ?_;subst h;exact go_sub (F':=(mkF 109 0 [(4,.ptr 0 0)])) (H':=⟨1,[(0,vD ((Tree.node G.kind G.text a c).kind) ((Tree.node G.kind G.text a c).text) ((Tree.node G.kind G.text a c).leads)<|(Tree.node G.kind G.text a c).kids)]⟩) [0] [] I O pq1 (pqo1 I I) I<|qN [.cell 4 35]
theorem jh(m:Nat)(G:Tree)(a:(List YB))(b:Nat)(c:YT)(J:Tree)(h:y5 (b<a.length) (∃e,a[b]?=some e∧ee m G (a.set b []) (b+1) c J)<|(Tree.node G.kind G.text a c)=J):ee (m+1) G a b c J:=by
 refine qj λK Z O i=>?_;refine gR 7 rfl<|gV 98 (qi (a.length:Int)) rfl (aP<|aQ V.str _) rfl<|gLO 3 rfl (aQ V.str _) λg=>gR 3 rfl<|qXh 99 rfl rfl rfl h cg ch ?_ ?_<;>intro hd h;refine gR 9 I ?_;obtain⟨e,d,h⟩:=h;refine gY (yIO ai I I I I<|qG<|aB (f:=V.str) d) I I ?_;exact gDo (.set 3<|.row 9 1<|List.map V.str<|a.set b []) (dSe ai I I I I (aB (f:=V.str) d) I<|lp V.str a b []) (okS I) I I I<|gR 6 I<|gV 101 (qi ((b+1:Nat):Int)) I (am (by have :=g;omega)<|by omega) I<|gR 2 I<|go_xloop<|qW O h [0,1,2,3];refine gR 3 I<|go_xloopE<|gR 17 I<|gFR 3 I (iV _ (λ_=>I) _) I I<|gFR 2 I (bu _) I I ?_;subst h;exact go_sub (F':=(mkF 109 0 [(4,.ptr 0 0)])) (H':=⟨1,[(0,vD ((Tree.node G.kind G.text a c).kind) ((Tree.node G.kind G.text a c).text) ((Tree.node G.kind G.text a c).leads)<|(Tree.node G.kind G.text a c).kids)]⟩) [0] [] I O pq1 (pqo1 I I) I<|qN [.cell 4 35]
theorem ot(m:Nat)(G J:Tree)(h:∃b,fk G b∧((b=false)->(Tree.node 0 [] [] [])=J)∧((b=true)->∃a,gP G [] a∧a=J)):kG G J:=by
 refine⟨I,I,?_⟩;refine qA 9 [] func60 λK O=>?_;refine gR 3 I<|gFP 0 I I I I<|gR 7 I ?_;obtain⟨b,c,h⟩:=h;refine qC0 c rfl<|gR 3 rfl<|qBh 5 rfl rfl rfl h cv cu ?_ ?_<;>intro h;refine gR 9 I ?_;subst h;exact go_sub (F':=(mkF 9 0 [(2,.ptr 0 0)])) (H':=⟨1,[(0,vD ((Tree.node 0 [] [] []).kind) ((Tree.node 0 [] [] []).text) ((Tree.node 0 [] [] []).leads)<|(Tree.node 0 [] [] []).kids)]⟩) [1] [] I O pq1 ⟨⟨_,I,I,(.cons .rfl<|.cons .rfl<|.cons (.nil 1)<|.cons (.nil 4) .nil)⟩,trivial⟩ I<|qN [.cell 2 35];refine gR 6 I ?_;obtain⟨a,d,h⟩:=h;refine qC0 d I<|gR 4 I ?_;subst h;exact go_sub (F':=(mkF 9 0 [(2,.ptr 0 0)])) (H':=⟨1,[(0,vD a.kind a.text a.leads a.kids)]⟩) [1] [] I O pq1 (pqo1 I I) I<|qN [.cell 2 35]
theorem ir(m:Nat)(G:Tree)(J:Bool)(h:∃a,fL G a∧((a=true)->∃b,ie G b∧((b=true)->∃c,iR G c∧((c<=40)->∃d,ma G d∧decide ((d.length:Int)<=4096)=J)∧((¬c<=40)->false=J))∧((b=false)->false=J))∧((a=false)->false=J)):fP G J:=by
 refine⟨I,I,?_⟩;refine qA 20 [] func41 λK O=>?_;refine gR 3 I<|gFP 0 I I I I<|gR 6 I ?_;obtain⟨a,e,h⟩:=h;refine qC0 e rfl<|gR 1 rfl<|qBiZ 5 4 rfl rfl rfl rfl h ?_ ?_<;>intro h;refine gR 1 I ?_;obtain⟨b,f,h⟩:=h;refine qC0 f rfl<|gR 2 rfl<|qBiZ 9 8 rfl rfl rfl rfl h ?_ ?_<;>intro h;refine gR 1 I ?_;obtain⟨c,g,h⟩:=h;refine qC0 g rfl<|gR 3 rfl<|qBdZ 14 13 rfl rfl rfl rfl h ?_ ?_<;>intro h;refine gR 1 I ?_;obtain⟨d,i,h⟩:=h;refine qC0 i I<|gR 7 I ?_;subst h;exact qN [.tmp 2];refine gR 9 I ?_;subst h;exact qN [.tmp 2];refine gR 14 I ?_;subst h;exact qN [.tmp 2];refine gR 18 I ?_;subst h;exact qN [.tmp 2]
theorem mY(m:Nat)(G:Tree)(J:Bool)(h:∃a,fk G a∧((a=true)->∃b,ja G b∧b=J)∧((a=false)->false=J)):fL G J:=by
 refine⟨I,I,?_⟩;refine qA 9 [] func62 λK O=>?_;refine gR 3 I<|gFP 0 I I I I<|gR 6 I ?_;obtain⟨a,c,h⟩:=h;refine qC0 c rfl<|gR 1 rfl<|qBiZ 5 4 rfl rfl rfl rfl h ?_ ?_<;>intro h;refine gR 1 I ?_;obtain⟨b,d,h⟩:=h;refine qC0 d I<|gR 5 I ?_;subst h;exact qN [.tmp 2];refine gR 7 I ?_;subst h;exact qN [.tmp 2]
def dL(m:Nat)(G:Tree)(a:Nat)(J:Bool):Prop:=z7 m [] f94 (q9<|.bool J) (xI<|aj f94) [.blk 0,.seq<|xH<|aj f94] 50 [(1,.box (ao G) 0),(3,qi (a:Int))] ⟨0,[]⟩
def hW(m:Nat)(G:Tree)(a:Nat)(J:Bool):Prop:=z7 m [] f94 (q9<|.bool J) (xI<|cB<|aj f94) [.blk 2,.seq<|xJ<|aj f94] 50 [(1,.box (ao G) 0),(4,qi (a:Int))] ⟨0,[]⟩
theorem qP(m:Nat)(p0:Tree)(r0:Bool)(h:∃a,fT p0.kind (p0.kids.length:Int) a∧(((p0.leads.length:Int)≠a)->false=r0)∧(((p0.leads.length:Int)=a)->dL m p0 0 r0)):ja p0 r0:=by
 refine⟨I,I,?_⟩;refine qA 50 [] func94 λK hK=>?_;refine gR 3 I<|gFP 0 I I I I<|gR 5 I<|qDs [] 10 10<|qDr (qR 0 3 2 []) I I<|gV 7 (qi (p0.leads.length:Int)) I (aP<|aQ V.str _) I<|gLB 6 I (aQ V.str _) λc=>qDr ((3,2)::(4,2)::(qR 5 3 0 [])) I I<|gV 12 (qi (p0.kids.length:Int)) I (aP<|aJ _) I<|gLB 11 I (aJ _) λd=>?_;obtain⟨a,b,h⟩:=h;refine bg 8 b (by kernel_rfl) I (by kernel_rfl) I I .rfl I I ?_;refine qDr [(9,0)] rfl rfl<|qDe<|gR 1 rfl<|qXh 14 rfl rfl rfl h cz bH ?_ ?_<;>intro hd h;refine gR 8 I ?_;subst h;exact qN [.tmp 2];exact gR 10 I<|go_loop m<|qW hK h []
theorem eT(m:Nat)(p0:Tree)(a:Nat)(r0:Bool)(h:y5 (a<p0.leads.length) (∃b,p0.leads[a]?=some b∧y8 p0.kind 1 (∃c,lq b ((a:Int)==2) c∧y7 c (false=r0) (dL m p0 (a+1) r0)) (∃d,lq b false d∧y7 d (false=r0) (dL m p0 (a+1) r0)))<|hW m p0 0 r0):dL (m+1) p0 a r0:=by
 refine qj λK j1 hK k=>?_;refine gR 7 rfl<|gV 18 (qi (p0.leads.length:Int)) rfl (aP<|aQ V.str _) rfl<|gLB 17 rfl (aQ V.str _) λg=>gR 3 rfl<|qXh 19 rfl rfl rfl h cg ch ?_ ?_<;>intro hd h;refine gR 6 I<|qDs [] 14 14<|qDr (qR 0 3 2 []) I I ?_;obtain⟨b,e,h⟩:=h;refine gYd 3 rfl (by kernel_rfl) (aI (aB (f:=V.str) e) ai rfl rfl rfl rfl) rfl rfl<|qDr ((4,2)::(qR 5 4 0 [])) rfl rfl<|qXeZ 30 29 rfl rfl rfl rfl h ?_ ?_<;>intro hd h;refine qDr (qR 9 3 0 []) I I ?_;obtain⟨c,i,h⟩:=h;refine bg 12 i (by kernel_rfl) I (by kernel_rfl) I I .rfl I I ?_;refine qDr [(13,0)] rfl rfl<|qDe<|gR 1 rfl<|qXh 35 rfl rfl rfl h cv cu ?_ ?_<;>intro hd h;refine gR 9 I<|go_xloopR<|gR 2 I ?_;subst h;exact qN [.tmp 2];exact gR 7 I<|gV 21 (qi ((a+1:Nat):Int)) I (am (by have :=g;omega)<|by omega) I<|gR 2 I<|go_xloop<|qW hK h [];refine qDr (qR 9 3 0 []) I I ?_;obtain⟨d,j,h⟩:=h;refine bg 12 j (by kernel_rfl) I (by kernel_rfl) I I .rfl I I ?_;refine qDr [(13,0)] rfl rfl<|qDe<|gR 1 rfl<|qXh 35 rfl rfl rfl h cv cu ?_ ?_<;>intro hd h;refine gR 9 I<|go_xloopR<|gR 2 I ?_;subst h;exact qN [.tmp 2];exact gR 7 I<|gV 21 (qi ((a+1:Nat):Int)) I (am (by have :=g;omega)<|by omega) I<|gR 2 I<|go_xloop<|qW hK h [];exact gR 3 I<|go_xloopE<|gR 9 I<|go_loop m<|qW hK h []
theorem gG(m:Nat)(G:Tree)(a:Nat)(J:Bool)(h:y5 (a<G.kids.length) (∃c,G.kids[a]?=some c∧∃b,ja c b∧y7 b (false=J) (hW m G (a+1) J))<|true=J):hW (m+1) G a J:=by
 refine qj λK j1 O g=>?_;refine gR 7 rfl<|gV 39 (qi (G.kids.length:Int)) rfl (aP<|aJ _) rfl<|gLB 38 rfl (aJ _) λe=>gR 3 rfl<|qXh 40 rfl rfl rfl h cg ch ?_ ?_<;>intro Z h;refine gR 10 I ?_;obtain⟨c,d,h⟩:=h;refine gY (aI (ay d) ai I I I I) I I<|gR 1 I ?_;obtain⟨b,f,h⟩:=h;refine qC0 f rfl<|gR 3 rfl<|qXh 49 rfl rfl rfl h cv cu ?_ ?_<;>intro Z h;refine gR 9 I<|go_xloopR<|gR 2 I ?_;subst h;exact qN [.tmp 2];exact gR 7 I<|gV 42 (qi ((a+1:Nat):Int)) I (am (by have :=e;omega)<|by omega) I<|gR 2 I<|go_xloop<|qW O h [];refine gR 3 I<|go_xloopE<|gR 8 I ?_;subst h;exact qN [.tmp 2]
def aN(m:Nat)(G:Tree)(a:Nat)(J:Bool):Prop:=z7 m [] f63 (q9<|.bool J) (xI<|cB<|aj f63) [.blk 0,.seq<|xJ<|aj f63] 54 [(1,.box (ao G) 0),(3,qi (G.kids.length:Int)),(4,qi (a:Int))] ⟨0,[]⟩
theorem pG(m:Nat)(p0:Tree)(r0:Bool)(h:((p0.kind=1)->((40<(p0.kids.length:Int))->false=r0)∧((¬40<(p0.kids.length:Int))->((p0.kind=2)->((10<(p0.kids.length:Int))->false=r0)∧((¬10<(p0.kids.length:Int))->((p0.kind=16)->((8<(p0.kids.length:Int))->false=r0)∧((¬8<(p0.kids.length:Int))->((p0.kind=18)->((16<(p0.kids.length:Int))->false=r0)∧((¬16<(p0.kids.length:Int))->aN m p0 0 r0))∧((p0.kind≠18)->aN m p0 0 r0)))∧((p0.kind≠16)->((p0.kind=18)->((16<(p0.kids.length:Int))->false=r0)∧((¬16<(p0.kids.length:Int))->aN m p0 0 r0))∧((p0.kind≠18)->aN m p0 0 r0))))∧((p0.kind≠2)->((p0.kind=16)->((8<(p0.kids.length:Int))->false=r0)∧((¬8<(p0.kids.length:Int))->((p0.kind=18)->((16<(p0.kids.length:Int))->false=r0)∧((¬16<(p0.kids.length:Int))->aN m p0 0 r0))∧((p0.kind≠18)->aN m p0 0 r0)))∧((p0.kind≠16)->((p0.kind=18)->((16<(p0.kids.length:Int))->false=r0)∧((¬16<(p0.kids.length:Int))->aN m p0 0 r0))∧((p0.kind≠18)->aN m p0 0 r0)))))∧((p0.kind≠1)->((p0.kind=2)->((10<(p0.kids.length:Int))->false=r0)∧((¬10<(p0.kids.length:Int))->((p0.kind=16)->((8<(p0.kids.length:Int))->false=r0)∧((¬8<(p0.kids.length:Int))->((p0.kind=18)->((16<(p0.kids.length:Int))->false=r0)∧((¬16<(p0.kids.length:Int))->aN m p0 0 r0))∧((p0.kind≠18)->aN m p0 0 r0)))∧((p0.kind≠16)->((p0.kind=18)->((16<(p0.kids.length:Int))->false=r0)∧((¬16<(p0.kids.length:Int))->aN m p0 0 r0))∧((p0.kind≠18)->aN m p0 0 r0))))∧((p0.kind≠2)->((p0.kind=16)->((8<(p0.kids.length:Int))->false=r0)∧((¬8<(p0.kids.length:Int))->((p0.kind=18)->((16<(p0.kids.length:Int))->false=r0)∧((¬16<(p0.kids.length:Int))->aN m p0 0 r0))∧((p0.kind≠18)->aN m p0 0 r0)))∧((p0.kind≠16)->((p0.kind=18)->((16<(p0.kids.length:Int))->false=r0)∧((¬16<(p0.kids.length:Int))->aN m p0 0 r0))∧((p0.kind≠18)->aN m p0 0 r0))))):ie p0 r0:=by
 refine⟨I,I,?_⟩;refine qA 54 [] func63 λK hK=>?_;refine gR 3 rfl<|gFP 0 rfl rfl rfl rfl<|gR 8 rfl<|gV 7 (qi (p0.kids.length:Int)) rfl (aP<|aJ _) rfl<|gLB 6 rfl (aJ _) λa=>gR 10 rfl<|qXeZ 11 10 rfl rfl rfl rfl h ?_ ?_<;>intro hd h;refine gR 4 rfl<|qXdZ 15 14 rfl rfl rfl rfl h ?_ ?_<;>intro hd h;refine gR 36 I ?_;subst h;exact qN [.tmp 2];refine gR 4 rfl<|qXeZ 19 18 rfl rfl rfl rfl h ?_ ?_<;>intro hd h;refine gR 5 rfl<|qXdZ 24 23 rfl rfl rfl rfl h ?_ ?_<;>intro hd h;refine gR 27 I ?_;subst h;exact qN [.tmp 2];refine gR 4 rfl<|qXeZ 28 27 rfl rfl rfl rfl h ?_ ?_<;>intro hd h;refine gR 5 rfl<|qXdZ 33 32 rfl rfl rfl rfl h ?_ ?_<;>intro hd h;refine gR 18 I ?_;subst h;exact qN [.tmp 2];refine gR 4 rfl<|qXeZ 37 36 rfl rfl rfl rfl h ?_ ?_<;>intro hd h;refine gR 6 rfl<|qXd 41 rfl rfl rfl h ?_ ?_<;>intro hd h;refine gR 8 I ?_;subst h;exact qN [.tmp 2];exact gR 10 I<|go_loop m<|qW hK h [];exact gR 16 I<|go_loop m<|qW hK h [];refine gR 9 rfl<|qXeZ 37 36 rfl rfl rfl rfl h ?_ ?_<;>intro hd h;refine gR 6 rfl<|qXd 41 rfl rfl rfl h ?_ ?_<;>intro hd h;refine gR 8 I ?_;subst h;exact qN [.tmp 2];exact gR 10 I<|go_loop m<|qW hK h [];exact gR 16 I<|go_loop m<|qW hK h [];refine gR 9 rfl<|qXeZ 28 27 rfl rfl rfl rfl h ?_ ?_<;>intro hd h;refine gR 5 rfl<|qXdZ 33 32 rfl rfl rfl rfl h ?_ ?_<;>intro hd h;refine gR 18 I ?_;subst h;exact qN [.tmp 2];refine gR 4 rfl<|qXeZ 37 36 rfl rfl rfl rfl h ?_ ?_<;>intro hd h;refine gR 6 rfl<|qXd 41 rfl rfl rfl h ?_ ?_<;>intro hd h;refine gR 8 I ?_;subst h;exact qN [.tmp 2];exact gR 10 I<|go_loop m<|qW hK h [];exact gR 16 I<|go_loop m<|qW hK h [];refine gR 9 rfl<|qXeZ 37 36 rfl rfl rfl rfl h ?_ ?_<;>intro hd h;refine gR 6 rfl<|qXd 41 rfl rfl rfl h ?_ ?_<;>intro hd h;refine gR 8 I ?_;subst h;exact qN [.tmp 2];exact gR 10 I<|go_loop m<|qW hK h [];exact gR 16 I<|go_loop m<|qW hK h [];refine gR 8 rfl<|qXeZ 19 18 rfl rfl rfl rfl h ?_ ?_<;>intro hd h;refine gR 5 rfl<|qXdZ 24 23 rfl rfl rfl rfl h ?_ ?_<;>intro hd h;refine gR 27 I ?_;subst h;exact qN [.tmp 2];refine gR 4 rfl<|qXeZ 28 27 rfl rfl rfl rfl h ?_ ?_<;>intro hd h;refine gR 5 rfl<|qXdZ 33 32 rfl rfl rfl rfl h ?_ ?_<;>intro hd h;refine gR 18 I ?_;subst h;exact qN [.tmp 2];refine gR 4 rfl<|qXeZ 37 36 rfl rfl rfl rfl h ?_ ?_<;>intro hd h;refine gR 6 rfl<|qXd 41 rfl rfl rfl h ?_ ?_<;>intro hd h;refine gR 8 I ?_;subst h;exact qN [.tmp 2];exact gR 10 I<|go_loop m<|qW hK h [];exact gR 16 I<|go_loop m<|qW hK h [];refine gR 9 rfl<|qXeZ 37 36 rfl rfl rfl rfl h ?_ ?_<;>intro hd h;refine gR 6 rfl<|qXd 41 rfl rfl rfl h ?_ ?_<;>intro hd h;refine gR 8 I ?_;subst h;exact qN [.tmp 2];exact gR 10 I<|go_loop m<|qW hK h [];exact gR 16 I<|go_loop m<|qW hK h [];refine gR 9 rfl<|qXeZ 28 27 rfl rfl rfl rfl h ?_ ?_<;>intro hd h;refine gR 5 rfl<|qXdZ 33 32 rfl rfl rfl rfl h ?_ ?_<;>intro hd h;refine gR 18 I ?_;subst h;exact qN [.tmp 2];refine gR 4 rfl<|qXeZ 37 36 rfl rfl rfl rfl h ?_ ?_<;>intro hd h;refine gR 6 rfl<|qXd 41 rfl rfl rfl h ?_ ?_<;>intro hd h;refine gR 8 I ?_;subst h;exact qN [.tmp 2];exact gR 10 I<|go_loop m<|qW hK h [];exact gR 16 I<|go_loop m<|qW hK h [];refine gR 9 rfl<|qXeZ 37 36 rfl rfl rfl rfl h ?_ ?_<;>intro hd h;refine gR 6 rfl<|qXd 41 rfl rfl rfl h ?_ ?_<;>intro hd h;refine gR 8 I ?_;subst h;exact qN [.tmp 2];exact gR 10 I<|go_loop m<|qW hK h [];exact gR 16 I<|go_loop m<|qW hK h []
theorem gf(m:Nat)(G:Tree)(a:Nat)(J:Bool)(h:y5 (a<G.kids.length) (∃c,G.kids[a]?=some c∧∃b,ie c b∧y7 b (false=J) (a+1<=9223372036854775807∧aN m G (a+1) J))<|true=J):aN (m+1) G a J:=by
 refine qj λK j1 O f=>?_;refine gR 8 rfl<|qXh 44 rfl rfl rfl h cg ch ?_ ?_<;>intro Z h;refine gR 10 I ?_;obtain⟨c,d,h⟩:=h;refine gY (aI (ay d) ai I I I I) I I<|gR 1 I ?_;obtain⟨b,e,h⟩:=h;refine qC0 e rfl<|gR 3 rfl<|qXh 53 rfl rfl rfl h cv cu ?_ ?_<;>intro Z h;refine gR 9 I<|go_xloopR<|gR 2 I ?_;subst h;exact qN [.tmp 2];refine gR 6 I ?_;obtain⟨hb,h⟩:=h;exact gR 1 I<|gV 46 (qi ((a+1:Nat):Int)) I (am (by omega)<|by omega) I<|gR 2 I<|go_xloop<|qW O h [];refine gR 3 I<|go_xloopE<|gR 8 I ?_;subst h;exact qN [.tmp 2]
def iv(m:Nat)(G:Tree)(a:Int)(b:Nat)(J:Int):Prop:=z7 m [] f64 (q9<|qi J) (xI<|aj f64) [.blk 0,.seq<|xH<|aj f64] 22 [(1,.box (ao G) 0),(3,qi a),(4,qi (b:Int))] ⟨0,[]⟩
theorem xa(m:Nat)(p0:Tree)(r0:Int)(h:iv m p0 0 0 r0):iR p0 r0:=by
 refine⟨I,I,?_⟩;refine qA 22 [] func64 λK hK=>?_;exact gR 3 I<|gFP 0 I I I I<|gR 15 I<|go_loop m<|qW hK h []
theorem kW(m:Nat)(G:Tree)(b:Int)(a:Nat)(J:Int)(h:y5 (a<G.kids.length) (∃c,G.kids[a]?=some c∧∃d,iR c d∧iv m G (max b d) (a+1) J)<|InI (b+1)∧(b+1)=J):iv (m+1) G b a J:=by
 refine qj λK Z O i=>?_;refine gR 7 rfl<|gV 8 (qi (G.kids.length:Int)) rfl (aP<|aJ _) rfl<|gLB 7 rfl (aJ _) λf=>gR 3 rfl<|qXh 9 rfl rfl rfl h cg ch ?_ ?_<;>intro hd h;refine gR 10 I ?_;obtain⟨c,e,h⟩:=h;refine gY (aI (ay e) ai I I I I) I I<|gR 1 I ?_;obtain⟨d,g,h⟩:=h;exact qC0 g I<|gR 8 I<|gV 11 (qi ((a+1:Nat):Int)) I (am (by have :=f;omega)<|by omega) I<|gR 2 I<|go_xloop<|qW O h [];refine gR 3 I<|go_xloopE<|gR 5 I ?_;obtain⟨hb,h⟩:=h;refine gR 1 I<|gV 21 (qi<|b+1) I (am hb I) I<|gR 4 I ?_;subst h;exact qN [.tmp 2]
def cJ(m:Nat)(a:List aa)(b:YB)(c:Nat)(G:YB):Prop:=z7 m [] f65 (q9<|.str G) (xI<|xA<|aj f65) [.blk 0,.seq<|xA<|xH<|aj f65] 57 [(3,.row 2<|List.map aa.w a),(4,.str b),(5,qi (c:Int))] ⟨0,[]⟩
theorem qX(m:Nat)(p0:Tree)(r0:YB)(h:∃a,fL p0 a∧((a=false)->[]=r0)∧((a=true)->∃b,rq p0 b∧cJ m b [] 0 r0)):ma p0 r0:=by
 refine⟨I,I,?_⟩;refine qA 57 [] func65 λK hK=>?_;refine gR 3 I<|gFP 0 I I I I<|gR 7 I ?_;obtain⟨a,c,h⟩:=h;refine qC0 c rfl<|gR 3 rfl<|qXh 8 rfl rfl rfl h cv cu ?_ ?_<;>intro hd h;refine gR 8 I ?_;subst h;exact qN [.tmp 2];refine gR 6 I ?_;obtain⟨b,d,h⟩:=h;exact qC0 d I<|gR 15 I<|go_loop m<|qW hK h []
theorem dv(m:Nat)(b:List aa)(c:YB)(a:Nat)(G:YB)(h:y5 (a<b.length) (y5 (0<(a:Int)) (∃l,b[a]?=some l∧y8 l.Lead [] (InI ((a:Int)-1)∧∃n,((a:Int)-1)=((n:Nat):Int)∧∃s,b[n]?=some s∧∃t,b[a]?=some t∧∃o,rx s.Text t.Text o∧y6 o (c.length+[32].length<=9223372036854775807∧∃j,b[a]?=some j∧(c++[32]).length+j.Lead.length<=9223372036854775807∧∃p,b[a]?=some p∧((c++[32])++j.Lead).length+p.Text.length<=9223372036854775807∧cJ m b (((c++[32])++j.Lead)++p.Text) (a+1) G) (∃k,b[a]?=some k∧c.length+k.Lead.length<=9223372036854775807∧∃q,b[a]?=some q∧(c++k.Lead).length+q.Text.length<=9223372036854775807∧cJ m b ((c++k.Lead)++q.Text) (a+1) G)) (∃d,b[a]?=some d∧c.length+d.Lead.length<=9223372036854775807∧∃g,b[a]?=some g∧(c++d.Lead).length+g.Text.length<=9223372036854775807∧cJ m b ((c++d.Lead)++g.Text) (a+1) G)) (∃e,b[a]?=some e∧c.length+e.Lead.length<=9223372036854775807∧∃i,b[a]?=some i∧(c++e.Lead).length+i.Text.length<=9223372036854775807∧cJ m b ((c++e.Lead)++i.Text) (a+1) G))<|c=G):cJ (m+1) b c a G:=by
 refine qj λK Z J κ=>?_;refine gR 6 rfl<|gV 13 (qi (b.length:Int)) rfl (aP<|aQ aa.w _) rfl<|gLB 12 rfl (aQ aa.w _) λr=>gR 3 rfl<|qXh 14 rfl rfl rfl h cg ch ?_ ?_<;>intro O h;refine gR 7 rfl<|qDs [] 24 24<|qDr (qR 0 3 0 []) rfl rfl<|qXdZ 19 18 rfl rfl rfl rfl h ?_ ?_<;>intro O h;refine qDr [(3,2),(4,0)] I I ?_;obtain⟨l,α,h⟩:=h;refine cw 5 I (by kernel_rfl) (aI (aB (f:=aa.w) α) ai I I I I) I I ?_;refine qDr (qR 6 5 0 []) rfl rfl<|qXeZ 27 26 rfl rfl rfl rfl h ?_ ?_<;>intro O h;refine qDr [(11,2),(12,2)] I I ?_;obtain⟨hb,h⟩:=h;refine qDr [(13,2)] I I<|gV 30 (qi<|(a:Int)-1) I (am hb I) I ?_;obtain⟨n,θ,h⟩:=h;refine gV 30 (qi ((n:Nat):Int)) I (bd θ) I ?_;obtain⟨s,β,h⟩:=h;refine gYd 14 I (by kernel_rfl) (aI (aB (f:=aa.w) β) ai I I I I) I I<|qDr (qR 15 3 2 [(18,0)]) I I ?_;obtain⟨t,γ,h⟩:=h;refine cw 19 I (by kernel_rfl) (aI (aB (f:=aa.w) γ) ai I I I I) I I ?_;refine qDr [(20,0),(21,0)] I I ?_;obtain⟨o,ι,h⟩:=h;refine bg 22 ι (by kernel_rfl) I (by kernel_rfl) I I .rfl I I ?_;refine qDr [(23,0)] rfl rfl<|qDe<|gR 1 rfl<|qXi 40 rfl rfl rfl h ?_ ?_<;>intro O h;refine gR 3 I ?_;obtain⟨hb,h⟩:=h;refine gY (vm I I hb) I I<|gR 3 I<|qDs [] 14 14<|qDr (qR 0 3 2 []) I I ?_;obtain⟨j,δ,h⟩:=h;refine gYd 3 I (by kernel_rfl) (aI (aB (f:=aa.w) δ) ai I I I I) I I<|qDr [(4,2),(5,2)] I I ?_;obtain⟨hb,h⟩:=h;refine gYd 6 I (by kernel_rfl) (vm I I hb) I I<|qDr [(7,2),(8,0)] I I ?_;obtain⟨p,ε,h⟩:=h;refine cw 9 I (by kernel_rfl) (aI (aB (f:=aa.w) ε) ai I I I I) I I ?_;refine qDr [(10,0),(11,0)] I I ?_;obtain⟨hb,h⟩:=h;refine cw 12 I (by kernel_rfl) (vm I I hb) I I ?_;exact qDr [(13,0)] I I<|qDe<|gR 5 I<|gV 16 (qi ((a+1:Nat):Int)) I (am (by have :=r;omega)<|by omega) I<|gR 2 I<|go_xloop<|qW J h [];refine gR 3 I<|qDs [] 14 14<|qDr (qR 0 3 2 []) I I ?_;obtain⟨k,ζ,h⟩:=h;refine gYd 3 I (by kernel_rfl) (aI (aB (f:=aa.w) ζ) ai I I I I) I I<|qDr [(4,2),(5,2)] I I ?_;obtain⟨hb,h⟩:=h;refine gYd 6 I (by kernel_rfl) (vm I I hb) I I<|qDr [(7,2),(8,0)] I I ?_;obtain⟨q,η,h⟩:=h;refine cw 9 I (by kernel_rfl) (aI (aB (f:=aa.w) η) ai I I I I) I I ?_;refine qDr [(10,0),(11,0)] I I ?_;obtain⟨hb,h⟩:=h;refine cw 12 I (by kernel_rfl) (vm I I hb) I I ?_;exact qDr [(13,0)] I I<|qDe<|gR 5 I<|gV 16 (qi ((a+1:Nat):Int)) I (am (by have :=r;omega)<|by omega) I<|gR 2 I<|go_xloop<|qW J h [];refine qDr (qR 11 7 2<|qR 18 6 0 []) I I<|qDe<|gR 4 I<|qDs [] 14 14<|qDr (qR 0 3 2 []) I I ?_;obtain⟨d,v,h⟩:=h;refine gYd 3 I (by kernel_rfl) (aI (aB (f:=aa.w) v) ai I I I I) I I<|qDr [(4,2),(5,2)] I I ?_;obtain⟨hb,h⟩:=h;refine gYd 6 I (by kernel_rfl) (vm I I hb) I I<|qDr [(7,2),(8,0)] I I ?_;obtain⟨g,x,h⟩:=h;refine cw 9 I (by kernel_rfl) (aI (aB (f:=aa.w) x) ai I I I I) I I ?_;refine qDr [(10,0),(11,0)] I I ?_;obtain⟨hb,h⟩:=h;refine cw 12 I (by kernel_rfl) (vm I I hb) I I ?_;exact qDr [(13,0)] I I<|qDe<|gR 5 I<|gV 16 (qi ((a+1:Nat):Int)) I (am (by have :=r;omega)<|by omega) I<|gR 2 I<|go_xloop<|qW J h [];refine qDr ((3,2)::(qR 4 7 0<|qR 11 7 2<|qR 18 6 0 [])) I I<|qDe<|gR 4 I<|qDs [] 14 14<|qDr (qR 0 3 2 []) I I ?_;obtain⟨e,y,h⟩:=h;refine gYd 3 I (by kernel_rfl) (aI (aB (f:=aa.w) y) ai I I I I) I I<|qDr [(4,2),(5,2)] I I ?_;obtain⟨hb,h⟩:=h;refine gYd 6 I (by kernel_rfl) (vm I I hb) I I<|qDr [(7,2),(8,0)] I I ?_;obtain⟨i,z,h⟩:=h;refine cw 9 I (by kernel_rfl) (aI (aB (f:=aa.w) z) ai I I I I) I I ?_;refine qDr [(10,0),(11,0)] I I ?_;obtain⟨hb,h⟩:=h;refine cw 12 I (by kernel_rfl) (vm I I hb) I I ?_;exact qDr [(13,0)] I I<|qDe<|gR 5 I<|gV 16 (qi ((a+1:Nat):Int)) I (am (by have :=r;omega)<|by omega) I<|gR 2 I<|go_xloop<|qW J h [];refine gR 3 I<|go_xloopE<|gR 9 I ?_;subst h;exact qN [.tmp 2]
theorem wa(m:Nat)(G:Tree)(J:List aa)(h:∃a,ax ([]:List aa) G a∧a=J):rq G J:=by
 refine⟨I,I,?_⟩;refine qA 5 [] func95 λK O=>?_;refine gR 3 I<|gFP 0 I I I I<|gR 6 I ?_;obtain⟨a,b,h⟩:=h;refine gCn 0 152 2 b [1] (by kernel_rfl) I I I I .rfl ⟨⟨_,I,⟨I,I,I⟩⟩,trivial⟩ I ?_;rintro _ _ ⟨rfl,rfl⟩;refine gHR 3 (List.map aa.w a) I (vJ _ a) I<|gR 4 I<|gFR 3 I (iV _ (λ_=>I) _) I I ?_;subst h;exact qN [.tmp 2]
def pW(m:Nat)(G:List aa)(p1:Tree)(J:List aa):Prop:=z8 [] f139 (z6 (.sl 1) ⟨2,[(1,.row 152 2<|List.map aa.w J)]⟩) (xK<|xF<|aj f139) [.blk 0,.seq<|xH<|aj f139] 365 [(0,.sl 0),(3,.box (ao p1) 0),(5,qi (p1.kids.length:Int))] ⟨1,[(0,.row 152 2<|List.map aa.w G)]⟩
def kS(m:Nat)(G:List aa)(p1:Tree)(J:List aa):Prop:=z8 [] f139 (z6 (.sl 1) ⟨2,[(1,.row 152 2<|List.map aa.w J)]⟩) (xM<|aj f139) [.blk 0,.seq<|xH<|aj f139] 365 [(0,.sl 0),(3,.box (ao p1) 0),(5,qi (p1.kids.length:Int)),(11,qi p1.kind)] ⟨1,[(0,.row 152 2<|List.map aa.w G)]⟩
def eR(m:Nat)(p1:Tree)(a:List aa)(b:Nat)(G:List aa):Prop:=z7 m [] f139 (z6 (.sl 1) ⟨2,[(1,.row 152 2<|List.map aa.w G)]⟩) (cL<|xE<|cB<|xK<|xF<|aj f139) [.blk 1,.seq<|xA<|xK<|xF<|aj f139,.blk 0,.seq<|xH<|aj f139] 365 [(0,.sl 0),(3,.box (ao p1) 0),(5,qi (p1.kids.length:Int)),(6,qi (b:Int))] ⟨1,[(0,.row 152 2<|List.map aa.w a)]⟩
def pI(m:Nat)(G:List aa)(p1:Tree)(J:List aa):Prop:=z8 [] f139 (z6 (.sl 1) ⟨2,[(1,.row 152 2<|List.map aa.w J)]⟩) (xK<|xM<|aj f139) [.blk 0,.seq<|xH<|aj f139] 365 [(0,.sl 0),(3,.box (ao p1) 0),(5,qi (p1.kids.length:Int))] ⟨1,[(0,.row 152 2<|List.map aa.w G)]⟩
def kO(m:Nat)(G:List aa)(p1:Tree)(J:List aa):Prop:=z8 [] f139 (z6 (.sl 1) ⟨2,[(1,.row 152 2<|List.map aa.w J)]⟩) (xC<|xF<|aj f139) [.blk 0,.seq<|xH<|aj f139] 365 [(0,.sl 0),(3,.box (ao p1) 0),(5,qi (p1.kids.length:Int)),(11,qi p1.kind)] ⟨1,[(0,.row 152 2<|List.map aa.w G)]⟩
def pH(m:Nat)(G:List aa)(p1:Tree)(J:List aa):Prop:=z8 [] f139 (z6 (.sl 1) ⟨2,[(1,.row 152 2<|List.map aa.w J)]⟩) (xK<|xC<|xF<|aj f139) [.blk 0,.seq<|xH<|aj f139] 365 [(0,.sl 0),(3,.box (ao p1) 0)] ⟨1,[(0,.row 152 2<|List.map aa.w G)]⟩
def kZ(m:Nat)(G:List aa)(p1:Tree)(J:List aa):Prop:=z8 [] f139 (z6 (.sl 1) ⟨2,[(1,.row 152 2<|List.map aa.w J)]⟩) (xC<|xM<|aj f139) [.blk 0,.seq<|xH<|aj f139] 365 [(0,.sl 0),(3,.box (ao p1) 0),(5,qi (p1.kids.length:Int)),(11,qi p1.kind)] ⟨1,[(0,.row 152 2<|List.map aa.w G)]⟩
def pu(m:Nat)(G:List aa)(p1:Tree)(J:List aa):Prop:=z8 [] f139 (z6 (.sl 1) ⟨2,[(1,.row 152 2<|List.map aa.w J)]⟩) (xK<|xC<|xM<|aj f139) [.blk 0,.seq<|xH<|aj f139] 365 [(0,.sl 0),(3,.box (ao p1) 0)] ⟨1,[(0,.row 152 2<|List.map aa.w G)]⟩
def kQ(m:Nat)(G:List aa)(p1:Tree)(J:List aa):Prop:=z8 [] f139 (z6 (.sl 1) ⟨2,[(1,.row 152 2<|List.map aa.w J)]⟩) (xG<|xF<|aj f139) [.blk 0,.seq<|xH<|aj f139] 365 [(0,.sl 0),(3,.box (ao p1) 0),(5,qi (p1.kids.length:Int)),(11,qi p1.kind)] ⟨1,[(0,.row 152 2<|List.map aa.w G)]⟩
def kE(m:Nat)(G:List aa)(p1:Tree)(J:List aa):Prop:=z8 [] f139 (z6 (.sl 1) ⟨2,[(1,.row 152 2<|List.map aa.w J)]⟩) (xG<|xM<|aj f139) [.blk 0,.seq<|xH<|aj f139] 365 [(0,.sl 0),(3,.box (ao p1) 0),(5,qi (p1.kids.length:Int)),(11,qi p1.kind)] ⟨1,[(0,.row 152 2<|List.map aa.w G)]⟩
def kf(m:Nat)(G:List aa)(p1:Tree)(J:List aa):Prop:=z8 [] f139 (z6 (.sl 1) ⟨2,[(1,.row 152 2<|List.map aa.w J)]⟩) (xG<|xC<|xF<|aj f139) [.blk 0,.seq<|xH<|aj f139] 365 [(0,.sl 0),(3,.box (ao p1) 0),(5,qi (p1.kids.length:Int)),(11,qi p1.kind)] ⟨1,[(0,.row 152 2<|List.map aa.w G)]⟩
def kc(m:Nat)(G:List aa)(p1:Tree)(J:List aa):Prop:=z8 [] f139 (z6 (.sl 1) ⟨2,[(1,.row 152 2<|List.map aa.w J)]⟩) (xG<|xC<|xM<|aj f139) [.blk 0,.seq<|xH<|aj f139] 365 [(0,.sl 0),(3,.box (ao p1) 0),(5,qi (p1.kids.length:Int)),(11,qi p1.kind)] ⟨1,[(0,.row 152 2<|List.map aa.w G)]⟩
def jZ(m:Nat)(G:List aa)(p1:Tree)(J:List aa):Prop:=z8 [] f139 (z6 (.sl 1) ⟨2,[(1,.row 152 2<|List.map aa.w J)]⟩) (xN<|xF<|aj f139) [.blk 0,.seq<|xH<|aj f139] 365 [(0,.sl 0),(3,.box (ao p1) 0),(5,qi (p1.kids.length:Int)),(11,qi p1.kind)] ⟨1,[(0,.row 152 2<|List.map aa.w G)]⟩
def jU(m:Nat)(G:List aa)(p1:Tree)(J:List aa):Prop:=z8 [] f139 (z6 (.sl 1) ⟨2,[(1,.row 152 2<|List.map aa.w J)]⟩) (xN<|xM<|aj f139) [.blk 0,.seq<|xH<|aj f139] 365 [(0,.sl 0),(3,.box (ao p1) 0),(5,qi (p1.kids.length:Int)),(11,qi p1.kind)] ⟨1,[(0,.row 152 2<|List.map aa.w G)]⟩
def kh(m:Nat)(G:List aa)(p1:Tree)(J:List aa):Prop:=z8 [] f139 (z6 (.sl 1) ⟨2,[(1,.row 152 2<|List.map aa.w J)]⟩) (xN<|xC<|xF<|aj f139) [.blk 0,.seq<|xH<|aj f139] 365 [(0,.sl 0),(3,.box (ao p1) 0),(5,qi (p1.kids.length:Int)),(11,qi p1.kind)] ⟨1,[(0,.row 152 2<|List.map aa.w G)]⟩
def nU(m:Nat)(G:List aa)(p1:Tree)(J:List aa):Prop:=z8 [] f139 (z6 (.sl 1) ⟨2,[(1,.row 152 2<|List.map aa.w J)]⟩) (xK<|xN<|xC<|xF<|aj f139) [.blk 0,.seq<|xH<|aj f139] 365 [(0,.sl 0),(3,.box (ao p1) 0)] ⟨1,[(0,.row 152 2<|List.map aa.w G)]⟩
def jM(m:Nat)(G:List aa)(p1:Tree)(J:List aa):Prop:=z8 [] f139 (z6 (.sl 1) ⟨2,[(1,.row 152 2<|List.map aa.w J)]⟩) (xN<|xC<|xM<|aj f139) [.blk 0,.seq<|xH<|aj f139] 365 [(0,.sl 0),(3,.box (ao p1) 0),(5,qi (p1.kids.length:Int)),(11,qi p1.kind)] ⟨1,[(0,.row 152 2<|List.map aa.w G)]⟩
def oD(m:Nat)(G:List aa)(p1:Tree)(J:List aa):Prop:=z8 [] f139 (z6 (.sl 1) ⟨2,[(1,.row 152 2<|List.map aa.w J)]⟩) (xK<|xN<|xC<|xM<|aj f139) [.blk 0,.seq<|xH<|aj f139] 365 [(0,.sl 0),(3,.box (ao p1) 0),(5,qi (p1.kids.length:Int))] ⟨1,[(0,.row 152 2<|List.map aa.w G)]⟩
def jL(m:Nat)(G:List aa)(p1:Tree)(J:List aa):Prop:=z8 [] f139 (z6 (.sl 1) ⟨2,[(1,.row 152 2<|List.map aa.w J)]⟩) (xN<|xG<|xF<|aj f139) [.blk 0,.seq<|xH<|aj f139] 365 [(0,.sl 0),(3,.box (ao p1) 0),(5,qi (p1.kids.length:Int)),(11,qi p1.kind)] ⟨1,[(0,.row 152 2<|List.map aa.w G)]⟩
def ke(m:Nat)(G:List aa)(p1:Tree)(J:List aa):Prop:=z8 [] f139 (z6 (.sl 1) ⟨2,[(1,.row 152 2<|List.map aa.w J)]⟩) (xN<|xG<|xM<|aj f139) [.blk 0,.seq<|xH<|aj f139] 365 [(0,.sl 0),(3,.box (ao p1) 0),(5,qi (p1.kids.length:Int)),(11,qi p1.kind)] ⟨1,[(0,.row 152 2<|List.map aa.w G)]⟩
def ox(m:Nat)(G:List aa)(p1:Tree)(J:List aa):Prop:=z8 [] f139 (z6 (.sl 1) ⟨2,[(1,.row 152 2<|List.map aa.w J)]⟩) (xK<|xN<|xG<|xM<|aj f139) [.blk 0,.seq<|xH<|aj f139] 365 [(0,.sl 0),(3,.box (ao p1) 0),(5,qi (p1.kids.length:Int))] ⟨1,[(0,.row 152 2<|List.map aa.w G)]⟩
def jS(m:Nat)(G:List aa)(p1:Tree)(J:List aa):Prop:=z8 [] f139 (z6 (.sl 1) ⟨2,[(1,.row 152 2<|List.map aa.w J)]⟩) (xN<|xG<|xC<|xF<|aj f139) [.blk 0,.seq<|xH<|aj f139] 365 [(0,.sl 0),(3,.box (ao p1) 0),(11,qi p1.kind)] ⟨1,[(0,.row 152 2<|List.map aa.w G)]⟩
def oE(m:Nat)(G:List aa)(p1:Tree)(J:List aa):Prop:=z8 [] f139 (z6 (.sl 1) ⟨2,[(1,.row 152 2<|List.map aa.w J)]⟩) (xK<|xN<|xG<|xC<|xF<|aj f139) [.blk 0,.seq<|xH<|aj f139] 365 [(0,.sl 0),(3,.box (ao p1) 0)] ⟨1,[(0,.row 152 2<|List.map aa.w G)]⟩
def jP(m:Nat)(G:List aa)(p1:Tree)(J:List aa):Prop:=z8 [] f139 (z6 (.sl 1) ⟨2,[(1,.row 152 2<|List.map aa.w J)]⟩) (xN<|xG<|xC<|xM<|aj f139) [.blk 0,.seq<|xH<|aj f139] 365 [(0,.sl 0),(3,.box (ao p1) 0),(11,qi p1.kind)] ⟨1,[(0,.row 152 2<|List.map aa.w G)]⟩
def om(m:Nat)(G:List aa)(p1:Tree)(J:List aa):Prop:=z8 [] f139 (z6 (.sl 1) ⟨2,[(1,.row 152 2<|List.map aa.w J)]⟩) (xK<|xN<|xG<|xC<|xM<|aj f139) [.blk 0,.seq<|xH<|aj f139] 365 [(0,.sl 0),(3,.box (ao p1) 0)] ⟨1,[(0,.row 152 2<|List.map aa.w G)]⟩
def kg(m:Nat)(G:List aa)(p1:Tree)(J:List aa):Prop:=z8 [] f139 (z6 (.sl 1) ⟨2,[(1,.row 152 2<|List.map aa.w J)]⟩) (xN<|xN<|xF<|aj f139) [.blk 0,.seq<|xH<|aj f139] 365 [(0,.sl 0),(3,.box (ao p1) 0),(11,qi p1.kind)] ⟨1,[(0,.row 152 2<|List.map aa.w G)]⟩
def oG(m:Nat)(G:List aa)(p1:Tree)(J:List aa):Prop:=z8 [] f139 (z6 (.sl 1) ⟨2,[(1,.row 152 2<|List.map aa.w J)]⟩) (xK<|xN<|xN<|xF<|aj f139) [.blk 0,.seq<|xH<|aj f139] 365 [(0,.sl 0),(3,.box (ao p1) 0)] ⟨1,[(0,.row 152 2<|List.map aa.w G)]⟩
def jN(m:Nat)(G:List aa)(p1:Tree)(J:List aa):Prop:=z8 [] f139 (z6 (.sl 1) ⟨2,[(1,.row 152 2<|List.map aa.w J)]⟩) (xN<|xN<|xM<|aj f139) [.blk 0,.seq<|xH<|aj f139] 365 [(0,.sl 0),(3,.box (ao p1) 0),(11,qi p1.kind)] ⟨1,[(0,.row 152 2<|List.map aa.w G)]⟩
def oc(m:Nat)(G:List aa)(p1:Tree)(J:List aa):Prop:=z8 [] f139 (z6 (.sl 1) ⟨2,[(1,.row 152 2<|List.map aa.w J)]⟩) (xK<|xN<|xN<|xM<|aj f139) [.blk 0,.seq<|xH<|aj f139] 365 [(0,.sl 0),(3,.box (ao p1) 0)] ⟨1,[(0,.row 152 2<|List.map aa.w G)]⟩
theorem pL(m:Nat)(J:List aa)(p1:Tree)(O:List aa)(h:y8 p1.kind 1 (pW m J p1 O)<|kS m J p1 O):ax J p1 O:=by
 refine qA 365 [] func139 λK G=>?_;refine gR 3 rfl<|gFP 1 rfl rfl rfl rfl<|gR 8 rfl<|gV 9 (qi (p1.kids.length:Int)) rfl (aP<|aJ _) rfl<|gLB 8 rfl (aJ _) λa=>gR 17 rfl<|qBeZ 12 13 rfl rfl rfl rfl h ?_ ?_<;>intro h;exact gR 1 I<|qJ G (h K G) [0];exact gR 1 I<|qJ G (h K G) [0]
theorem vy(m:Nat)(p0:List aa)(p1:Tree)(r0:List aa)(h:∃a,av p1 0 a∧∃b,av p1 1 b∧(p0++[(aa.mk a [109,111,100,117,108,101]),(aa.mk b p1.text)]).length<=1000000000∧eR m p1 (p0++[(aa.mk a [109,111,100,117,108,101]),(aa.mk b p1.text)]) 0 r0):pW (m+1) p0 p1 r0:=by
 intro K hK;refine gR 1 I<|qDs [] 12 12<|qDr [(0,2),(1,2),(4,2),(6,2),(7,2)] I I ?_;obtain⟨a,c,h⟩:=h;refine bg 2 c (by kernel_rfl) I (by kernel_rfl) I I .rfl I I ?_;refine qDr [(3,2)] I I ?_;obtain⟨b,d,h⟩:=h;refine bg 5 d (by kernel_rfl) I (by kernel_rfl) I I .rfl I I ?_;refine qDr [(8,0),(9,0)] I I ?_;obtain⟨hb,h⟩:=h;refine bo 10 (.repl 0 (.row 152 2 (List.map aa.w (p0++[(aa.mk a [109,111,100,117,108,101]),(aa.mk b p1.text)])))) I (by kernel_rfl) (bI ai I I I I I (aaw (f:=aa.w) (l₁:=p0) (l₂:=[(aa.mk a [109,111,100,117,108,101]),(aa.mk b p1.text)])).symm (by rw[aQ];exact hb)) (okR I) I (by kernel_rfl) I I ?_;exact qDr [(11,0)] I I<|qDe<|gR 8 I<|go_loop m<|qW hK h [2]
theorem oz(m:Nat)(J:List aa)(p1:Tree)(O:List aa)(h:y8 p1.kind 2 (pI m J p1 O)<|kO m J p1 O):kS (m+1) J p1 O:=by
 intro K G;refine gR 6 rfl<|qBeZ 43 44 rfl rfl rfl rfl h ?_ ?_<;>intro h;exact gR 1 I<|qJ G (h K G) [0];exact gR 1 I<|qJ G (h K G) [0]
theorem oa(m:Nat)(p1:Tree)(b:List aa)(a:Nat)(G:List aa)(h:y5 (a<p1.kids.length) (∃e,p1.kids[a]?=some e∧∃d,ax b e d∧a+1<=9223372036854775807∧eR m p1 d (a+1) G)<|∃c,av p1 2 c∧(b++[(aa.mk c [])]).length<=1000000000∧(b++[(aa.mk c [])])=G):eR (m+1) p1 b a G:=by
 refine qj λK O J j=>?_;refine gR 8 rfl<|qXh 27 rfl rfl rfl h cg ch ?_ ?_<;>intro Z h;refine gR 10 I ?_;obtain⟨e,f,h⟩:=h;refine gY (aI (ay f) ai I I I I) I I<|gR 1 I ?_;obtain⟨d,g,h⟩:=h;refine qC g [0] ?_;refine gHR 2 (List.map aa.w d) I (vJ _ d) I<|gR 6 I ?_;obtain⟨hb,h⟩:=h;exact gR 1 I<|gV 29 (qi ((a+1:Nat):Int)) I (am (by omega)<|by omega) I<|gR 2 I<|go_xloop<|qW J h [2];refine gR 3 I<|go_xloopE<|gR 6 I ?_;obtain⟨c,i,h⟩:=h;refine qC0 i I<|gR 2 I ?_;obtain⟨hb,h⟩:=h;refine gDo (.repl 0<|.row 152 2<|List.map aa.w<|b++[(aa.mk c [])]) (bI ai I I I I I (apM aa.w b<|aa.mk c []) (by rw[aQ];exact hb)) (okR I) I I I<|gR 6 I ?_;subst h;exact gE J [] [(4,.sl 1)] [1000,2] [.tmp 4]
theorem vp(m:Nat)(G:List aa)(p1:Tree)(J:List aa)(h:∃e,av p1 0 e∧∃g,av p1 1 g∧∃i,av p1 2 i∧(G++[(aa.mk e [100,101,102]),(aa.mk g p1.text),(aa.mk i [40])]).length<=1000000000∧InI ((p1.kids.length:Int)-2)∧∃c,fw (G++[(aa.mk e [100,101,102]),(aa.mk g p1.text),(aa.mk i [40])]) p1 0 ((p1.kids.length:Int)-2) 6 c∧∃j,av p1 3 j∧∃k,av p1 4 k∧(c++[(aa.mk j [41]),(aa.mk k [58])]).length<=1000000000∧InI ((p1.kids.length:Int)-2)∧∃o,((p1.kids.length:Int)-2)=((o:Nat):Int)∧∃p,p1.kids[o]?=some p∧∃b,ax (c++[(aa.mk j [41]),(aa.mk k [58])]) p b∧∃a,av p1 5 a∧(b++[(aa.mk a [61])]).length<=1000000000∧InI ((p1.kids.length:Int)-1)∧∃l,((p1.kids.length:Int)-1)=((l:Nat):Int)∧∃n,p1.kids[l]?=some n∧∃d,ax (b++[(aa.mk a [61])]) n d∧d=J):pI (m+1) G p1 J:=by
 intro K O;refine gR 1 I<|qDs [] 15 15<|qDr [(0,2),(1,2),(4,2),(6,2),(7,2),(9,2)] I I ?_;obtain⟨e,t,h⟩:=h;refine bg 2 t (by kernel_rfl) I (by kernel_rfl) I I .rfl I I ?_;refine qDr [(3,2)] I I ?_;obtain⟨g,v,h⟩:=h;refine bg 5 v (by kernel_rfl) I (by kernel_rfl) I I .rfl I I ?_;refine qDr [(8,2)] I I ?_;obtain⟨i,x,h⟩:=h;refine bg 10 x (by kernel_rfl) I (by kernel_rfl) I I .rfl I I ?_;refine qDr [(11,0),(12,0)] I I ?_;obtain⟨hb,h⟩:=h;refine bo 13 (.repl 0 (.row 152 2 (List.map aa.w (G++[(aa.mk e [100,101,102]),(aa.mk g p1.text),(aa.mk i [40])])))) I (by kernel_rfl) (bI ai I I I I I (aaw (f:=aa.w) (l₁:=G) (l₂:=[(aa.mk e [100,101,102]),(aa.mk g p1.text),(aa.mk i [40])])).symm (by rw[aQ];exact hb)) (okR I) I (by kernel_rfl) I I ?_;refine qDr [(14,0)] I I<|qDe<|gR 6 I ?_;obtain⟨hb,h⟩:=h;refine gR 1 I<|gV 62 (qi ((p1.kids.length:Int)-2)) I (am hb I) I ?_;obtain⟨c,y,h⟩:=h;refine qC y [2] ?_;refine gHR 4 (List.map aa.w c) I (vJ _ c) I<|gR 4 I<|qDs [] 10 10<|qDr [(0,2),(1,2),(4,2)] I I ?_;obtain⟨j,z,h⟩:=h;refine bg 2 z (by kernel_rfl) I (by kernel_rfl) I I .rfl I I ?_;refine qDr [(3,2)] I I ?_;obtain⟨k,α,h⟩:=h;refine bg 5 α (by kernel_rfl) I (by kernel_rfl) I I .rfl I I ?_;refine qDr [(6,0),(7,0)] I I ?_;obtain⟨hb,h⟩:=h;refine bo 8 (.repl 4 (.row 152 2 (List.map aa.w (c++[(aa.mk j [41]),(aa.mk k [58])])))) I (by kernel_rfl) (bI ai I I I I I (aaw (f:=aa.w) (l₁:=c) (l₂:=[(aa.mk j [41]),(aa.mk k [58])])).symm (by rw[aQ];exact hb)) (okR I) I (by kernel_rfl) I I ?_;refine qDr [(9,0)] I I<|qDe<|gR 2 I<|qDs [] 14 14<|qDr (qR 0 4 2 []) I I ?_;obtain⟨hb,h⟩:=h;refine qDr [(4,2)] I I<|gV 77 (qi ((p1.kids.length:Int)-2)) I (am hb I) I ?_;obtain⟨o,β,h⟩:=h;refine gV 77 (qi ((o:Nat):Int)) I (bd β) I ?_;obtain⟨p,r,h⟩:=h;refine gYd 5 I (by kernel_rfl) (aI (ay r) ai I I I I) I I<|qDr [(6,2),(8,2)] I I ?_;obtain⟨b,γ,h⟩:=h;refine qDC 7 γ [6] I ?_;refine gHR 8 (List.map aa.w b) I (vJ _ b) I ?_;obtain⟨a,δ,h⟩:=h;refine bg 9 δ (by kernel_rfl) I (by kernel_rfl) I I .rfl I I ?_;refine qDr [(10,0),(11,0)] I I ?_;obtain⟨hb,h⟩:=h;refine bo 12 (.repl 8 (.row 152 2 (List.map aa.w (b++[(aa.mk a [61])])))) I (by kernel_rfl) (bI ai I I I I I (apM aa.w b (aa.mk a [61])) (by rw[aQ];exact hb)) (okR I) I (by kernel_rfl) I I ?_;refine qDr [(13,0)] I I<|qDe<|gR 1 I<|go_sub (F':=(mkF 365 0 [(0,.sl 0),(3,.box (ao p1) 0),(5,qi (p1.kids.length:Int))])) (H':=⟨1,[(0,.row 152 2 (List.map aa.w (b++[(aa.mk a [61])])))]⟩) [10] [] I O pq3 ⟨⟨_,I,I,I,(vJ _ (b++[(aa.mk a [61])])).symm⟩,trivial⟩ I<|gR 6 I ?_;obtain⟨hb,h⟩:=h;refine gR 1 I<|gV 90 (qi ((p1.kids.length:Int)-1)) I (am hb I) I ?_;obtain⟨l,s,h⟩:=h;refine gV 90 (qi ((l:Nat):Int)) I (bd s) I ?_;obtain⟨n,q,h⟩:=h;refine gY (aI (ay q) ai I I I I) I I<|gR 1 I ?_;obtain⟨d,ε,h⟩:=h;refine qC ε [0] ?_;refine gHR 2 (List.map aa.w d) I (vJ _ d) I<|gR 6 I ?_;subst h;exact gE O [] [(4,.sl 1)] [1000,2] [.tmp 4]
theorem nW(m:Nat)(J:List aa)(p1:Tree)(O:List aa)(h:y8 p1.kind 3 (pH m J p1 O)<|kZ m J p1 O):kO (m+1) J p1 O:=by
 intro K G;refine gR 6 rfl<|qBeZ 94 95 rfl rfl rfl rfl h ?_ ?_<;>intro h;exact gR 1 I<|qJ G (h K G) [0];exact gR 1 I<|qJ G (h K G) [0]
theorem vt(m:Nat)(G:List aa)(p1:Tree)(J:List aa)(h:∃a,av p1 0 a∧∃b,av p1 1 b∧∃c,av p1 2 c∧(G++[(aa.mk a [116,121,112,101]),(aa.mk b p1.text),(aa.mk c [61])]).length<=1000000000∧∃e,p1.kids[0]?=some e∧∃d,ax (G++[(aa.mk a [116,121,112,101]),(aa.mk b p1.text),(aa.mk c [61])]) e d∧d=J):pH (m+1) G p1 J:=by
 intro K O;refine gR 1 I<|qDs [] 15 15<|qDr [(0,2),(1,2),(4,2),(6,2),(7,2),(9,2)] I I ?_;obtain⟨a,i,h⟩:=h;refine bg 2 i (by kernel_rfl) I (by kernel_rfl) I I .rfl I I ?_;refine qDr [(3,2)] I I ?_;obtain⟨b,j,h⟩:=h;refine bg 5 j (by kernel_rfl) I (by kernel_rfl) I I .rfl I I ?_;refine qDr [(8,2)] I I ?_;obtain⟨c,k,h⟩:=h;refine bg 10 k (by kernel_rfl) I (by kernel_rfl) I I .rfl I I ?_;refine qDr [(11,0),(12,0)] I I ?_;obtain⟨hb,h⟩:=h;refine bo 13 (.repl 0 (.row 152 2 (List.map aa.w (G++[(aa.mk a [116,121,112,101]),(aa.mk b p1.text),(aa.mk c [61])])))) I (by kernel_rfl) (bI ai I I I I I (aaw (f:=aa.w) (l₁:=G) (l₂:=[(aa.mk a [116,121,112,101]),(aa.mk b p1.text),(aa.mk c [61])])).symm (by rw[aQ];exact hb)) (okR I) I (by kernel_rfl) I I ?_;refine qDr [(14,0)] I I<|qDe<|gR 6 I ?_;obtain⟨e,g,h⟩:=h;refine gY (aI (ay g) ai I I I I) I I<|gR 1 I ?_;obtain⟨d,l,h⟩:=h;refine qC l [2] ?_;refine gHR 4 (List.map aa.w d) I (vJ _ d) I<|gR 6 I ?_;subst h;exact gE O [] [(4,.sl 1)] [1000,4] [.tmp 4]
theorem od(m:Nat)(J:List aa)(p1:Tree)(O:List aa)(h:y8 p1.kind 4 (pu m J p1 O)<|kQ m J p1 O):kZ (m+1) J p1 O:=by
 intro K G;refine gR 6 rfl<|qBeZ 116 117 rfl rfl rfl rfl h ?_ ?_<;>intro h;exact gR 1 I<|qJ G (h K G) [0];exact gR 1 I<|qJ G (h K G) [0]
theorem vl(m:Nat)(G:List aa)(p1:Tree)(J:List aa)(h:∃a,av p1 0 a∧∃b,av p1 1 b∧(G++[(aa.mk a p1.text),(aa.mk b [58])]).length<=1000000000∧∃d,p1.kids[0]?=some d∧∃c,ax (G++[(aa.mk a p1.text),(aa.mk b [58])]) d c∧c=J):pu (m+1) G p1 J:=by
 intro K O;refine gR 1 I<|qDs [] 12 12<|qDr [(0,2),(1,2),(3,2),(4,2),(6,2)] I I ?_;obtain⟨a,g,h⟩:=h;refine bg 2 g (by kernel_rfl) I (by kernel_rfl) I I .rfl I I ?_;refine qDr [(5,2)] I I ?_;obtain⟨b,i,h⟩:=h;refine bg 7 i (by kernel_rfl) I (by kernel_rfl) I I .rfl I I ?_;refine qDr [(8,0),(9,0)] I I ?_;obtain⟨hb,h⟩:=h;refine bo 10 (.repl 0 (.row 152 2 (List.map aa.w (G++[(aa.mk a p1.text),(aa.mk b [58])])))) I (by kernel_rfl) (bI ai I I I I I (aaw (f:=aa.w) (l₁:=G) (l₂:=[(aa.mk a p1.text),(aa.mk b [58])])).symm (by rw[aQ];exact hb)) (okR I) I (by kernel_rfl) I I ?_;refine qDr [(11,0)] I I<|qDe<|gR 6 I ?_;obtain⟨d,e,h⟩:=h;refine gY (aI (ay e) ai I I I I) I I<|gR 1 I ?_;obtain⟨c,j,h⟩:=h;refine qC j [2] ?_;refine gHR 4 (List.map aa.w c) I (vJ _ c) I<|gR 6 I ?_;subst h;exact gE O [] [(4,.sl 1)] [1000,4] [.tmp 4]
theorem oq(m:Nat)(G:List aa)(p1:Tree)(J:List aa)(h:y8 p1.kind 5 (∃a,av p1 0 a∧(G++[(aa.mk a [73,110,116])]).length<=1000000000∧(G++[(aa.mk a [73,110,116])])=J)<|kE m G p1 J):kQ (m+1) G p1 J:=by
 intro K O;refine gR 6 rfl<|qBeZ 135 136 rfl rfl rfl rfl h ?_ ?_<;>intro h;refine gR 5 I ?_;obtain⟨a,b,h⟩:=h;refine qC0 b I<|gR 2 I ?_;obtain⟨hb,h⟩:=h;refine gDo (.repl 0 (.row 152 2 (List.map aa.w (G++[(aa.mk a [73,110,116])])))) (bI ai I I I I I (apM aa.w G (aa.mk a [73,110,116])) (by rw[aQ];exact hb)) (okR I) I I I<|gR 6 I ?_;subst h;exact gE O [] [(4,.sl 1)] [1000,2] [.tmp 4];exact gR 1 I<|qJ O (h K O) [0]
theorem oh(m:Nat)(G:List aa)(p1:Tree)(J:List aa)(h:y8 p1.kind 6 (∃a,av p1 0 a∧(G++[(aa.mk a [84,101,120,116])]).length<=1000000000∧(G++[(aa.mk a [84,101,120,116])])=J)<|kf m G p1 J):kE (m+1) G p1 J:=by
 intro K O;refine gR 6 rfl<|qBeZ 143 144 rfl rfl rfl rfl h ?_ ?_<;>intro h;refine gR 5 I ?_;obtain⟨a,b,h⟩:=h;refine qC0 b I<|gR 2 I ?_;obtain⟨hb,h⟩:=h;refine gDo (.repl 0 (.row 152 2 (List.map aa.w (G++[(aa.mk a [84,101,120,116])])))) (bI ai I I I I I (apM aa.w G (aa.mk a [84,101,120,116])) (by rw[aQ];exact hb)) (okR I) I I I<|gR 6 I ?_;subst h;exact gE O [] [(4,.sl 1)] [1000,2] [.tmp 4];exact gR 1 I<|qJ O (h K O) [0]
theorem nq(m:Nat)(G:List aa)(p1:Tree)(J:List aa)(h:y8 p1.kind 7 (∃a,av p1 0 a∧(G++[(aa.mk a [66,111,111,108])]).length<=1000000000∧(G++[(aa.mk a [66,111,111,108])])=J)<|kc m G p1 J):kf (m+1) G p1 J:=by
 intro K O;refine gR 6 rfl<|qBeZ 151 152 rfl rfl rfl rfl h ?_ ?_<;>intro h;refine gR 5 I ?_;obtain⟨a,b,h⟩:=h;refine qC0 b I<|gR 2 I ?_;obtain⟨hb,h⟩:=h;refine gDo (.repl 0 (.row 152 2 (List.map aa.w (G++[(aa.mk a [66,111,111,108])])))) (bI ai I I I I I (apM aa.w G (aa.mk a [66,111,111,108])) (by rw[aQ];exact hb)) (okR I) I I I<|gR 6 I ?_;subst h;exact gE O [] [(4,.sl 1)] [1000,2] [.tmp 4];exact gR 1 I<|qJ O (h K O) [0]
theorem nC(m:Nat)(G:List aa)(p1:Tree)(J:List aa)(h:y8 p1.kind 13 (∃a,av p1 0 a∧(G++[(aa.mk a [116,114,117,101])]).length<=1000000000∧(G++[(aa.mk a [116,114,117,101])])=J)<|jZ m G p1 J):kc (m+1) G p1 J:=by
 intro K O;refine gR 6 rfl<|qBeZ 159 160 rfl rfl rfl rfl h ?_ ?_<;>intro h;refine gR 5 I ?_;obtain⟨a,b,h⟩:=h;refine qC0 b I<|gR 2 I ?_;obtain⟨hb,h⟩:=h;refine gDo (.repl 0 (.row 152 2 (List.map aa.w (G++[(aa.mk a [116,114,117,101])])))) (bI ai I I I I I (apM aa.w G (aa.mk a [116,114,117,101])) (by rw[aQ];exact hb)) (okR I) I I I<|gR 6 I ?_;subst h;exact gE O [] [(4,.sl 1)] [1000,2] [.tmp 4];exact gR 1 I<|qJ O (h K O) [0]
theorem nK(m:Nat)(G:List aa)(p1:Tree)(J:List aa)(h:y8 p1.kind 14 (∃a,av p1 0 a∧(G++[(aa.mk a [102,97,108,115,101])]).length<=1000000000∧(G++[(aa.mk a [102,97,108,115,101])])=J)<|jU m G p1 J):jZ (m+1) G p1 J:=by
 intro K O;refine gR 6 rfl<|qBeZ 167 168 rfl rfl rfl rfl h ?_ ?_<;>intro h;refine gR 5 I ?_;obtain⟨a,b,h⟩:=h;refine qC0 b I<|gR 2 I ?_;obtain⟨hb,h⟩:=h;refine gDo (.repl 0 (.row 152 2 (List.map aa.w (G++[(aa.mk a [102,97,108,115,101])])))) (bI ai I I I I I (apM aa.w G (aa.mk a [102,97,108,115,101])) (by rw[aQ];exact hb)) (okR I) I I I<|gR 6 I ?_;subst h;exact gE O [] [(4,.sl 1)] [1000,2] [.tmp 4];exact gR 1 I<|qJ O (h K O) [0]
theorem nG(m:Nat)(G:List aa)(p1:Tree)(J:List aa)(h:y8 p1.kind 15 (∃a,av p1 0 a∧(G++[(aa.mk a [63])]).length<=1000000000∧(G++[(aa.mk a [63])])=J)<|kh m G p1 J):jU (m+1) G p1 J:=by
 intro K O;refine gR 6 rfl<|qBeZ 175 176 rfl rfl rfl rfl h ?_ ?_<;>intro h;refine gR 5 I ?_;obtain⟨a,b,h⟩:=h;refine qC0 b I<|gR 2 I ?_;obtain⟨hb,h⟩:=h;refine gDo (.repl 0 (.row 152 2 (List.map aa.w (G++[(aa.mk a [63])])))) (bI ai I I I I I (apM aa.w G (aa.mk a [63])) (by rw[aQ];exact hb)) (okR I) I I I<|gR 6 I ?_;subst h;exact gE O [] [(4,.sl 1)] [1000,2] [.tmp 4];exact gR 1 I<|qJ O (h K O) [0]
theorem nF(m:Nat)(J:List aa)(p1:Tree)(O:List aa)(h:y8 p1.kind 8 (nU m J p1 O)<|jM m J p1 O):kh (m+1) J p1 O:=by
 intro K G;refine gR 6 rfl<|qBeZ 183 184 rfl rfl rfl rfl h ?_ ?_<;>intro h;exact gR 1 I<|qJ G (h K G) [0];exact gR 1 I<|qJ G (h K G) [0]
theorem um(m:Nat)(G:List aa)(p1:Tree)(J:List aa)(h:∃b,av p1 0 b∧(G++[(aa.mk b [91])]).length<=1000000000∧∃d,p1.kids[0]?=some d∧∃a,ax (G++[(aa.mk b [91])]) d a∧∃c,av p1 1 c∧(a++[(aa.mk c [93])]).length<=1000000000∧(a++[(aa.mk c [93])])=J):nU (m+1) G p1 J:=by
 intro K O;refine gR 4 I ?_;obtain⟨b,f,h⟩:=h;refine qC0 f I<|gR 2 I ?_;obtain⟨hb,h⟩:=h;refine gDo (.repl 0 (.row 152 2 (List.map aa.w (G++[(aa.mk b [91])])))) (bI ai I I I I I (apM aa.w G (aa.mk b [91])) (by rw[aQ];exact hb)) (okR I) I I I<|gR 4 I<|qDs [] 12 12<|qDr (qR 0 3 2 []) I I ?_;obtain⟨d,e,h⟩:=h;refine gYd 3 I (by kernel_rfl) (aI (ay e) ai I I I I) I I<|qDr [(4,2),(6,2)] I I ?_;obtain⟨a,g,h⟩:=h;refine qDC 5 g [2] I ?_;refine gHR 4 (List.map aa.w a) I (vJ _ a) I ?_;obtain⟨c,i,h⟩:=h;refine bg 7 i (by kernel_rfl) I (by kernel_rfl) I I .rfl I I ?_;refine qDr [(8,0),(9,0)] I I ?_;obtain⟨hb,h⟩:=h;refine bo 10 (.repl 4 (.row 152 2 (List.map aa.w (a++[(aa.mk c [93])])))) I (by kernel_rfl) (bI ai I I I I I (apM aa.w a (aa.mk c [93])) (by rw[aQ];exact hb)) (okR I) I (by kernel_rfl) I I ?_;refine qDr [(11,0)] I I<|qDe<|gR 4 I ?_;subst h;exact gE O [] [(4,.sl 1)] [1000,6] [.tmp 4]
theorem no(m:Nat)(J:List aa)(p1:Tree)(O:List aa)(h:y8 p1.kind 16 (oD m J p1 O)<|jL m J p1 O):jM (m+1) J p1 O:=by
 intro K G;refine gR 6 rfl<|qBeZ 202 203 rfl rfl rfl rfl h ?_ ?_<;>intro h;exact gR 1 I<|qJ G (h K G) [0];exact gR 1 I<|qJ G (h K G) [0]
theorem uu(m:Nat)(G:List aa)(p1:Tree)(J:List aa)(h:∃b,av p1 0 b∧∃c,av p1 1 c∧(G++[(aa.mk b p1.text),(aa.mk c [40])]).length<=1000000000∧∃a,fw (G++[(aa.mk b p1.text),(aa.mk c [40])]) p1 0 (p1.kids.length:Int) 3 a∧∃d,av p1 2 d∧(a++[(aa.mk d [41])]).length<=1000000000∧(a++[(aa.mk d [41])])=J):oD (m+1) G p1 J:=by
 intro K O;refine gR 1 I<|qDs [] 12 12<|qDr [(0,2),(1,2),(3,2),(4,2),(6,2)] I I ?_;obtain⟨b,e,h⟩:=h;refine bg 2 e (by kernel_rfl) I (by kernel_rfl) I I .rfl I I ?_;refine qDr [(5,2)] I I ?_;obtain⟨c,g,h⟩:=h;refine bg 7 g (by kernel_rfl) I (by kernel_rfl) I I .rfl I I ?_;refine qDr [(8,0),(9,0)] I I ?_;obtain⟨hb,h⟩:=h;refine bo 10 (.repl 0 (.row 152 2 (List.map aa.w (G++[(aa.mk b p1.text),(aa.mk c [40])])))) I (by kernel_rfl) (bI ai I I I I I (aaw (f:=aa.w) (l₁:=G) (l₂:=[(aa.mk b p1.text),(aa.mk c [40])])).symm (by rw[aQ];exact hb)) (okR I) I (by kernel_rfl) I I ?_;refine qDr [(11,0)] I I<|qDe<|gR 2 I<|qDs [] 10 10<|qDr (qR 0 3 2 [(4,2)]) I I ?_;obtain⟨a,i,h⟩:=h;refine qDC 3 i [2] I ?_;refine gHR 4 (List.map aa.w a) I (vJ _ a) I ?_;obtain⟨d,j,h⟩:=h;refine bg 5 j (by kernel_rfl) I (by kernel_rfl) I I .rfl I I ?_;refine qDr [(6,0),(7,0)] I I ?_;obtain⟨hb,h⟩:=h;refine bo 8 (.repl 4 (.row 152 2 (List.map aa.w (a++[(aa.mk d [41])])))) I (by kernel_rfl) (bI ai I I I I I (apM aa.w a (aa.mk d [41])) (by rw[aQ];exact hb)) (okR I) I (by kernel_rfl) I I ?_;refine qDr [(9,0)] I I<|qDe<|gR 4 I ?_;subst h;exact gE O [] [(4,.sl 1)] [1000,6] [.tmp 4]
theorem nr(m:Nat)(G:List aa)(p1:Tree)(J:List aa)(h:y8 p1.kind 17 (∃b,p1.kids[0]?=some b∧∃a,ax G b a∧a=J)<|ke m G p1 J):jL (m+1) G p1 J:=by
 intro K O;refine gR 6 rfl<|qBeZ 224 225 rfl rfl rfl rfl h ?_ ?_<;>intro h;refine gR 6 I ?_;obtain⟨b,c,h⟩:=h;refine gY (aI (ay c) ai I I I I) I I<|gR 1 I ?_;obtain⟨a,d,h⟩:=h;refine qC d [0] ?_;refine gHR 2 (List.map aa.w a) I (vJ _ a) I<|gR 6 I ?_;subst h;exact gE O [] [(4,.sl 1)] [1000,2] [.tmp 4];exact gR 1 I<|qJ O (h K O) [0]
theorem nz(m:Nat)(J:List aa)(p1:Tree)(O:List aa)(h:y8 p1.kind 18 (ox m J p1 O)<|jS m J p1 O):ke (m+1) J p1 O:=by
 intro K G;refine gR 6 rfl<|qBeZ 232 233 rfl rfl rfl rfl h ?_ ?_<;>intro h;exact gR 1 I<|qJ G (h K G) [0];exact gR 1 I<|qJ G (h K G) [0]
theorem uo(m:Nat)(G:List aa)(p1:Tree)(J:List aa)(h:∃b,av p1 0 b∧(G++[(aa.mk b [91])]).length<=1000000000∧∃a,fw (G++[(aa.mk b [91])]) p1 0 (p1.kids.length:Int) 2 a∧∃c,av p1 1 c∧(a++[(aa.mk c [93])]).length<=1000000000∧(a++[(aa.mk c [93])])=J):ox (m+1) G p1 J:=by
 intro K O;refine gR 4 I ?_;obtain⟨b,d,h⟩:=h;refine qC0 d I<|gR 2 I ?_;obtain⟨hb,h⟩:=h;refine gDo (.repl 0 (.row 152 2 (List.map aa.w (G++[(aa.mk b [91])])))) (bI ai I I I I I (apM aa.w G (aa.mk b [91])) (by rw[aQ];exact hb)) (okR I) I I I<|gR 4 I<|qDs [] 10 10<|qDr (qR 0 3 2 [(4,2)]) I I ?_;obtain⟨a,e,h⟩:=h;refine qDC 3 e [2] I ?_;refine gHR 4 (List.map aa.w a) I (vJ _ a) I ?_;obtain⟨c,f,h⟩:=h;refine bg 5 f (by kernel_rfl) I (by kernel_rfl) I I .rfl I I ?_;refine qDr [(6,0),(7,0)] I I ?_;obtain⟨hb,h⟩:=h;refine bo 8 (.repl 4 (.row 152 2 (List.map aa.w (a++[(aa.mk c [93])])))) I (by kernel_rfl) (bI ai I I I I I (apM aa.w a (aa.mk c [93])) (by rw[aQ];exact hb)) (okR I) I (by kernel_rfl) I I ?_;refine qDr [(9,0)] I I<|qDe<|gR 4 I ?_;subst h;exact gE O [] [(4,.sl 1)] [1000,6] [.tmp 4]
theorem nH(m:Nat)(J:List aa)(p1:Tree)(O:List aa)(h:y8 p1.kind 19 (oE m J p1 O)<|jP m J p1 O):jS (m+1) J p1 O:=by
 intro K G;refine gR 6 rfl<|qBeZ 249 250 rfl rfl rfl rfl h ?_ ?_<;>intro h;exact gR 1 I<|qJ G (h K G) [0];exact gR 1 I<|qJ G (h K G) [0]
theorem uk(m:Nat)(G:List aa)(p1:Tree)(J:List aa)(h:∃g,p1.kids[0]?=some g∧∃c,av p1 0 c∧(G++[(aa.mk c [105,102])]).length<=1000000000∧∃a,ax (G++[(aa.mk c [105,102])]) g a∧∃i,p1.kids[1]?=some i∧∃d,av p1 1 d∧(a++[(aa.mk d [116,104,101,110])]).length<=1000000000∧∃b,ax (a++[(aa.mk d [116,104,101,110])]) i b∧∃j,p1.kids[2]?=some j∧∃e,av p1 2 e∧(b++[(aa.mk e [101,108,115,101])]).length<=1000000000∧∃f,ax (b++[(aa.mk e [101,108,115,101])]) j f∧f=J):oE (m+1) G p1 J:=by
 intro K O;refine gR 1 I<|qDs [] 12 12<|qDr [(0,2),(1,2),(6,2),(7,2)] I I ?_;obtain⟨g,k,h⟩:=h;refine gYd 8 I (by kernel_rfl) (aI (ay k) ai I I I I) I I<|qDr [(9,2)] I I ?_;obtain⟨c,o,h⟩:=h;refine bg 2 o (by kernel_rfl) I (by kernel_rfl) I I .rfl I I ?_;refine qDr [(3,0),(4,0)] I I ?_;obtain⟨hb,h⟩:=h;refine bo 5 (.repl 0 (.row 152 2 (List.map aa.w (G++[(aa.mk c [105,102])])))) I (by kernel_rfl) (bI ai I I I I I (apM aa.w G (aa.mk c [105,102])) (by rw[aQ];exact hb)) (okR I) I (by kernel_rfl) I I ?_;obtain⟨a,p,h⟩:=h;refine qDC 10 p [2] I ?_;refine gHR 4 (List.map aa.w a) I (vJ _ a) I<|qDr [(11,0)] I I<|qDe<|gR 2 I<|qDs [] 12 12<|qDr [(0,2),(1,2),(6,2),(7,2)] I I ?_;obtain⟨i,l,h⟩:=h;refine gYd 8 I (by kernel_rfl) (aI (ay l) ai I I I I) I I<|qDr [(9,2)] I I ?_;obtain⟨d,q,h⟩:=h;refine bg 2 q (by kernel_rfl) I (by kernel_rfl) I I .rfl I I ?_;refine qDr [(3,0),(4,0)] I I ?_;obtain⟨hb,h⟩:=h;refine bo 5 (.repl 4 (.row 152 2 (List.map aa.w (a++[(aa.mk d [116,104,101,110])])))) I (by kernel_rfl) (bI ai I I I I I (apM aa.w a (aa.mk d [116,104,101,110])) (by rw[aQ];exact hb)) (okR I) I (by kernel_rfl) I I ?_;obtain⟨b,r,h⟩:=h;refine qDC 10 r [6] I ?_;refine gHR 8 (List.map aa.w b) I (vJ _ b) I<|qDr [(11,0)] I I<|qDe<|gR 2 I<|qDs [] 12 12<|qDr [(0,2),(1,2),(6,2),(7,2)] I I ?_;obtain⟨j,n,h⟩:=h;refine gYd 8 I (by kernel_rfl) (aI (ay n) ai I I I I) I I<|qDr [(9,2)] I I ?_;obtain⟨e,s,h⟩:=h;refine bg 2 s (by kernel_rfl) I (by kernel_rfl) I I .rfl I I ?_;refine qDr [(3,0),(4,0)] I I ?_;obtain⟨hb,h⟩:=h;refine bo 5 (.repl 8 (.row 152 2 (List.map aa.w (b++[(aa.mk e [101,108,115,101])])))) I (by kernel_rfl) (bI ai I I I I I (apM aa.w b (aa.mk e [101,108,115,101])) (by rw[aQ];exact hb)) (okR I) I (by kernel_rfl) I I ?_;obtain⟨f,t,h⟩:=h;refine qDC 10 t [10] I ?_;refine gHR 12 (List.map aa.w f) I (vJ _ f) I<|qDr [(11,0)] I I<|qDe<|gR 4 I ?_;subst h;exact gE O [] [(4,.sl 1)] [1000,12] [.tmp 4]
theorem nt(m:Nat)(J:List aa)(p1:Tree)(O:List aa)(h:y8 p1.kind 20 (om m J p1 O)<|kg m J p1 O):jP (m+1) J p1 O:=by
 intro K G;refine gR 6 rfl<|qBeZ 284 285 rfl rfl rfl rfl h ?_ ?_<;>intro h;exact gR 1 I<|qJ G (h K G) [0];exact gR 1 I<|qJ G (h K G) [0]
theorem uf(m:Nat)(G:List aa)(p1:Tree)(J:List aa)(h:∃b,av p1 0 b∧∃c,av p1 1 c∧∃d,av p1 2 d∧(G++[(aa.mk b [108,101,116]),(aa.mk c p1.text),(aa.mk d [61])]).length<=1000000000∧∃i,p1.kids[0]?=some i∧∃a,ax (G++[(aa.mk b [108,101,116]),(aa.mk c p1.text),(aa.mk d [61])]) i a∧∃e,av p1 3 e∧(a++[(aa.mk e [105,110])]).length<=1000000000∧∃j,p1.kids[1]?=some j∧∃g,ax (a++[(aa.mk e [105,110])]) j g∧g=J):om (m+1) G p1 J:=by
 intro K O;refine gR 1 I<|qDs [] 15 15<|qDr [(0,2),(1,2),(4,2),(6,2),(7,2),(9,2)] I I ?_;obtain⟨b,n,h⟩:=h;refine bg 2 n (by kernel_rfl) I (by kernel_rfl) I I .rfl I I ?_;refine qDr [(3,2)] I I ?_;obtain⟨c,o,h⟩:=h;refine bg 5 o (by kernel_rfl) I (by kernel_rfl) I I .rfl I I ?_;refine qDr [(8,2)] I I ?_;obtain⟨d,p,h⟩:=h;refine bg 10 p (by kernel_rfl) I (by kernel_rfl) I I .rfl I I ?_;refine qDr [(11,0),(12,0)] I I ?_;obtain⟨hb,h⟩:=h;refine bo 13 (.repl 0 (.row 152 2 (List.map aa.w (G++[(aa.mk b [108,101,116]),(aa.mk c p1.text),(aa.mk d [61])])))) I (by kernel_rfl) (bI ai I I I I I (aaw (f:=aa.w) (l₁:=G) (l₂:=[(aa.mk b [108,101,116]),(aa.mk c p1.text),(aa.mk d [61])])).symm (by rw[aQ];exact hb)) (okR I) I (by kernel_rfl) I I ?_;refine qDr [(14,0)] I I<|qDe<|gR 2 I<|qDs [] 12 12<|qDr (qR 0 3 2 []) I I ?_;obtain⟨i,k,h⟩:=h;refine gYd 3 I (by kernel_rfl) (aI (ay k) ai I I I I) I I<|qDr [(4,2),(6,2)] I I ?_;obtain⟨a,q,h⟩:=h;refine qDC 5 q [2] I ?_;refine gHR 4 (List.map aa.w a) I (vJ _ a) I ?_;obtain⟨e,r,h⟩:=h;refine bg 7 r (by kernel_rfl) I (by kernel_rfl) I I .rfl I I ?_;refine qDr [(8,0),(9,0)] I I ?_;obtain⟨hb,h⟩:=h;refine bo 10 (.repl 4 (.row 152 2 (List.map aa.w (a++[(aa.mk e [105,110])])))) I (by kernel_rfl) (bI ai I I I I I (apM aa.w a (aa.mk e [105,110])) (by rw[aQ];exact hb)) (okR I) I (by kernel_rfl) I I ?_;refine qDr [(11,0)] I I<|qDe<|gR 6 I ?_;obtain⟨j,l,h⟩:=h;refine gY (aI (ay l) ai I I I I) I I<|gR 1 I ?_;obtain⟨g,s,h⟩:=h;refine qC s [6] ?_;refine gHR 8 (List.map aa.w g) I (vJ _ g) I<|gR 6 I ?_;subst h;exact gE O [] [(4,.sl 1)] [1000,8] [.tmp 4]
theorem nw(m:Nat)(J:List aa)(p1:Tree)(O:List aa)(h:y8 p1.kind 21 (oG m J p1 O)<|jN m J p1 O):kg (m+1) J p1 O:=by
 intro K G;refine gR 6 rfl<|qBeZ 317 318 rfl rfl rfl rfl h ?_ ?_<;>intro h;exact gR 1 I<|qJ G (h K G) [0];exact gR 1 I<|qJ G (h K G) [0]
theorem uq(m:Nat)(G:List aa)(p1:Tree)(J:List aa)(h:∃d,p1.kids[0]?=some d∧∃a,ax G d a∧∃b,av p1 0 b∧(a++[(aa.mk b p1.text)]).length<=1000000000∧∃e,p1.kids[1]?=some e∧∃c,ax (a++[(aa.mk b p1.text)]) e c∧c=J):oG (m+1) G p1 J:=by
 intro K O;refine gR 1 I<|qDs [] 14 14<|qDr (qR 0 3 2 []) I I ?_;obtain⟨d,f,h⟩:=h;refine gYd 3 I (by kernel_rfl) (aI (ay f) ai I I I I) I I<|qDr [(4,2),(6,2),(8,2),(9,2)] I I ?_;obtain⟨a,i,h⟩:=h;refine qDC 5 i [0] I ?_;refine gHR 2 (List.map aa.w a) I (vJ _ a) I ?_;obtain⟨b,j,h⟩:=h;refine bg 7 j (by kernel_rfl) I (by kernel_rfl) I I .rfl I I ?_;refine qDr [(10,0),(11,0)] I I ?_;obtain⟨hb,h⟩:=h;refine bo 12 (.repl 2 (.row 152 2 (List.map aa.w (a++[(aa.mk b p1.text)])))) I (by kernel_rfl) (bI ai I I I I I (apM aa.w a (aa.mk b p1.text)) (by rw[aQ];exact hb)) (okR I) I (by kernel_rfl) I I ?_;refine qDr [(13,0)] I I<|qDe<|gR 6 I ?_;obtain⟨e,g,h⟩:=h;refine gY (aI (ay g) ai I I I I) I I<|gR 1 I ?_;obtain⟨c,k,h⟩:=h;refine qC k [4] ?_;refine gHR 6 (List.map aa.w c) I (vJ _ c) I<|gR 6 I ?_;subst h;exact gE O [] [(4,.sl 1)] [1000,6] [.tmp 4]
theorem nI(m:Nat)(G:List aa)(p1:Tree)(J:List aa)(h:y8 p1.kind 22 (oc m G p1 J)<|∃a,av p1 0 a∧(G++[(aa.mk a p1.text)]).length<=1000000000∧(G++[(aa.mk a p1.text)])=J):jN (m+1) G p1 J:=by
 intro K O;refine gR 6 rfl<|qBeZ 338 339 rfl rfl rfl rfl h ?_ ?_<;>intro h;exact gR 1 I<|qJ O (h K O) [0];refine gR 5 I<|qDs [] 9 9<|qDr [(0,2),(1,2),(3,2),(4,2)] I I ?_;obtain⟨a,b,h⟩:=h;refine bg 2 b (by kernel_rfl) I (by kernel_rfl) I I .rfl I I ?_;refine qDr [(5,0),(6,0)] I I ?_;obtain⟨hb,h⟩:=h;refine bo 7 (.repl 0 (.row 152 2 (List.map aa.w (G++[(aa.mk a p1.text)])))) I (by kernel_rfl) (bI ai I I I I I (apM aa.w G (aa.mk a p1.text)) (by rw[aQ];exact hb)) (okR I) I (by kernel_rfl) I I ?_;refine qDr [(8,0)] I I<|qDe<|gR 2 I ?_;subst h;exact gE O [] [(4,.sl 1)] [1000,2] [.tmp 4]
theorem uh(m:Nat)(G:List aa)(p1:Tree)(J:List aa)(h:∃b,av p1 0 b∧(G++[(aa.mk b [40])]).length<=1000000000∧∃d,p1.kids[0]?=some d∧∃a,ax (G++[(aa.mk b [40])]) d a∧∃c,av p1 1 c∧(a++[(aa.mk c [41])]).length<=1000000000∧(a++[(aa.mk c [41])])=J):oc (m+1) G p1 J:=by
 intro K O;refine gR 4 I ?_;obtain⟨b,f,h⟩:=h;refine qC0 f I<|gR 2 I ?_;obtain⟨hb,h⟩:=h;refine gDo (.repl 0 (.row 152 2 (List.map aa.w (G++[(aa.mk b [40])])))) (bI ai I I I I I (apM aa.w G (aa.mk b [40])) (by rw[aQ];exact hb)) (okR I) I I I<|gR 4 I<|qDs [] 12 12<|qDr (qR 0 3 2 []) I I ?_;obtain⟨d,e,h⟩:=h;refine gYd 3 I (by kernel_rfl) (aI (ay e) ai I I I I) I I<|qDr [(4,2),(6,2)] I I ?_;obtain⟨a,g,h⟩:=h;refine qDC 5 g [2] I ?_;refine gHR 4 (List.map aa.w a) I (vJ _ a) I ?_;obtain⟨c,i,h⟩:=h;refine bg 7 i (by kernel_rfl) I (by kernel_rfl) I I .rfl I I ?_;refine qDr [(8,0),(9,0)] I I ?_;obtain⟨hb,h⟩:=h;refine bo 10 (.repl 4 (.row 152 2 (List.map aa.w (a++[(aa.mk c [41])])))) I (by kernel_rfl) (bI ai I I I I I (apM aa.w a (aa.mk c [41])) (by rw[aQ];exact hb)) (okR I) I (by kernel_rfl) I I ?_;refine qDr [(11,0)] I I<|qDe<|gR 4 I ?_;subst h;exact gE O [] [(4,.sl 1)] [1000,6] [.tmp 4]
def gp(m:Nat)(p1:Tree)(p2 p3 G:Int)(a:List aa)(b:Int)(J:List aa):Prop:=z7 m [] f173 (z6 (.sl 1) ⟨2,[(1,.row 152 2<|List.map aa.w J)]⟩) (cL<|xE<|cB<|aj f173) [.blk 0,.seq<|xA<|aj f173] 41 [(0,.sl 0),(2,qi p2),(3,qi p3),(4,qi G),(6,.box (ao p1) 0),(11,qi b)] ⟨1,[(0,.row 152 2<|List.map aa.w a)]⟩
theorem yv(m:Nat)(p0:List aa)(p1:Tree)(p2 p3 p4:Int)(r0:List aa)(h:gp m p1 p2 p3 p4 p0 p2 r0):fw p0 p1 p2 p3 p4 r0:=by
 refine qA 41 [] func173 λK hK=>?_;exact gR 3 I<|gFP 1 I I I I<|gR 11 I<|go_loop m<|qW hK h [0]
theorem jb(m:Nat)(p1:Tree)(p2 p3 G:Int)(b:List aa)(a:Int)(J:List aa)(h:y5 (a<p3) (y5 (p2<a) (InI (G+a)∧InI ((G+a)-p2)∧InI (((G+a)-p2)-1)∧∃c,av p1 (((G+a)-p2)-1) c∧(b++[(aa.mk c [44])]).length<=1000000000∧∃f,a=((f:Nat):Int)∧∃i,p1.kids[f]?=some i∧∃d,ax (b++[(aa.mk c [44])]) i d∧InI (a+1)∧gp m p1 p2 p3 G d (a+1) J) (∃g,a=((g:Nat):Int)∧∃j,p1.kids[g]?=some j∧∃e,ax b j e∧InI (a+1)∧gp m p1 p2 p3 G e (a+1) J))<|b=J):gp (m+1) p1 p2 p3 G b a J:=by
 refine qj λK j1 O s=>?_;refine gR 8 rfl<|qXd 15 rfl rfl rfl h ?_ ?_<;>intro Z h;refine gR 13 rfl<|qXd 20 rfl rfl rfl h ?_ ?_<;>intro Z h;refine gR 6 I ?_;obtain⟨hb,h⟩:=h;refine gR 1 I<|gV 25 (qi<|G+a) I (am hb I) I<|gR 1 I ?_;obtain⟨hb,h⟩:=h;refine gR 1 I<|gV 27 (qi<|(G+a)-p2) I (am hb I) I ?_;obtain⟨hb,h⟩:=h;refine gR 1 I<|gV 28 (qi<|((G+a)-p2)-1) I (am hb I) I ?_;obtain⟨c,p,h⟩:=h;refine qC0 p I<|gR 2 I ?_;obtain⟨hb,h⟩:=h;refine gDo (.repl 0<|.row 152 2<|List.map aa.w<|b++[(aa.mk c [44])]) (bI ai I I I I I (apM aa.w b<|aa.mk c [44]) (by rw[aQ];exact hb)) (okR I) I I I<|gR 8 I ?_;obtain⟨f,n,h⟩:=h;refine gV 36 (qi ((f:Nat):Int)) I (bd n) I ?_;obtain⟨i,k,h⟩:=h;refine gY (aI (ay k) ai I I I I) I I<|gR 1 I ?_;obtain⟨d,q,h⟩:=h;refine qC q [2] ?_;refine gHR 4 (List.map aa.w d) I (vJ _ d) I<|gR 6 I ?_;obtain⟨hb,h⟩:=h;exact gR 1 I<|gV 17 (qi<|a+1) I (am hb I) I<|gR 2 I<|go_xloop<|qW O h [4];refine gR 8 I ?_;obtain⟨g,o,h⟩:=h;refine gV 36 (qi ((g:Nat):Int)) I (bd o) I ?_;obtain⟨j,l,h⟩:=h;refine gY (aI (ay l) ai I I I I) I I<|gR 1 I ?_;obtain⟨e,r,h⟩:=h;refine qC r [0] ?_;refine gHR 2 (List.map aa.w e) I (vJ _ e) I<|gR 6 I ?_;obtain⟨hb,h⟩:=h;exact gR 1 I<|gV 17 (qi<|a+1) I (am hb I) I<|gR 2 I<|go_xloop<|qW O h [2];refine gR 3 I<|go_xloopE<|gR 9 I ?_;subst h;exact gE O [] [(10,.sl 1)] [1000,0] [.tmp 10]
theorem rt(m:Nat)(G:Tree)(p1:Int)(J:YB)(h:((p1<(G.leads.length:Int))->∃a,p1=((a:Nat):Int)∧∃b,G.leads[a]?=some b∧b=J)∧((¬p1<(G.leads.length:Int))->[]=J)):av G p1 J:=by
 refine⟨I,I,?_⟩;refine qA 15 [] func172 λK O=>?_;refine gR 3 rfl<|gFP 0 rfl rfl rfl rfl<|gR 10 rfl<|gV 8 (qi (G.leads.length:Int)) rfl (aP<|aQ V.str _) rfl<|gLB 7 rfl (aQ V.str _) λe=>gR 3 rfl<|qBd 9 rfl rfl rfl h ?_ ?_<;>intro h;refine gR 6 I ?_;obtain⟨a,d,h⟩:=h;refine gV 12 (qi ((a:Nat):Int)) I (bd d) I ?_;obtain⟨b,c,h⟩:=h;refine gY (aI (aB (f:=V.str) c) ai I I I I) I I<|gR 6 I ?_;subst h;exact qN [.tmp 4];refine gR 9 I ?_;subst h;exact qN [.tmp 4]
def cU(G:Bool):Prop:=qS 13 []<|.bool G
def AG(G:YB)(J:Tree)(O Z:Int):Prop:=qS 27 [.str G]<|.tup [.agg<|ao J,qi O,qi Z]
def pF(G:Bool):Prop:=qS 13 []<|.bool G
def nV(m:Nat)(a:Tree)(b:Int)(d:ac)(e f:Int)(G:Bool):Prop:=y4 [] f13 (q9<|.bool G) [.seq<|xH<|aj f13] 60 [(1,.ptr 0 0),(3,qi b),(4,.ptr 1 0),(5,qi e),(6,qi f)] ⟨2,[(1,.var 24<|ac.c d),(0,.var 35<|ao a)]⟩
def nZ(m:Nat)(a:Int)(b:ac)(d e f g:Int)(G:Bool):Prop:=y4 [] f13 (q9<|.bool G) [.seq<|xJ<|aj f13] 60 [(3,qi a),(4,.ptr 0 0),(5,qi d),(6,qi e),(8,qi f),(9,qi g)] ⟨1,[(0,.var 24<|ac.c b)]⟩
theorem vg(m:Nat)(J:Bool)(h:∃b k g,AG [109,111,100,117,108,101,32,77,32,100,101,102,32,102,40,110,58,32,73,110,116,41,58,32,73,110,116,32,61,32,105,102,32,110,32,60,32,49,32,116,104,101,110,32,48,32,101,108,115,101,32,110,32,43,32,102,40,110,32,45,32,49,41] b k g∧∃a,dM 2 a∧∃c d e,rf [b] 0 0 [a] 100 c d e∧nV m b g c d e J):pF J:=by
 refine⟨I,I,?_⟩;refine qA 60 [] func13 λK G=>?_;refine gR 7 I ?_;obtain⟨b,k,g,q,h⟩:=h;refine qC0 q I<|gR 11 I<|qDs [0] 10 13<|qDr [(0,3)] I I ?_;obtain⟨a,f,h⟩:=h;apply Bi (i:=1) (j:=2) (l:=9) (by kernel_rfl) rfl rfl rfl rfl rfl rfl;exact(aG ai I I);exact(cb (L':=[0]) (by kernel_rfl) I I (iT f .rfl [0] I)<|.inl I);exact(aG ai I I);refine gHR 1 (kidsV [b]) I (eg b) I ?_;apply bf (i:=2) (j:=9) (by kernel_rfl) rfl rfl rfl rfl;exact(cb (L':=[0]) (by kernel_rfl) I I (iT f .rfl [0] I)<|.inl I);exact(aG ai I I);apply bf (i:=3) (j:=9) (by kernel_rfl) rfl rfl rfl rfl;exact(aG ai I I);exact(aG ai I I);refine gHR 2 (ac.vs [a]) I (ac.vone a) I<|gFR 1 I (bu _) I I<|gFR 2 I (ac.vpure _) I I ?_;obtain⟨c,d,e,n,h⟩:=h;apply bf (i:=4) (j:=9) (by kernel_rfl) rfl rfl rfl rfl;exact(cb (L':=[0]) (by kernel_rfl) I I (iT n .rfl [0] I)<|.inl I);exact(aG ai I I);exact qDr (qR 5 4 2<|(9,0)::(qR 10 3 1 [])) I I<|qDe<|qJ G (h K G) [0,3];refine bg 4 n (by kernel_rfl) I (by kernel_rfl) I I .rfl I I ?_;exact qDr ((5,0)::(qR 6 3 2<|qR 10 3 1 [])) I I<|qDe<|qJ G (h K G) [0,3];refine qDr [(3,0)] I I<|gHR 3 (ac.vs [a]) I (ac.vone a) I<|gFR 1 I (bu _) I I<|gFR 3 I (ac.vpure _) I I ?_;obtain⟨c,d,e,r,h⟩:=h;refine bg 4 r (by kernel_rfl) I (by kernel_rfl) I I .rfl I I ?_;exact qDr ((5,0)::(qR 6 3 2<|qR 10 3 1 [])) I I<|qDe<|qJ G (h K G) [0,2];refine bg 2 f (by kernel_rfl) I (by kernel_rfl) I I .rfl I I ?_;refine qDr [(3,0)] I I<|gHR 3 (ac.vs [a]) I (ac.vone a) I<|gFR 1 I (bu _) I I<|gFR 3 I (ac.vpure _) I I ?_;obtain⟨c,d,e,s,h⟩:=h;refine bg 4 s (by kernel_rfl) I (by kernel_rfl) I I .rfl I I ?_;exact qDr ((5,0)::(qR 6 3 2<|qR 10 3 1 [])) I I<|qDe<|qJ G (h K G) [0,2];apply Bi (i:=1) (j:=3) (l:=9) (by kernel_rfl) rfl rfl rfl rfl rfl rfl;exact(aG ai I I);exact(aG ai I I);exact(aG ai I I);refine gHR 1 (kidsV [b]) I (eg b) I ?_;apply bf (i:=3) (j:=9) (by kernel_rfl) rfl rfl rfl rfl;exact(aG ai I I);exact(aG ai I I);refine gHR 2 (ac.vs [a]) I (ac.vone a) I<|gFR 1 I (bu _) I I<|gFR 2 I (ac.vpure _) I I ?_;obtain⟨c,d,e,o,h⟩:=h;apply bf (i:=4) (j:=9) (by kernel_rfl) rfl rfl rfl rfl;exact(cb (L':=[0]) (by kernel_rfl) I I (iT o .rfl [0] I)<|.inl I);exact(aG ai I I);exact qDr (qR 5 4 2<|(9,0)::(qR 10 3 1 [])) I I<|qDe<|qJ G (h K G) [0,3];refine bg 4 o (by kernel_rfl) I (by kernel_rfl) I I .rfl I I ?_;exact qDr ((5,0)::(qR 6 3 2<|qR 10 3 1 [])) I I<|qDe<|qJ G (h K G) [0,3];refine qDr [(3,0)] I I<|gHR 3 (ac.vs [a]) I (ac.vone a) I<|gFR 1 I (bu _) I I<|gFR 3 I (ac.vpure _) I I ?_;obtain⟨c,d,e,t,h⟩:=h;refine bg 4 t (by kernel_rfl) I (by kernel_rfl) I I .rfl I I ?_;exact qDr ((5,0)::(qR 6 3 2<|qR 10 3 1 [])) I I<|qDe<|qJ G (h K G) [0,2];refine gHR 1 (ac.vs [a]) I (ac.vone a) I ?_;apply bf (i:=1) (j:=9) (by kernel_rfl) rfl rfl rfl rfl;exact(aG ai I I);exact(aG ai I I);refine gHR 2 (kidsV [b]) I (eg b) I<|gFR 2 I (bu _) I I<|gFR 1 I (ac.vpure _) I I ?_;obtain⟨c,d,e,p,h⟩:=h;apply bf (i:=4) (j:=9) (by kernel_rfl) rfl rfl rfl rfl;exact(cb (L':=[0]) (by kernel_rfl) I I (iT p .rfl [0] I)<|.inl I);exact(aG ai I I);exact qDr (qR 5 4 2<|(9,0)::(qR 10 3 1 [])) I I<|qDe<|qJ G (h K G) [0,3];refine bg 4 p (by kernel_rfl) I (by kernel_rfl) I I .rfl I I ?_;exact qDr ((5,0)::(qR 6 3 2<|qR 10 3 1 [])) I I<|qDe<|qJ G (h K G) [0,3];refine qDr [(1,0)] I I<|gHR 3 (kidsV [b]) I (eg b) I<|gFR 3 I (bu _) I I<|gFR 1 I (ac.vpure _) I I ?_;obtain⟨c,d,e,v,h⟩:=h;refine bg 4 v (by kernel_rfl) I (by kernel_rfl) I I .rfl I I ?_;exact qDr ((5,0)::(qR 6 3 2<|qR 10 3 1 [])) I I<|qDe<|qJ G (h K G) [0,2];apply bf (i:=1) (j:=3) (by kernel_rfl) rfl rfl rfl rfl;exact(aG ai I I);exact(aG ai I I);refine gHR 2 (kidsV [b]) I (eg b) I<|qDr [(3,0)] I I<|gHR 3 (ac.vs [a]) I (ac.vone a) I<|gFR 2 I (bu _) I I<|gFR 3 I (ac.vpure _) I I ?_;obtain⟨c,d,e,w,h⟩:=h;refine bg 4 w (by kernel_rfl) I (by kernel_rfl) I I .rfl I I ?_;exact qDr ((5,0)::(qR 6 3 2<|qR 10 3 1 [])) I I<|qDe<|qJ G (h K G) [0,1];refine gHR 2 (ac.vs [a]) I (ac.vone a) I<|qDr [(1,0)] I I<|gHR 3 (kidsV [b]) I (eg b) I<|gFR 3 I (bu _) I I<|gFR 2 I (ac.vpure _) I I ?_;obtain⟨c,d,e,x,h⟩:=h;refine bg 4 x (by kernel_rfl) I (by kernel_rfl) I I .rfl I I ?_;exact qDr ((5,0)::(qR 6 3 2<|qR 10 3 1 [])) I I<|qDe<|qJ G (h K G) [0,1];apply bf (i:=1) (j:=2) (by kernel_rfl) rfl rfl rfl rfl;exact(aG ai I I);exact(cb (L':=[0]) (by kernel_rfl) I I (iT f .rfl [0] I)<|.inl I);refine gHR 2 (kidsV [b]) I (eg b) I<|bg 2 f (by kernel_rfl) I (by kernel_rfl) I I .rfl I I<|qDr [(3,0)] I I<|gHR 3 (ac.vs [a]) I (ac.vone a) I<|gFR 2 I (bu _) I I<|gFR 3 I (ac.vpure _) I I ?_;obtain⟨c,d,e,y,h⟩:=h;refine bg 4 y (by kernel_rfl) I (by kernel_rfl) I I .rfl I I ?_;exact qDr ((5,0)::(qR 6 3 2<|qR 10 3 1 [])) I I<|qDe<|qJ G (h K G) [0,1];apply bf (i:=1) (j:=3) (by kernel_rfl) rfl rfl rfl rfl;exact(aG ai I I);exact(aG ai I I);refine gHR 2 (kidsV [b]) I (eg b) I<|qDr [(3,0)] I I<|gHR 3 (ac.vs [a]) I (ac.vone a) I<|gFR 2 I (bu _) I I<|gFR 3 I (ac.vpure _) I I ?_;obtain⟨c,d,e,z,h⟩:=h;refine bg 4 z (by kernel_rfl) I (by kernel_rfl) I I .rfl I I ?_;exact qDr ((5,0)::(qR 6 3 2<|qR 10 3 1 [])) I I<|qDe<|qJ G (h K G) [0,1];refine gHR 2 (ac.vs [a]) I (ac.vone a) I<|qDr [(1,0)] I I<|gHR 3 (kidsV [b]) I (eg b) I<|gFR 3 I (bu _) I I<|gFR 2 I (ac.vpure _) I I ?_;obtain⟨c,d,e,α,h⟩:=h;refine bg 4 α (by kernel_rfl) I (by kernel_rfl) I I .rfl I I ?_;exact qDr ((5,0)::(qR 6 3 2<|qR 10 3 1 [])) I I<|qDe<|qJ G (h K G) [0,1]
theorem uw(m:Nat)(b:Tree)(g:Int)(k:ac)(n o:Int)(J:Bool)(h:∃a,dM 2 a∧∃e c d,rf [b] 0 0 [a] 5 e c d∧nZ m g k n o c d J):nV (m+1) b g k n o J:=by
 intro K G;refine gR 2 I<|qDs [0] 10 13<|qDr [(0,3)] I I ?_;obtain⟨a,f,h⟩:=h;apply Bi (i:=1) (j:=2) (l:=9) (by kernel_rfl) rfl rfl rfl rfl rfl rfl;exact(aG ai I I);exact(cb (L':=[0]) (by kernel_rfl) I I (iT f .rfl [0] I) (.inl I));exact(aG ai I I);refine gHR 2 (kidsV [b]) I (eg b) I ?_;apply bf (i:=2) (j:=9) (by kernel_rfl) rfl rfl rfl rfl;exact(cb (L':=[0]) (by kernel_rfl) I I (iT f .rfl [0] I) (.inl I));exact(aG ai I I);apply bf (i:=3) (j:=9) (by kernel_rfl) rfl rfl rfl rfl;exact(aG ai I I);exact(aG ai I I);refine gHR 3 (ac.vs [a]) I (ac.vone a) I<|gFR 2 I (bu _) I I<|gFR 3 I (ac.vpure _) I I ?_;obtain⟨e,c,d,p,h⟩:=h;apply bf (i:=4) (j:=9) (by kernel_rfl) rfl rfl rfl rfl;exact(cb (L':=[0]) (by kernel_rfl) I I (iT p .rfl [0] I) (.inl I));exact(aG ai I I);exact qDr (qR 5 4 2 ((9,0)::(qR 10 3 1 []))) I I<|qDe<|qJ G (h K G) [1];refine bg 4 p (by kernel_rfl) I (by kernel_rfl) I I .rfl I I ?_;exact qDr ((5,0)::(qR 6 3 2 (qR 10 3 1 []))) I I<|qDe<|qJ G (h K G) [1];refine qDr [(3,0)] I I<|gHR 4 (ac.vs [a]) I (ac.vone a) I<|gFR 2 I (bu _) I I<|gFR 4 I (ac.vpure _) I I ?_;obtain⟨e,c,d,s,h⟩:=h;refine bg 4 s (by kernel_rfl) I (by kernel_rfl) I I .rfl I I ?_;exact qDr ((5,0)::(qR 6 3 2 (qR 10 3 1 []))) I I<|qDe<|qJ G (h K G) [1];refine bg 2 f (by kernel_rfl) I (by kernel_rfl) I I .rfl I I ?_;refine qDr [(3,0)] I I<|gHR 4 (ac.vs [a]) I (ac.vone a) I<|gFR 2 I (bu _) I I<|gFR 4 I (ac.vpure _) I I ?_;obtain⟨e,c,d,t,h⟩:=h;refine bg 4 t (by kernel_rfl) I (by kernel_rfl) I I .rfl I I ?_;exact qDr ((5,0)::(qR 6 3 2 (qR 10 3 1 []))) I I<|qDe<|qJ G (h K G) [1];apply Bi (i:=1) (j:=3) (l:=9) (by kernel_rfl) rfl rfl rfl rfl rfl rfl;exact(aG ai I I);exact(aG ai I I);exact(aG ai I I);refine gHR 2 (kidsV [b]) I (eg b) I ?_;apply bf (i:=3) (j:=9) (by kernel_rfl) rfl rfl rfl rfl;exact(aG ai I I);exact(aG ai I I);refine gHR 3 (ac.vs [a]) I (ac.vone a) I<|gFR 2 I (bu _) I I<|gFR 3 I (ac.vpure _) I I ?_;obtain⟨e,c,d,q,h⟩:=h;apply bf (i:=4) (j:=9) (by kernel_rfl) rfl rfl rfl rfl;exact(cb (L':=[0]) (by kernel_rfl) I I (iT q .rfl [0] I) (.inl I));exact(aG ai I I);exact qDr (qR 5 4 2 ((9,0)::(qR 10 3 1 []))) I I<|qDe<|qJ G (h K G) [1];refine bg 4 q (by kernel_rfl) I (by kernel_rfl) I I .rfl I I ?_;exact qDr ((5,0)::(qR 6 3 2 (qR 10 3 1 []))) I I<|qDe<|qJ G (h K G) [1];refine qDr [(3,0)] I I<|gHR 4 (ac.vs [a]) I (ac.vone a) I<|gFR 2 I (bu _) I I<|gFR 4 I (ac.vpure _) I I ?_;obtain⟨e,c,d,v,h⟩:=h;refine bg 4 v (by kernel_rfl) I (by kernel_rfl) I I .rfl I I ?_;exact qDr ((5,0)::(qR 6 3 2 (qR 10 3 1 []))) I I<|qDe<|qJ G (h K G) [1];refine gHR 2 (ac.vs [a]) I (ac.vone a) I ?_;apply bf (i:=1) (j:=9) (by kernel_rfl) rfl rfl rfl rfl;exact(aG ai I I);exact(aG ai I I);refine gHR 3 (kidsV [b]) I (eg b) I<|gFR 3 I (bu _) I I<|gFR 2 I (ac.vpure _) I I ?_;obtain⟨e,c,d,r,h⟩:=h;apply bf (i:=4) (j:=9) (by kernel_rfl) rfl rfl rfl rfl;exact(cb (L':=[0]) (by kernel_rfl) I I (iT r .rfl [0] I) (.inl I));exact(aG ai I I);exact qDr (qR 5 4 2 ((9,0)::(qR 10 3 1 []))) I I<|qDe<|qJ G (h K G) [1];refine bg 4 r (by kernel_rfl) I (by kernel_rfl) I I .rfl I I ?_;exact qDr ((5,0)::(qR 6 3 2 (qR 10 3 1 []))) I I<|qDe<|qJ G (h K G) [1];refine qDr [(1,0)] I I<|gHR 4 (kidsV [b]) I (eg b) I<|gFR 4 I (bu _) I I<|gFR 2 I (ac.vpure _) I I ?_;obtain⟨e,c,d,w,h⟩:=h;refine bg 4 w (by kernel_rfl) I (by kernel_rfl) I I .rfl I I ?_;exact qDr ((5,0)::(qR 6 3 2 (qR 10 3 1 []))) I I<|qDe<|qJ G (h K G) [1];apply bf (i:=1) (j:=3) (by kernel_rfl) rfl rfl rfl rfl;exact(aG ai I I);exact(aG ai I I);refine gHR 3 (kidsV [b]) I (eg b) I<|qDr [(3,0)] I I<|gHR 4 (ac.vs [a]) I (ac.vone a) I<|gFR 3 I (bu _) I I<|gFR 4 I (ac.vpure _) I I ?_;obtain⟨e,c,d,x,h⟩:=h;refine bg 4 x (by kernel_rfl) I (by kernel_rfl) I I .rfl I I ?_;exact qDr ((5,0)::(qR 6 3 2 (qR 10 3 1 []))) I I<|qDe<|qJ G (h K G) [1];refine gHR 3 (ac.vs [a]) I (ac.vone a) I<|qDr [(1,0)] I I<|gHR 4 (kidsV [b]) I (eg b) I<|gFR 4 I (bu _) I I<|gFR 3 I (ac.vpure _) I I ?_;obtain⟨e,c,d,y,h⟩:=h;refine bg 4 y (by kernel_rfl) I (by kernel_rfl) I I .rfl I I ?_;exact qDr ((5,0)::(qR 6 3 2 (qR 10 3 1 []))) I I<|qDe<|qJ G (h K G) [1];apply bf (i:=1) (j:=2) (by kernel_rfl) rfl rfl rfl rfl;exact(aG ai I I);exact(cb (L':=[0]) (by kernel_rfl) I I (iT f .rfl [0] I) (.inl I));refine gHR 3 (kidsV [b]) I (eg b) I<|bg 2 f (by kernel_rfl) I (by kernel_rfl) I I .rfl I I<|qDr [(3,0)] I I<|gHR 4 (ac.vs [a]) I (ac.vone a) I<|gFR 3 I (bu _) I I<|gFR 4 I (ac.vpure _) I I ?_;obtain⟨e,c,d,z,h⟩:=h;refine bg 4 z (by kernel_rfl) I (by kernel_rfl) I I .rfl I I ?_;exact qDr ((5,0)::(qR 6 3 2 (qR 10 3 1 []))) I I<|qDe<|qJ G (h K G) [1];apply bf (i:=1) (j:=3) (by kernel_rfl) rfl rfl rfl rfl;exact(aG ai I I);exact(aG ai I I);refine gHR 3 (kidsV [b]) I (eg b) I<|qDr [(3,0)] I I<|gHR 4 (ac.vs [a]) I (ac.vone a) I<|gFR 3 I (bu _) I I<|gFR 4 I (ac.vpure _) I I ?_;obtain⟨e,c,d,α,h⟩:=h;refine bg 4 α (by kernel_rfl) I (by kernel_rfl) I I .rfl I I ?_;exact qDr ((5,0)::(qR 6 3 2 (qR 10 3 1 []))) I I<|qDe<|qJ G (h K G) [1];refine gHR 3 (ac.vs [a]) I (ac.vone a) I<|qDr [(1,0)] I I<|gHR 4 (kidsV [b]) I (eg b) I<|gFR 4 I (bu _) I I<|gFR 3 I (ac.vpure _) I I ?_;obtain⟨e,c,d,β,h⟩:=h;refine bg 4 β (by kernel_rfl) I (by kernel_rfl) I I .rfl I I ?_;exact qDr ((5,0)::(qR 6 3 2 (qR 10 3 1 []))) I I<|qDe<|qJ G (h K G) [1]
theorem ux(m:Nat)(b:Int)(c:ac)(d e f g:Int)(G:Bool)(h:y8 b 0 (y8 e 0 (y8 d 25 (∃i,dM 3 i∧∃a,nX c i a∧y6 a (y8 g 21 (y8 f 5 (∃j,qU c j∧j=G)<|false=G)<|false=G) (false=G))<|false=G)<|false=G)<|false=G):nZ (m+1) b c d e f g G:=by
 intro K J;refine gR 2 rfl<|qDs [0] 27 28<|qDr (qR 0 3 0 []) rfl rfl<|qBeZ 35 34 rfl rfl rfl rfl h ?_ ?_<;>intro h;refine qDr (qR 3 4 0 []) rfl rfl<|qBeZ 39 38 rfl rfl rfl rfl h ?_ ?_<;>intro h;refine qDr (qR 7 4 0 []) rfl rfl<|qBeZ 43 42 rfl rfl rfl rfl h ?_ ?_<;>intro h;refine qDr [(11,3)] I I ?_;obtain⟨i,k,h⟩:=h;refine bg 12 k (by kernel_rfl) I (by kernel_rfl) I I .rfl I I ?_;obtain⟨a,l,h⟩:=h;refine bg 13 l (by kernel_rfl) I (by kernel_rfl) I I .rfl I I ?_;refine qDr [(14,0),(15,0)] rfl rfl<|qBiZ 48 47 rfl rfl rfl rfl h ?_ ?_<;>intro h;refine qDr (qR 16 4 0 []) rfl rfl<|qBeZ 52 51 rfl rfl rfl rfl h ?_ ?_<;>intro h;refine qDr (qR 20 4 0 []) rfl rfl<|qBeZ 56 55 rfl rfl rfl rfl h ?_ ?_<;>intro h;refine qDr [(24,0)] I I ?_;obtain⟨j,n,h⟩:=h;refine bg 25 n (by kernel_rfl) I (by kernel_rfl) I I .rfl I I ?_;refine qDr [(26,0),(27,1)] I I<|qDe<|gR 2 I ?_;subst h;exact qN [.tmp 0];refine qDr (qR 24 3 0 [(27,1)]) I I<|qDe<|gR 2 I ?_;subst h;exact qN [.tmp 0];refine qDr (qR 20 7 0 [(27,1)]) I I<|qDe<|gR 2 I ?_;subst h;exact qN [.tmp 0];refine qDr (qR 16 11 0 [(27,1)]) I I<|qDe<|gR 2 I ?_;subst h;exact qN [.tmp 0];refine qDr ((11,2)::(qR 12 15 0 [(27,1)])) I I<|qDe<|gR 2 I ?_;subst h;exact qN [.tmp 0];refine qDr (qR 7 4 0 ((11,2)::(qR 12 15 0 [(27,1)]))) I I<|qDe<|gR 2 I ?_;subst h;exact qN [.tmp 0];refine qDr (qR 3 8 0 ((11,2)::(qR 12 15 0 [(27,1)]))) I I<|qDe<|gR 2 I ?_;subst h;exact qN [.tmp 0]
variable{k:Nat}
section
variable{P:Program}{T:Tab}{n:Nat}{F:Fm}{H:Hp}
theorem PT{f:Nat->Option Value}{a:Act}{w:World}{ty:TypeId}{t e:TypeId}{x y:Operand}{len:Nat}{cs:List Value}{v:Value}(h:Fr a n f)(ht:P.underlying t=some (.array len e))(O:gc P e=some 1)(Z:P.plainKey e=true)(hx:aR f x=some (.agg cs.toArray))(hy:aR f y=some (.int .i64 (k:Int)))(G:k<len)(hk:cs[k]?=some v):
  Runs P a ty (.index t x y) w (.value v) w:=λ_ _ _ _=>by
 have hA:(sizeOf e).run P w=.ok 1 w:=by obtain⟨i,hi,hs⟩:=Option.map_eq_some_iff.1 (show(P.info? e).map (·.size)=some 1 from O);simp[sizeOf,typeInfo,hi,hs]
 have J:(part e cs.toArray<|k*1).run P w=.ok v w:=run_part_plain w Z (by simpa using hk);simp only[execOp,h.eval hx,h.eval hy];simp[Instr.index,asIntOf,run_underlying ht,hA,G];rw[show(part e cs.toArray k).run P w=.ok v w by simpa using J];rfl
theorem Tc{t e:TypeId}{x y:Operand}{len:Nat}{l:List YB}{s:YB}{ty:TypeId}(ht:P.underlying t=some (.array len e))(O:gc P e=some 1)(Z:P.plainKey e=true)(hx:aO F x=some (.agg<|l.map .str))(hy:aO F y=some (.int .i64 (k:Int)))(hl:l.length=len)(hi:l[k]?=some s):
  ∀S w ρ a,HRel S w ρ H.get->FRel S w ρ a n F->Yld P S w ρ a ty (.index t x y) (.str s):=λS w ρ a hr G=>by
 obtain⟨y0,h1,h2⟩:=au G hx;simp only[VRel]at h2;obtain⟨xs,rfl,h3⟩:=h2;obtain⟨z,J,hv⟩:=h3.get (i:=k) (v:=.str s) (by simp[hi]);simp only[VRel]at hv;subst hv;exact⟨_,by simp only[VRel],λw' _=>PT G.fr ht O Z h1 (bj<|au G hy) (by rw[<-hl];exact(List.getElem?_eq_some_iff.1 hi).1) J⟩
end
def me(G:Tree)(J:Bool):Prop:=qS 32 [.agg<|ao G]<|.bool J
def fU(d:YI)(a:Int)(p1:Tree)(G:ac)(e:YI)(b:Int):Prop:=bv [] prog 33 [.ptr 0 0,.agg<|ao p1] ⟨1,[(0,vB d a)]⟩<|z6 (.agg<|ac.c G) ⟨2,[(0,vB e b)]⟩
def nu(G p1:YI)(p2:Int)(J:Bool):Prop:=qS 11 [.row 1<|List.map (V.int .i64) G,.row 1<|List.map (V.int .i64) p1,qi p2]<|.bool J
def iW(G:Tree)(J:YT):Prop:=qS 30 [.agg<|ao G]<|.row 4<|kidsV J
def iz(m:Nat)(a:Tree)(G:Bool):Prop:=z7 m [] f32 (q9<|.bool G) (cL<|xL<|cB<|aj f32) [.blk 0,.seq<|xA<|aj f32] 13 [(1,.ptr 0 0)] ⟨1,[(0,.var 35<|ao a)]⟩
theorem wV(m:Nat)(p0:Tree)(r0:Bool)(h:iz m p0 r0):me p0 r0:=by
 refine⟨I,I,?_⟩;refine qA 13 [] func32 λK hK=>?_;exact gR 8 I<|go_loop m<|qW hK h [0]
theorem pM(m:Nat)(a:Tree)(G:Bool)(h:y8 a.kind 8 (∃b,a.kids[0]?=some b∧iz m b G)<|(a.kind !=9)=G):iz (m+1) a G:=by
 refine qj λK O J d=>?_;refine gR 8 rfl<|qXe 5 rfl rfl rfl h ?_ ?_<;>intro Z h;refine gR 7 I ?_;obtain⟨b,c,h⟩:=h;exact gY (aI (ay c) ai I I I I) I I<|gR 4 I<|go_xloop<|qW J h [0];refine gR 3 I<|go_xloopE<|gR 11 I ?_;subst h;exact qN [.tmp 2]
def ij(m:Nat)(p1:Tree)(b:YI)(d:Int)(e:List ac)(f:Int)(G:ac)(g:YI)(a:Int):Prop:=z7 m [0] f33 (z6 (.agg<|ac.c G) ⟨2,[(0,vB g a)]⟩) (cL<|xE<|cB<|xK<|xC<|xE<|cB<|aj f33) [.blk 1,.seq<|xA<|xK<|xC<|xE<|cB<|aj f33,.blk 0,.seq<|xA<|aj f33] 46 [(0,.ptr 0 0),(3,.box (ao p1) 0),(4,.ptr 1 0),(5,.ptr 2 0),(6,qi f)] ⟨4,[(3,.row 24 4<|ac.vs e),(2,.var 24 [qi 4,qi 0,.str [],.sl 3]),(1,vG 0 0 []),(0,vB b d)]⟩
theorem iw(m:Nat)(g:YI)(b:Int)(p1:Tree)(r0:ac)(i:YI)(c:Int)(h:y8 p1.kind 6 (∃q r s,aH g b 3 q r s∧∃p,q=((p:Nat):Int)∧∃d,([[],[97],[98,99]]:List YB)[p]?=some d∧(ac.mk 2 0 d [])=r0∧r=i∧s=c)<|y8 p1.kind 7 (∃e t v,aH g b 2 e t v∧(ac.mk 3 e [] [])=r0∧t=i∧v=c)<|y8 p1.kind 8 (∃w j k,aH g b 3 w j k∧ij m p1 j k ([]:List ac) w r0 i c) (∃f n o,aH g b 9 f n o∧InI (f-4)∧∃a,dM (f-4) a∧a=r0∧n=i∧o=c)):fU g b p1 r0 i c:=by
 refine qA 46 [0] func33 λK hK=>?_;refine gR 3 rfl<|gFP 1 rfl rfl rfl rfl<|gR 17 rfl<|qXeZ 9 10 rfl rfl rfl rfl h ?_ ?_<;>intro hd h;refine gR 5 I ?_;obtain⟨q,r,s,z,h⟩:=h;refine qC z [0] ?_;obtain⟨p,y,h⟩:=h;refine gV 13 (qi ((p:Nat):Int)) I (bd y) I ?_;obtain⟨d,x,h⟩:=h;refine gY (Tc (l:=([[],[97],[98,99]]:List YB)) underlying109 (by kernel_rfl) (by decide) rfl rfl rfl x) rfl rfl<|gR 7 rfl ?_;obtain⟨rfl,rfl,rfl⟩:=h;exact gE hK [(1,vF ((ac.mk 2 0 d []).Kind) ((ac.mk 2 0 d []).N) ((ac.mk 2 0 d []).S)<|.row 4<|ac.vs<|(ac.mk 2 0 d []).L)] [(4,.ptr 1 0)] [0,2] [.cell 4 24] (hH:=⟨⟨_,I,⟨I,(.cons .rfl<|.cons .rfl<|.cons .rfl<|.cons (.nil 4) .nil)⟩⟩,⟨⟨_,I,⟨I,aD.rfl⟩⟩,trivial⟩⟩);refine gR 7 rfl<|qXeZ 16 17 rfl rfl rfl rfl h ?_ ?_<;>intro hd h;refine gR 4 I ?_;obtain⟨e,t,v,α,h⟩:=h;refine qC α [0] ?_;refine gR 7 I ?_;obtain⟨rfl,rfl,rfl⟩:=h;exact gE hK [(1,vF ((ac.mk 3 e [] []).Kind) ((ac.mk 3 e [] []).N) ((ac.mk 3 e [] []).S)<|.row 4<|ac.vs<|(ac.mk 3 e [] []).L)] [(4,.ptr 1 0)] [0,2] [.cell 4 24] (hH:=⟨⟨_,I,⟨I,(.cons .rfl<|.cons .rfl<|.cons .rfl<|.cons (.nil 4) .nil)⟩⟩,⟨⟨_,I,⟨I,aD.rfl⟩⟩,trivial⟩⟩);refine gR 7 rfl<|qXeZ 21 22 rfl rfl rfl rfl h ?_ ?_<;>intro hd h;refine gR 12 I ?_;obtain⟨w,j,k,β,h⟩:=h;refine qC β [0] ?_;exact gR 4 I<|go_loop m<|gNC 3 3 24 4 I I I I<|qW hK h [0,2,3,5];refine gR 7 I ?_;obtain⟨f,n,o,γ,h⟩:=h;refine qC γ [0] ?_;obtain⟨hb,h⟩:=h;refine gR 1 I<|gV 44 (qi<|f-4) I (am hb I) I ?_;obtain⟨a,δ,h⟩:=h;refine qC0 δ I<|gR 4 I ?_;obtain⟨rfl,rfl,rfl⟩:=h;exact gE hK [(1,.var 24<|ac.c a)] [(4,.ptr 1 0)] [0,2] [.cell 4 24]
theorem pN(m:Nat)(p1:Tree)(e:YI)(f:Int)(a:List ac)(c:Int)(G:ac)(g:YI)(d:Int)(h:y5 (0<c) (∃i,p1.kids[0]?=some i∧∃b j k,fU e f i b j k∧(a++[b]).length<=1000000000∧InI (c-1)∧ij m p1 j k (a++[b]) (c-1) G g d)<|(ac.mk 4 0 [] a)=G∧e=g∧f=d):ij (m+1) p1 e f a c G g d:=by
 refine qj λK O J o=>?_;refine gR 7 rfl<|qXd 27 rfl rfl rfl h ?_ ?_<;>intro Z h;refine gR 5 I<|qDs [2] 11 12<|qDr [(0,2),(1,3),(2,2),(3,0),(4,0)] I I ?_;obtain⟨i,l,h⟩:=h;refine cw 5 I (by kernel_rfl) (aI (ay l) ai I I I I) I I ?_;refine qDr [(6,0)] I I ?_;obtain⟨b,j,k,n,h⟩:=h;refine qDC 7 n [0] I ?_;refine qDr [(8,0)] I I<|gHR 6 (ac.vs [b]) I (ac.vone b) I ?_;obtain⟨hb,h⟩:=h;refine bo 9 (.repl 3<|.row 24 4<|ac.vs<|a++[b]) I (by kernel_rfl) (bI ai I I I I I (ac.vapp a [b]).symm (by rw[ac.vlen];exact hb)) (okR I) I (by kernel_rfl) I I ?_;refine qDr [(10,0),(11,1)] I I<|qDe<|gR 4 I ?_;obtain⟨hb,h⟩:=h;exact gR 1 I<|gV 29 (qi<|c-1) I (am hb I) I<|gR 2 I<|go_xloop<|qJH J (h K _ J<|by omega) [0,1,2,7] ⟨⟨_,I,⟨I,I,(ac.vren _<|a++[b]).symm⟩⟩,⟨⟨_,I,⟨I,aD.rfl⟩⟩,⟨⟨_,I,⟨I,aD.rfl⟩⟩,⟨⟨_,I,⟨I,aD.rfl⟩⟩,trivial⟩⟩⟩⟩;refine gR 3 I<|go_xloopE<|gR 11 I<|gFR 3 I (ac.vpure _) I I ?_;obtain⟨rfl,rfl,rfl⟩:=h;exact gE J [(1,vF ((ac.mk 4 0 [] a).Kind) ((ac.mk 4 0 [] a).N) ((ac.mk 4 0 [] a).S)<|.row 4<|ac.vs<|(ac.mk 4 0 [] a).L)] [(4,.ptr 1 0)] [0,1] [.cell 4 24]
def fe(m:Nat)(p1:YI)(p2:Int)(a:YT)(b:Nat)(G:Bool):Prop:=z7 m [] f11 (q9<|.bool G) (xI<|xA<|aj f11) [.blk 0,.seq<|xA<|xH<|aj f11] 155 [(1,.row 1<|List.map (V.int .i64) p1),(2,qi p2),(7,.row 4<|kidsV a),(8,qi (b:Int))] ⟨0,[]⟩
def fg(m:Nat)(p1:YI)(p2:Int)(a b:YT)(c d:Nat)(O:Bool):Prop:=∀(K:Ctx) (G J:Nat),aw K []->m<=G->m<=J->qLG K f11 (q9<|.bool O) (cL<|cK<|xA<|xL<|cB<|xI<|xA<|aj f11) [.loop (cL<|cK<|xA<|xL<|cB<|xI<|xA<|aj f11) G,.blk 2,.blk 1,.seq<|xA<|xI<|xA<|aj f11,.loop (xI<|xA<|aj f11) J,.blk 0,.seq<|xA<|xH<|aj f11] 155 (mkF 155 0 [(1,.row 1<|List.map (V.int .i64) p1),(2,qi p2),(7,.row 4<|kidsV a),(8,qi (d:Int)),(9,.row 4<|kidsV b),(10,qi (c:Int))]) ⟨0,[]⟩
def dD(m:Nat)(p1:YI)(p2:Int)(a:YT)(b:Nat)(G:Bool):Prop:=z7 m [] f11 (q9<|.bool G) (xI<|xH<|aj f11) [.blk 4,.seq<|xJ<|xA<|aj f11] 155 [(1,.row 1<|List.map (V.int .i64) p1),(2,qi p2),(7,.row 4<|kidsV a),(11,qi (b:Int))] ⟨0,[]⟩
def bV(m:Nat)(p1:YI)(p2:Int)(a:YT)(b c:Nat)(O:Bool):Prop:=∀(K:Ctx) (G J:Nat),aw K []->m<=G->m<=J->qLG K f11 (q9<|.bool O) (cL<|xD<|xL<|cB<|xI<|xH<|aj f11) [.loop (cL<|xD<|xL<|cB<|xI<|xH<|aj f11) G,.blk 6,.blk 5,.seq<|xA<|xI<|xH<|aj f11,.loop (xI<|xH<|aj f11) J,.blk 4,.seq<|xJ<|xA<|aj f11] 155 (mkF 155 0 [(1,.row 1<|List.map (V.int .i64) p1),(2,qi p2),(7,.row 4<|kidsV a),(11,qi (c:Int)),(12,qi (b:Int))]) ⟨0,[]⟩
def dC(m:Nat)(p1:YI)(p2:Int)(a:YT)(b:Tree)(c:YI)(d:Int)(e:List ac)(f:Bool)(g i j:Nat)(Z:Bool):Prop:=∀(K:Ctx) (G J O:Nat),aw K []->m<=G->m<=J->m<=O->qLG K f11 (q9<|.bool Z) (xI<|xH<|xL<|cB<|cL<|xD<|xL<|cB<|xI<|xH<|aj f11) [.loop (xI<|xH<|xL<|cB<|cL<|xD<|xL<|cB<|xI<|xH<|aj f11) G,.blk 8,.seq<|xJ<|xA<|xL<|cB<|cL<|xD<|xL<|cB<|xI<|xH<|aj f11,.blk 7,.seq<|xA<|cL<|xD<|xL<|cB<|xI<|xH<|aj f11,.loop (cL<|xD<|xL<|cB<|xI<|xH<|aj f11) J,.blk 6,.blk 5,.seq<|xA<|xI<|xH<|aj f11,.loop (xI<|xH<|aj f11) O,.blk 4,.seq<|xJ<|xA<|aj f11] 155 (mkF 155 0 [(1,.row 1<|List.map (V.int .i64) p1),(2,qi p2),(7,.row 4<|kidsV a),(11,qi (i:Int)),(12,qi (j:Int)),(13,.ptr 0 0),(14,.ptr 1 0),(15,.sl 2),(16,.bool f),(17,qi (g:Int))]) ⟨3,[(2,.row 24 4<|ac.vs e),(1,vB c d),(0,.var 35<|ao b)]⟩
theorem cV(m:Nat)(p0 p1:YI)(p2:Int)(r0:Bool)(h:∃b,js p0 b∧((b=false)->∃e,cU e∧e=r0)∧((b=true)->∃c,js p1 c∧((c=false)->∃f,cU f∧f=r0)∧((c=true)->((p2<0)->∃g,cU g∧g=r0)∧((¬p2<0)->((3000<p2)->∃i,cU i∧i=r0)∧((¬3000<p2)->∃d,lu p0 d∧∃a,mr d a∧((0<(a.length:Int))->∃j,cU j∧j=r0)∧((¬0<(a.length:Int))->fe m p1 p2 d 0 r0)))))):nu p0 p1 p2 r0:=by
 refine⟨I,I,?_⟩;refine qA 155 [] func11 λK hK=>?_;refine gR 9 I ?_;obtain⟨b,k,h⟩:=h;refine qC0 k rfl<|gR 2 rfl<|qXhZ 24 23 rfl rfl rfl rfl h cv cu ?_ ?_<;>intro hd h;refine gR 17 I ?_;obtain⟨e,l,h⟩:=h;refine qC0 l I<|gR 5 I ?_;subst h;exact qN [.tmp 6];refine gR 1 I ?_;obtain⟨c,n,h⟩:=h;refine qC0 n rfl<|gR 3 rfl<|qXhZ 29 28 rfl rfl rfl rfl h cv cu ?_ ?_<;>intro hd h;refine gR 12 I ?_;obtain⟨f,o,h⟩:=h;refine qC0 o I<|gR 5 I ?_;subst h;exact qN [.tmp 6];refine gR 4 rfl<|qXdZ 33 32 rfl rfl rfl rfl h ?_ ?_<;>intro hd h;refine gR 8 I ?_;obtain⟨g,p,h⟩:=h;refine qC0 p I<|gR 5 I ?_;subst h;exact qN [.tmp 6];refine gR 5 rfl<|qXd 36 rfl rfl rfl h ?_ ?_<;>intro hd h;refine gR 3 I ?_;obtain⟨i,q,h⟩:=h;refine qC0 q I<|gR 5 I ?_;subst h;exact qN [.tmp 6];refine gR 6 I ?_;obtain⟨d,r,h⟩:=h;refine qC0 r I<|gR 7 I ?_;obtain⟨a,s,h⟩:=h;refine qC s [] ?_;refine gHR 0 (List.map ak.w a) rfl (vI _ a) rfl<|gR 1 rfl<|gV 42 (qi (a.length:Int)) rfl (aP<|aQ ak.w _) rfl<|gLO 0 rfl (aQ ak.w _) λv=>gR 3 rfl<|qXd 43 rfl rfl rfl h ?_ ?_<;>intro hd h;refine gR 3 I ?_;obtain⟨j,t,h⟩:=h;refine qC0 t I<|gR 5 I ?_;subst h;exact qN [.tmp 6];exact gR 10 I<|go_loop m<|qW hK h []
theorem mj(m:Nat)(p1:YI)(p2:Int)(a:YT)(b:Nat)(r0:Bool)(h:y5 (b<a.length) (∃c,a[b]?=some c∧∃d,iW c d∧fg m p1 p2 a d 0 b r0)<|dD m p1 p2 a 0 r0):fe (m+1) p1 p2 a b r0:=by
 refine qj λK j1 hK i=>?_;refine gR 6 rfl<|gV 47 (qi (a.length:Int)) rfl (aP<|aJ _) rfl<|gLB 46 rfl (aJ _) λg=>gR 3 rfl<|qXh 48 rfl rfl rfl h cg ch ?_ ?_<;>intro hd h;refine gR 9 I ?_;obtain⟨c,e,h⟩:=h;refine gY (aI (ay e) ai I I I I) I I<|gR 1 I ?_;obtain⟨d,f,h⟩:=h;exact qC0 f I<|gR 9 I<|go_loop m<|qJ hK (h K _ _ hK (by omega)<|by omega) [];exact gR 3 I<|go_xloopE<|gR 9 I<|go_loop m<|qW hK h []
theorem iA(m:Nat)(p1:YI)(p2:Int)(e a:YT)(b c:Nat)(G:Bool)(h:y5 (b<a.length) (∃d,a[b]?=some d∧y8 d.kind 15 (∃f,cU f∧f=G) (fg m p1 p2 e a (b+1) c G))<|c+1<=9223372036854775807∧fe m p1 p2 e (c+1) G):fg (m+1) p1 p2 e a b c G:=by
 intro K J O Z l n;obtain⟨J,rfl⟩:∃j,J=j+1:=⟨J-1,by omega⟩;obtain⟨O,rfl⟩:∃j,O=j+1:=⟨O-1,by omega⟩;refine gR 6 rfl<|gV 58 (qi (a.length:Int)) rfl (aP (aJ _)) rfl<|gLB 57 rfl (aJ _) λi=>gR 3 rfl<|qXh 59 rfl rfl rfl h cg ch ?_ ?_<;>intro hd h;refine gR 9 I ?_;obtain⟨d,g,h⟩:=h;refine gY (aI (ay g) ai rfl rfl rfl rfl) rfl rfl<|gR 5 rfl<|qXe 67 rfl rfl rfl h ?_ ?_<;>intro hd h;refine gR 3 I ?_;obtain⟨f,k,h⟩:=h;refine qC0 k I<|gR 6 I<|go_xloopR<|gR 3 I<|go_xloopR<|gR 2 I ?_;subst h;exact qN [.tmp 6];exact gR 7 I<|gV 61 (qi ((b+1:Nat):Int)) I (am (by have :=i;omega)<|by omega) I<|gR 2 I<|go_xloop<|qJ Z (h K _ _ Z (by omega)<|by omega) [];refine gR 3 I<|go_xloopE<|gR 5 I ?_;obtain⟨hb,h⟩:=h;exact gR 1 I<|gV 50 (qi ((c+1:Nat):Int)) I (am (by omega)<|by omega) I<|gR 2 I<|go_xloop<|qW Z h []
theorem my(m:Nat)(p1:YI)(p2:Int)(a:YT)(b:Nat)(r0:Bool)(h:y5 (b<a.length) (bV m p1 p2 a 0 b r0)<|∃c,cU c∧c=r0):dD (m+1) p1 p2 a b r0:=by
 refine qj λK j1 hK f=>?_;refine gR 6 rfl<|gV 71 (qi (a.length:Int)) rfl (aP<|aJ _) rfl<|gLB 70 rfl (aJ _) λe=>gR 3 rfl<|qXh 72 rfl rfl rfl h cg ch ?_ ?_<;>intro hd h;exact gR 11 I<|go_loop m<|qJ hK (h K _ _ hK (by omega)<|by omega) [];refine gR 3 I<|go_xloopE<|gR 4 I ?_;obtain⟨c,d,h⟩:=h;refine qC0 d I<|gR 4 I ?_;subst h;exact qN [.tmp 6]
theorem il(m:Nat)(p1:YI)(p2:Int)(c:YT)(b a:Nat)(r0:Bool)(h:∃d,c[a]?=some d∧y5 (b<d.kids.length) (∃f,c[a]?=some f∧∃e,f.kids[b]?=some e∧y9 e.kind 2 (bV m p1 p2 c (b+1) a r0) (∃g i,nO p1 g i∧dC m p1 p2 c e g i ([]:List ac) true 0 a b r0)) (a+1<=9223372036854775807∧dD m p1 p2 c (a+1) r0)):bV (m+1) p1 p2 c b a r0:=by
 intro K j1 j2 hK q r;obtain⟨j1,rfl⟩:∃j,j1=j+1:=⟨j1-1,by omega⟩;obtain⟨j2,rfl⟩:∃j,j2=j+1:=⟨j2-1,by omega⟩;refine gR 6 I ?_;obtain⟨d,k,h⟩:=h;refine gY (aI (ay k) ai rfl rfl rfl rfl) rfl rfl<|gR 3 rfl<|gV 81 (qi (d.kids.length:Int)) rfl (aP (aJ _)) rfl<|gLB 80 rfl (aJ _) λo=>gR 3 rfl<|qXh 82 rfl rfl rfl h cg ch ?_ ?_<;>intro hd h;refine gR 9 I ?_;obtain⟨f,l,h⟩:=h;refine gY (aI (ay l) ai I I I I) I I<|gR 3 I ?_;obtain⟨e,n,h⟩:=h;refine gY (aI (ay n) ai rfl rfl rfl rfl) rfl rfl<|gR 13 rfl<|qXh 95 rfl rfl rfl h cz bH ?_ ?_<;>intro hd h;exact gR 8 I<|gV 84 (qi ((b+1:Nat):Int)) I (am (by have :=o;omega)<|by omega) I<|gR 2 I<|go_xloop<|qJ hK (h K _ _ hK (by omega)<|by omega) [];refine gR 6 I ?_;obtain⟨g,i,p,h⟩:=h;refine qC p [] ?_;exact gR 20 I<|go_loop m<|gNS 15 24 4 I I I I<|qJ hK (h K _ _ _ hK (by omega) (by omega)<|by omega) [0,1,2];refine gR 3 I<|go_xloopE<|gR 5 I ?_;obtain⟨hb,h⟩:=h;exact gR 1 I<|gV 74 (qi ((a+1:Nat):Int)) I (am (by omega)<|by omega) I<|gR 2 I<|go_xloop<|qW hK h []
theorem ig(m:Nat)(p1:YI)(p2:Int)(i:YT)(f:Tree)(q:YI)(r:Int)(c:List ac)(l:Bool)(d k a:Nat)(O:Bool)(h:y5 ((d:Int)<((f.kids.length:Int)-2)) (y6 l (∃s,f.kids[d]?=some s∧∃t,s.kids[0]?=some t∧∃v,me t v∧∃w,f.kids[d]?=some w∧∃x,w.kids[0]?=some x∧∃g y z,fU q r x g y z∧(c++[g]).length<=1000000000∧d+1<=9223372036854775807∧dC m p1 p2 i f y z (c++[g]) v (d+1) k a O) (∃α,f.kids[d]?=some α∧∃n,α.kids[0]?=some n∧∃b o p,fU q r n b o p∧(c++[b]).length<=1000000000∧d+1<=9223372036854775807∧dC m p1 p2 i f o p (c++[b]) false (d+1) k a O))<|∃β γ e,rf i (k:Int) (a:Int) c p2 β γ e∧y6 l (y9 e 0 (y9 e 21 (y9 e 3 (false=O)<|a+1<=9223372036854775807∧bV m p1 p2 i (a+1) k O)<|a+1<=9223372036854775807∧bV m p1 p2 i (a+1) k O)<|a+1<=9223372036854775807∧bV m p1 p2 i (a+1) k O) (a+1<=9223372036854775807∧bV m p1 p2 i (a+1) k O)):dC (m+1) p1 p2 i f q r c l d k a O:=by
 intro K Z j2 j3 J π τ υ;obtain⟨Z,rfl⟩:∃j,Z=j+1:=⟨Z-1,by omega⟩;obtain⟨j2,rfl⟩:∃j,j2=j+1:=⟨j2-1,by omega⟩;obtain⟨j3,rfl⟩:∃j,j3=j+1:=⟨j3-1,by omega⟩;refine gR 7 rfl<|gV 101 (qi (f.kids.length:Int)) rfl (aP (aJ _)) rfl<|gLB 100 rfl (aJ _) λκ=>gR 1 rfl<|gV 102 (qi<|(f.kids.length:Int)-2) rfl (am (by have :=κ;omega) rfl) rfl<|gR 3 rfl<|qXd 103 rfl rfl rfl h ?_ ?_<;>intro G h;refine gR 9 rfl<|gB 107 rfl rfl rfl ?_ ?_<;>intro G;refine gT 16 I G I ?_;refine gT 106 I G I ?_;replace h:=h.1 G;refine gR 3 I ?_;obtain⟨s,ε,h⟩:=h;refine gY (aI (ay ε) ai I I I I) I I<|gR 2 I ?_;obtain⟨t,ζ,h⟩:=h;refine gY (aI (ay ζ) ai I I I I) I I<|gR 1 I ?_;obtain⟨v,μ,h⟩:=h;refine qC0 μ I<|gR 10 I ?_;obtain⟨w,η,h⟩:=h;refine gY (aI (ay η) ai I I I I) I I<|gR 2 I ?_;obtain⟨x,θ,h⟩:=h;refine gY (aI (ay θ) ai I I I I) I I<|gR 1 I ?_;obtain⟨g,y,z,ν,h⟩:=h;refine qC ν [1] ?_;refine gR 1 I<|gHR 5 (ac.vs [g]) I (ac.vone g) I ?_;obtain⟨hb,h⟩:=h;refine gDo (.repl 2<|.row 24 4<|ac.vs<|c++[g]) (bI ai I I I I I (ac.vapp c [g]).symm (by rw[ac.vlen];exact hb)) (okR I) I I I<|gR 6 I ?_;obtain⟨hb,h⟩:=h;exact gR 1 I<|gV 105 (qi ((d+1:Nat):Int)) I (am (by omega)<|by omega) I<|gR 2 I<|go_xloop<|qJH J (h K _ _ _ J (by omega) (by omega)<|by omega) [0,1,6] ⟨⟨_,I,⟨I,I,(ac.vren _<|c++[g]).symm⟩⟩,⟨⟨_,I,⟨I,aD.rfl⟩⟩,⟨⟨_,I,⟨I,aD.rfl⟩⟩,trivial⟩⟩⟩;refine gF 16 I G I ?_;refine gF 106 I G I ?_;replace h:=h.2 G;refine gR 19 I ?_;obtain⟨α,ι,h⟩:=h;refine gY (aI (ay ι) ai I I I I) I I<|gR 2 I ?_;obtain⟨n,δ,h⟩:=h;refine gY (aI (ay δ) ai I I I I) I I<|gR 1 I ?_;obtain⟨b,o,p,ξ,h⟩:=h;refine qC ξ [1] ?_;refine gR 1 I<|gHR 5 (ac.vs [b]) I (ac.vone b) I ?_;obtain⟨hb,h⟩:=h;refine gDo (.repl 2<|.row 24 4<|ac.vs<|c++[b]) (bI ai I I I I I (ac.vapp c [b]).symm (by rw[ac.vlen];exact hb)) (okR I) I I I<|gR 6 I ?_;obtain⟨hb,h⟩:=h;exact gR 1 I<|gV 105 (qi ((d+1:Nat):Int)) I (am (by omega)<|by omega) I<|gR 2 I<|go_xloop<|qJH J (h K _ _ _ J (by omega) (by omega)<|by omega) [0,1,6] ⟨⟨_,I,⟨I,I,(ac.vren _<|c++[b]).symm⟩⟩,⟨⟨_,I,⟨I,aD.rfl⟩⟩,⟨⟨_,I,⟨I,aD.rfl⟩⟩,trivial⟩⟩⟩;refine gR 3 I<|go_xloopE<|gR 9 I<|gFR 2 I (ac.vpure _) I I ?_;obtain⟨β,γ,e,ο,h⟩:=h;refine qC0 ο rfl<|gR 14 rfl<|gB 142 rfl rfl rfl ?_ ?_<;>intro G;refine gT 16 I G I ?_;refine gT 141 I G I ?_;replace h:=h.1 G;refine gR 4 rfl<|qXhZ 146 145 rfl rfl rfl rfl h cz bH ?_ ?_<;>intro G h;refine gR 4 rfl<|qXhZ 150 149 rfl rfl rfl rfl h cz bH ?_ ?_<;>intro G h;refine gR 5 rfl<|qXh 153 rfl rfl rfl h cz bH ?_ ?_<;>intro G h;refine gR 9 I<|go_xloopR<|gR 3 I<|go_xloopR<|gR 2 I ?_;subst h;exact qN [.tmp 6];refine gR 6 I ?_;obtain⟨hb,h⟩:=h;exact gR 1 I<|gV 84 (qi ((a+1:Nat):Int)) I (am (by omega)<|by omega) I<|gR 2 I<|go_xloop<|qJ J (h K _ _ J (by omega)<|by omega) [];refine gR 11 I ?_;obtain⟨hb,h⟩:=h;exact gR 1 I<|gV 84 (qi ((a+1:Nat):Int)) I (am (by omega)<|by omega) I<|gR 2 I<|go_xloop<|qJ J (h K _ _ J (by omega)<|by omega) [];refine gR 15 I ?_;obtain⟨hb,h⟩:=h;exact gR 1 I<|gV 84 (qi ((a+1:Nat):Int)) I (am (by omega)<|by omega) I<|gR 2 I<|go_xloop<|qJ J (h K _ _ J (by omega)<|by omega) [];refine gF 16 I G I ?_;refine gF 141 I G I ?_;replace h:=h.2 G;refine gR 19 I ?_;obtain⟨hb,h⟩:=h;exact gR 1 I<|gV 84 (qi ((a+1:Nat):Int)) I (am (by omega)<|by omega) I<|gR 2 I<|go_xloop<|qJ J (h K _ _ J (by omega)<|by omega) []
def iu(m:Nat)(G:Tree)(a:YT)(b:Nat)(J:YT):Prop:=z7 m [] f30 (q9<|.row 4<|kidsV J) (xI<|aj f30) [.blk 0,.seq<|xH<|aj f30] 23 [(1,.box (ao G) 0),(3,.sl 0),(4,qi (b:Int))] ⟨1,[(0,.row 35 4<|kidsV a)]⟩
theorem xu(m:Nat)(p0:Tree)(r0:YT)(h:iu m p0 [p0] 0 r0):iW p0 r0:=by
 refine⟨I,I,?_⟩;refine qA 23 [] func30 λK hK=>?_;exact gR 3 I<|gFP 0 I I I I<|gR 7 I<|gHR 1 (kidsV [p0]) I (eg p0) I<|gR 10 I<|go_loop m<|qW hK h [1]
theorem pR(m:Nat)(G:Tree)(b:YT)(a:Nat)(J:YT)(h:y5 (a<G.kids.length) (∃d,G.kids[a]?=some d∧∃c,iW d c∧(b++c).length<=1000000000∧iu m G (b++c) (a+1) J)<|b=J):iu (m+1) G b a J:=by
 refine qj λK Z O i=>?_;refine gR 7 rfl<|gV 10 (qi (G.kids.length:Int)) rfl (aP<|aJ _) rfl<|gLB 9 rfl (aJ _) λf=>gR 3 rfl<|qXh 11 rfl rfl rfl h cg ch ?_ ?_<;>intro hd h;refine gR 10 I ?_;obtain⟨d,e,h⟩:=h;refine gY (aI (ay e) ai I I I I) I I<|gR 1 I ?_;obtain⟨c,g,h⟩:=h;refine qC0 g I ?_;obtain⟨hb,h⟩:=h;exact gDo (.repl 0<|.row 35 4<|kidsV<|b++c) (bI ai I I I I I (jB _ _).symm (by rw[aJ];exact hb)) (okR I) I I I<|gR 7 I<|gV 13 (qi ((a+1:Nat):Int)) I (am (by have :=f;omega)<|by omega) I<|gR 2 I<|go_xloop<|qW O h [1];refine gR 3 I<|go_xloopE<|gR 9 I<|gFR 0 I (bu _) I I ?_;subst h;exact qN [.tmp 2]
variable{t:Tree}{i:Nat}
theorem jr(h:i<t.kids.length):t.kids[i]?=some (aM t i):=by simp only[aM,List.getD_eq_getElem?_getD];rw[List.getElem?_eq_getElem h];rfl
variable{u:Tree}
theorem li{l:YT}{z:Tree}(h:l[i]?=some u):l.getD i z=u:=by rw[List.getD_eq_getElem?_getD,h];rfl
def rC(t:Tree):Prop:=shapeK t=true∧fv t.kind=true
theorem tv{n:Int}{a b c:Nat}{z:Int}(h:0<=f0 n a b c z):(a:Int)<=n∧(0<=z->n<=z):=by
 unfold f0 at h;split at h
 ·omega
 ·split at h
  ·omega
  ·exact⟨by omega,λG=>by omega⟩
theorem Mn(h:rC t):(t.kind=22->t.kids.length=1)∧(t.kind=20->t.kids.length=2)∧(t.kind=19->t.kids.length=3)∧(t.kind=21->t.kids.length=2):=by
 obtain⟨hs,J⟩:=h;rw[aY]at hs;simp only[aaa,aaj]at hs;have G:=hs.1.1;refine⟨λe=>?_,λe=>?_,λe=>?_,λe=>?_⟩
 ·rw[e]at G;have :=tv<|show 0<=f0 t.kids.length 1 2 0 1 from G;omega
 ·rw[e]at G;have :=tv<|show 0<=f0 t.kids.length 2 4 0 2 from G;omega
 ·rw[e]at G;have :=tv<|show 0<=f0 t.kids.length 3 3 0 3 from G;omega
 ·rw[e]at G;have :=tv<|show 0<=f0 t.kids.length 2 1 0 2 from G;omega
theorem FB(h:rC t)(hu:t.kids[i]?=some u)(h16:t.kind≠16):rC u∧u.kind≠17:=by
  obtain⟨hs,hk⟩:=h;rw[aY]at hs;simp only[aaa,aaj]at hs;obtain⟨g1,g2⟩:=cf hs.2 hu;have hk':10<=t.kind∧t.kind<=22∧t.kind≠17:=by simpa[fv]using hk
  have e:fv u.kind=true:=by
    simp only[fi]at g1;rw[if_neg (by omega),if_neg (by omega),if_neg (by omega),if_neg h16]at g1;split at g1
    · simp only[Bool.or_eq_true,Bool.and_eq_true,beq_iff_eq,uI]at g1;rcases g1 with g|⟨_,g⟩
      ·exact g.1
      ·rw[g];rfl
    ·exact g1
  exact ⟨⟨g2, e⟩, by have :10<=u.kind∧u.kind<=22∧u.kind≠17:=by simpa[fv   ]using e
                     exact this.2.2⟩
theorem EG(h:rC t)(hu:t.kids[i]?=some u)(J:t.kind=16):u.kind=17∧u.kids.length=1∧rC (aM u 0):=by
 obtain⟨hs,hk⟩:=h;rw[aY]at hs;simp only[aaa,aaj]at hs;obtain⟨O,G⟩:=cf hs.2 hu;have e:u.kind=17:=by rw[J]at O;simpa[fi]using O
 rw[aY]at G;simp only[aaa,aaj]at G;have Z:=G.1.1;rw[e]at Z;have :=tv<|show 0<=f0 u.kids.length 1 0 0 1 from Z;have h1:u.kids.length=1:=by omega
 obtain⟨g3,g4⟩:=cf G.2 (jr (t:=u) (i:=0)<|by omega);rw[e]at g3;exact⟨e,h1,g4,by simpa[fi]using g3⟩
theorem NA(h:rC t)(J:t.kids[i]?=some u):rC (fF u)∧(fF u).kind≠17∧tbulk (fF u)<=tbulk u∧(u.kind=17↔t.kind=16):=by
 by_cases G:t.kind=16
 ·obtain⟨h1,h2,O⟩:=EG h J G;rw[fF,if_pos h1];have Z:10<=(aM u 0).kind∧(aM u 0).kind<=22∧(aM u 0).kind≠17:=by simpa[fv]using O.2
  have :=aF (jr (t:=u) (i:=0)<|by omega);exact⟨O,Z.2.2,by omega,λ_=>G,λ_=>h1⟩
 ·obtain⟨h1,h2⟩:=FB h J G;rw[fF,if_neg h2];exact⟨h1,h2,aaf _,λh=>absurd h h2,λh=>absurd h G⟩
theorem My(h:rC t):(t.kind=10->bi t.text=5)∧(t.kind=11->bi t.text=6)∧(t.kind=16->bi t.text=1∨bi t.text=3)∧(t.kind=21->t.text=[43]∨t.text=[45]∨t.text=[42]∨t.text=[60]∨t.text=[61,61]):=by
 obtain⟨hs,J⟩:=h;rw[aY]at hs;simp only[aaa,aaj]at hs;have G:=hs.1.2;refine⟨λe=>?_,λe=>?_,λe=>?_,λe=>?_⟩
 ·rw[e]at G;simp[iQ]at G;omega
 ·rw[e]at G;simp[iQ]at G;omega
 ·rw[e]at G;simp[iQ]at G;omega
 ·rw[e]at G;simpa[iQ,uH,or_assoc]using G
theorem Tp{w:YB}(h:bi w=5):spanN br w=w.length∧w.length<=15∧w≠[]:=by
 unfold bi at h;split at h
 ·omega
 rename_i J;split at h
 ·rename_i G;unfold tokenT at h G;simp only[]at h G;by_cases a1:be (w.getD 0 0)=false
  ·rw[if_pos a1]at h;simp at h
  rw[if_neg a1]at h G;by_cases O:bB (w.getD 0 0)=true
  ·rw[if_pos O]at h;unfold bO dx bM at h
   repeat' split at h
   all_goals simp at h
  rw[if_neg O]at h G;by_cases Z:br (w.getD 0 0)=true
  ·rw[if_pos Z]at G;simp only[eO]at G
   repeat' split at G
   all_goals simp at G
   all_goals first|exact⟨G,by omega,J⟩|omega
  rw[if_neg Z]at h
  repeat' split at h
  all_goals simp at h
 ·omega
theorem Bz:∀(l:YB) (i:Nat),(quotedT l i).2=0->i+1<=(quotedT l i).1
 |[],i,h=>by simp[quotedT]at h
 | c ::r,i,h=>by
  unfold quotedT at h⊢;split
  ·rw[if_pos<|by assumption]at h;simp at h
  ·rw[if_neg<|by assumption]at h;split
   ·exact aaf _
   ·rw[if_neg<|by assumption]at h;split
    ·rw[if_pos<|by assumption]at h;simp at h
    ·rw[if_neg<|by assumption]at h;have :=Bz r (i+1) h;omega
theorem Tt{w:YB}(h:bi w=6):2<=w.length:=by
 unfold bi at h;split at h
 ·omega
 split at h
 ·rename_i G;unfold tokenT at h G;simp only[]at h G;by_cases a1:be (w.getD 0 0)=false
  ·rw[if_pos a1]at h;simp at h
  rw[if_neg a1]at h G;by_cases J:bB (w.getD 0 0)=true
  ·rw[if_pos J]at h;unfold bO dx bM at h
   repeat' split at h
   all_goals simp at h
  rw[if_neg J]at h G;by_cases O:br (w.getD 0 0)=true
  ·rw[if_pos O]at h;simp at h
  rw[if_neg O]at h G;by_cases Z:(w.getD 0 0).toNat=34
  ·rw[if_pos Z]at G;have :=Bz w.tail 1 G.1;have h2:(quotedT w.tail 1).1=w.length:=G.2;omega
  rw[if_neg Z]at h
  repeat' split at h
  all_goals simp at h
 ·omega
variable{p:YT}{m:Int}
theorem PB{w:YB}(h:(aC p m w).2.2=true):∃(i d:Nat) (t a:Tree),(aC p m w).1=(i:Int)∧(aC p m w).2.1=(d:Int)∧p[i]?=some t∧t.kids[d]?=some a:=by
 have key:∀(m:Int) (w:YB),(inK p m w).2.2=true->∃(i d:Nat) (t a:Tree),(inK p m w).1=(i:Int)∧(inK p m w).2.1=(d:Int)∧p[i]?=some t∧t.kids[d]?=some a:=λm w h=>by
  unfold inK at h⊢;split at h
  ·cases h
  ·rename_i hm;rw[if_neg hm];cases hp:p[m.toNat]? with
   |none=>rw[hp]at h;cases h
   | some t=>
    rw[hp]at h;simp only at h⊢;split at h
    ·cases h
    ·rename_i hn;rw[if_neg hn];rcases qM w t.kids 0 with g|⟨k,a,g1,g2,_⟩
     ·omega
     ·exact⟨m.toNat,k,t,a,by simp;omega,by simp[g1],hp,g2⟩
 unfold aC at h⊢;split at h
 ·rw[if_pos<|by assumption];exact key _ _ h
 ·rw[if_neg<|by assumption];exact key _ _ h
theorem PI(Z:bn p=true){d:Nat}{a:Tree}(ht:p[i]?=some t)(O:t.kids[d]?=some a):a.kind=2∨a.kids.length=1:=by
 obtain⟨t1,G⟩:=dk Z ht;rcases mz t1 G O with⟨k2,_⟩|⟨k3,_⟩
 ·exact .inl k2
 ·right;rw[aY]at G;simp only[aaa]at G;obtain⟨_,J⟩:=cf G.2 O;rw[aY,k3]at J;simp only[aaa,aaj]at J;have :=tv<|show 0<=f0 a.kids.length 1 3 0 1 from J.1.1;omega
theorem FJ(Z:bn p=true){d n:Nat}{a:Tree}(ht:p[i]?=some t)(ha:t.kids[d]?=some a)(hn:a.kids.length=n+2):a.kind=2∧rC (aM a<|n+1):=by
 have h2:a.kind=2:=by rcases PI Z ht ha with h|h<;>omega
 obtain⟨t1,G⟩:=dk Z ht;rw[aY]at G;simp only[aaa]at G;obtain⟨_,J⟩:=cf G.2 ha;rw[aY,h2]at J;simp only[aaa]at J;obtain⟨O,g4⟩:=cf J.2 (jr (t:=a) (i:=n+1)<|by omega);refine⟨h2,g4,?_⟩;simp only[fi]at O;rw[if_neg (by decide),if_pos (by decide),if_pos<|by omega]at O;exact O
open Go.RowKit Go.Shelf Lx Sx
def Sk:Go.Shelf.Ren:=⟨fun|174=>102|247=>150|245=>151|287=>180|279=>181|280=>182|281=>183|282=>184|321=>204|322=>205|316=>206|171=>208|205=>207|243=>217|246=>220|283=>221|284=>222|285=>223|286=>224|129=>226|317=>225|318=>227|319=>228|320=>229|337=>230|338=>231|n=>n,fun|9=>9|3=>3|2=>2|75=>161|85=>162|4=>4|167=>221|5=>5|53=>222|175=>223|46=>212|168=>225|37=>231|0=>0|210=>233|21=>21|127=>239|145=>242|143=>240|171=>247|173=>250|212=>253|51=>243|20=>20|213=>254|232=>257|233=>258|80=>259|n=>n,fun|15=>3|16=>4|17=>6|18=>7|19=>8|n=>n⟩
theorem Rz:Go.Proofs.LaysC.n174 prog Sk:={
 mixed:=by kernel_rfl
 f129:=func226.trans (congrArg some<|by kernel_rfl)
 f171:=func208.trans (congrArg some<|by kernel_rfl)
 f174:=func102.trans (congrArg some<|by kernel_rfl)
 f205:=func207.trans (congrArg some<|by kernel_rfl)
 f243:=func217.trans (congrArg some<|by kernel_rfl)
 f245:=func151.trans (congrArg some<|by kernel_rfl)
 f246:=func220.trans (congrArg some<|by kernel_rfl)
 f247:=func150.trans (congrArg some<|by kernel_rfl)
 f279:=func181.trans (congrArg some<|by kernel_rfl)
 f280:=func182.trans (congrArg some<|by kernel_rfl)
 f281:=func183.trans (congrArg some<|by kernel_rfl)
 f282:=func184.trans (congrArg some<|by kernel_rfl)
 f283:=func221.trans (congrArg some<|by kernel_rfl)
 f284:=func222.trans (congrArg some<|by kernel_rfl)
 f285:=func223.trans (congrArg some<|by kernel_rfl)
 f286:=func224.trans (congrArg some<|by kernel_rfl)
 f287:=func180.trans (congrArg some<|by kernel_rfl)
 f316:=func206.trans (congrArg some<|by kernel_rfl)
 f317:=func225.trans (congrArg some<|by kernel_rfl)
 f318:=func227.trans (congrArg some<|by kernel_rfl)
 f319:=func228.trans (congrArg some<|by kernel_rfl)
 f320:=func229.trans (congrArg some<|by kernel_rfl)
 f321:=func204.trans (congrArg some<|by kernel_rfl)
 f322:=func205.trans (congrArg some<|by kernel_rfl)
 f337:=func230.trans (congrArg some<|by kernel_rfl)
 f338:=func231.trans (congrArg some<|by kernel_rfl)
 t0:=underlying0
 a0:=isAgg0
 z0:=sizeOf0
 v0:=zeroValue0
 t2:=underlying2
 a2:=isAgg2
 z2:=sizeOf2
 v2:=zeroValue2
 t3:=underlying3
 a3:=isAgg3
 z3:=sizeOf3
 v3:=zeroValue3
 t4:=underlying4
 a4:=isAgg4
 z4:=sizeOf4
 v4:=zeroValue4
 t5:=underlying5
 a5:=isAgg5
 z5:=sizeOf5
 v5:=zeroValue5
 t9:=underlying9
 a9:=isAgg9
 z9:=sizeOf9
 v9:=zeroValue9
 t20:=underlying20
 a20:=isAgg20
 z20:=sizeOf20
 v20:=zeroValue20
 t21:=underlying21
 a21:=isAgg21
 z21:=sizeOf21
 v21:=zeroValue21
 t37:=underlying231
 a37:=isAgg231
 z37:=sizeOf231
 v37:=zeroValue231
 t46:=underlying212
 a46:=isAgg212
 z46:=sizeOf212
 v46:=zeroValue212
 t51:=underlying243
 a51:=isAgg243
 z51:=sizeOf243
 v51:=zeroValue243
 t53:=underlying222
 a53:=isAgg222
 z53:=sizeOf222
 v53:=zeroValue222
 t75:=underlying161
 a75:=isAgg161
 z75:=sizeOf161
 v75:=zeroValue161
 t85:=underlying162
 a85:=isAgg162
 z85:=sizeOf162
 v85:=zeroValue162
 t127:=underlying239
 a127:=isAgg239
 z127:=sizeOf239
 v127:=zeroValue239
 t143:=underlying240
 a143:=isAgg240
 z143:=sizeOf240
 v143:=zeroValue240
 t145:=underlying242
 a145:=isAgg242
 z145:=sizeOf242
 v145:=zeroValue242
 t167:=underlying221
 a167:=isAgg221
 z167:=sizeOf221
 v167:=zeroValue221
 t168:=underlying225
 a168:=isAgg225
 z168:=sizeOf225
 v168:=zeroValue225
 t171:=underlying247
 a171:=isAgg247
 z171:=sizeOf247
 v171:=zeroValue247
 t173:=underlying250
 a173:=isAgg250
 z173:=sizeOf250
 v173:=zeroValue250
 t175:=underlying223
 a175:=isAgg223
 z175:=sizeOf223
 v175:=zeroValue223
 t210:=underlying233
 a210:=isAgg233
 z210:=sizeOf233
 v210:=zeroValue233
 t212:=underlying253
 a212:=isAgg253
 z212:=sizeOf253
 v212:=zeroValue253
 t213:=underlying254
 a213:=isAgg254
 z213:=sizeOf254
 t232:=underlying257
 a232:=isAgg257
 z232:=sizeOf257
 v232:=zeroValue257
 t233:=underlying258
 a233:=isAgg258
 z233:=sizeOf258
 v233:=zeroValue258
 g15:=by kernel_rfl
 g16:=by kernel_rfl
 g17:=by kernel_rfl
 g18:=by kernel_rfl
 g19:=by kernel_rfl
 t80:=underlying259
 a80:=isAgg259
 z80:=sizeOf259
 v80:=zeroValue259
 i0:=by kernel_rfl
 i2:=by kernel_rfl
 i3:=by kernel_rfl
 i4:=by kernel_rfl
 i5:=by kernel_rfl
 i9:=by kernel_rfl
 i20:=by kernel_rfl
 i21:=by kernel_rfl
 i37:=by kernel_rfl
 i46:=by kernel_rfl
 i51:=by kernel_rfl
 i53:=by kernel_rfl
 i75:=by kernel_rfl
 i80:=by kernel_rfl
 i85:=by kernel_rfl
 i127:=by kernel_rfl
 i143:=by kernel_rfl
 i145:=by kernel_rfl
 i167:=by kernel_rfl
 i168:=by kernel_rfl
 i171:=by kernel_rfl
 i173:=by kernel_rfl
 i175:=by kernel_rfl
 i210:=by kernel_rfl
 i212:=by kernel_rfl
 i232:=by kernel_rfl
 i233:=by kernel_rfl
 m15:=by kernel_rfl
 m16:=by kernel_rfl
 m17:=by kernel_rfl
 m18:=by kernel_rfl
 m19:=by kernel_rfl
 c0:=by kernel_rfl
 c2:=by kernel_rfl
 c3:=by kernel_rfl
 c4:=by kernel_rfl
 c5:=by kernel_rfl
 c9:=by kernel_rfl
 c20:=by kernel_rfl
 c21:=by kernel_rfl
 c37:=by kernel_rfl
 c46:=by kernel_rfl
 c51:=by kernel_rfl
 c53:=by kernel_rfl
 c75:=by kernel_rfl
 c80:=by kernel_rfl
 c85:=by kernel_rfl
 c127:=by kernel_rfl
 c143:=by kernel_rfl
 c145:=by kernel_rfl
 c167:=by kernel_rfl
 c168:=by kernel_rfl
 c171:=by kernel_rfl
 c173:=by kernel_rfl
 c175:=by kernel_rfl
 c210:=by kernel_rfl
 c212:=by kernel_rfl
 c213:=by kernel_rfl
 c232:=by kernel_rfl
 c233:=by kernel_rfl}
theorem Gv{l:YB}{v:Int}(h:Lib.parseIntB 64 l=.ok v)(Z:l.length<=1000000000):mX l 10 64 v ():=sum0_calls rfl rfl λS w ρ xs hx=>by
 simp only[LRel]at hx;obtain⟨x,ys,rfl,h1,y,zs,rfl,h2,z,us,rfl,G,rfl⟩:=hx;simp only[VRel]at h1 h2 G;subst h1 h2 G;refine(Any.strconv_ParseInt_10_at64_ok Rz ⟨l.toArray⟩ (by show l.toArray.size<=_;simp;omega) v (by simpa using h) w).mono λe w' ⟨J,O⟩=>⟨_,J,?_,?_⟩
 ·simp only[VRel,LRel];exact⟨_,I,_,_,I,I,_,_,I,⟨I,I⟩,I⟩
 ·rcases O with rfl|⟨t,rfl⟩
  ·exact Chg.refl _ _
  ·exact BN<|Lib.bytesWorld_below _ _ _
theorem Ct{p:UInt8->Bool}{c:UInt8}{r:YB}(h:spanN p (c::r)=(c::r).length):p c=true∧spanN p r=r.length:=by
 simp only[spanN,List.takeWhile_cons,aac]at h⊢;cases G:p c with
 |false=>rw[G]at h;simp at h
 |true=>rw[G]at h;simp at h;exact⟨rfl,h⟩
theorem KK:∀(l:YB) (a:Nat),spanN br l=l.length->(a+1)*10^l.length<=1000000000000000->∃n:Nat,n<(a+1)*10^l.length∧BQ l a=n∧Lib.parseUintM (2^64-1) a l=.ok n
 |[],a,_,hb=>⟨a,by simp,rfl,rfl⟩
 | c::r,a,h,hb=>by
  have hc:br c=true∧spanN br r=r.length:=Ct h;have hd:48<=c.toNat∧c.toNat<=57:=by simpa[br]using hc.1
  have hp:1<=10^r.length:=Nat.one_le_pow _ _ (by omega);rw[aac,Nat.pow_succ]at hb;have h1:(a*10+(c.toNat-48)+1)*10^r.length<=(a+1)*(10^r.length*10):=by rw[Nat.mul_comm (10^r.length) 10,<-Nat.mul_assoc];exact Nat.mul_le_mul_right _ (by omega)
  have h2:(a+1)*1<=(a+1)*(10^r.length*10):=Nat.mul_le_mul_left _ (by omega);obtain⟨n,n1,n2,n3⟩:=KK r (a*10+(c.toNat-48)) hc.2 (by omega);refine⟨n,?_,?_,?_⟩
  ·rw[aac,Nat.pow_succ];omega
  ·rw[BQ,<-n2];congr 1;omega
  ·rw[Lib.parseUintM,if_pos hd,if_neg (by omega),if_neg (by
    have h3:(a*10+(c.toNat-48)+1)*1<=(a*10+(c.toNat-48)+1)*10^r.length:=Nat.mul_le_mul_left _ hp;omega)]
   exact n3
theorem JY{w:YB}(h:bi w=5):mX w 10 64 (BQ w 0) ():=by
 obtain⟨h1,h2,J⟩:=Tp h;have hp:10^w.length<=10^15:=Nat.pow_le_pow_right (by omega) h2;obtain⟨n,n1,O,Z⟩:=KK w 0 h1 (by omega);refine Gv ?_ (by omega);cases w with
 |nil=>exact absurd rfl J
 |cons c r=>
  have hc:br c=true:=(Ct h1).1;have hd:48<=c.toNat∧c.toNat<=57:=by simpa[br]using hc
  have e1:¬(c.toNat=43∨c.toNat=45):=by omega
  have e2:¬c.toNat=45:=by omega
  have hn:n<10^15:=by omega
  simp only[Lib.parseIntB,if_neg e1,Lib.parseUintB,if_neg<|List.cons_ne_nil c r];have G:Lib.parseUintM (2^64-1) 0 (c::r)=.ok n:=Z;rw[G];simp only[e2,not_false_eq_true,true_and,false_and,if_false];rw[if_neg<|by omega];exact congrArg _ O.symm
mutual
def nD:ac->Nat
 |.mk _ _ _ l=>1+nDs l
def nDs:List ac->Nat
 |[]=>0
 |d::r=>nD d+nDs r
end
theorem Dz(d:ac):nD d=1+nDs d.L:=by cases d;simp[nD]
theorem PQ(d:ac):1<=nD d:=by rw[Dz];omega
theorem LC:∀{l:List ac} {x:ac},x∈l->nD x<=nDs l
 |a::r,x,h=>by
  simp only[nDs];rcases List.mem_cons.1 h with rfl|h
  ·omega
  ·have :=LC h;omega
theorem Hf:∀l:List ac,l.length<=nDs l
 |[]=>aaf _
 |a::r=>by have :=Hf r;have :=PQ a;simp only[nDs,aac];omega
theorem Kz:∀l:List ac,(∀x∈l,nD x<=wD x)->nDs l<=wDs l
 |[],_=>by simp[nDs,wDs]
 |a::r,h=>by have h1:=h a (by simp);have h2:=Kz r λx hx=>h x (by simp[hx]);simp only[nDs,wDs];omega
theorem Im:∀d,nD d<=wD d:=Bu λd ih=>by rw[Dz,zC];have :=Kz d.L ih;omega
theorem Ku(d:ac):d.L.length<nD d:=by have :=Hf d.L;rw[Dz];omega
theorem KJ{d x:ac}(h:d.L[i]?=some x):nD x<nD d:=by have :=LC<|List.mem_of_getElem? h;rw[Dz d];omega
theorem On:∀(d:ac) (lim:Nat),1<=lim->lim<=1000000->qx d lim (min lim (wD d):Nat):=Bu λd ih lim h1 h2=>by
 have loop:∀m i (z:Nat),d.L.length-i<=m->i<z->z<=lim->oH (m+1) d lim z i (min lim (z+wDs (d.L.drop i)):Nat):=λm=>by
  induction m with
  |zero=>
   intro i z hi hiz hz;refine vU 0 _ _ _ _ _ ⟨λh=>by omega,λh=>?_⟩;rw[List.drop_of_length_le (by omega),wDs];omega
  | succ m ihm=>
   intro i z hi hiz hz;refine vU (m+1) _ _ _ _ _ ⟨λh=>?_,λh=>?_⟩
   ·obtain⟨u,hu,hl⟩|h':=aV d.L i
    ·rw[aX hu,wDs];refine⟨u,hu,λhle=>by omega,λhlt=>⟨by constructor<;>omega,((min (lim-z) (wD u):Nat):Int),?_,?_,by omega,?_⟩⟩
     ·rw[show((lim:Int)-(z:Int))=((lim-z:Nat):Int) by omega];exact ih u (List.mem_of_getElem? hu) (lim-z) (by omega) (by omega)
     ·constructor<;>omega
     ·have hwu:=LI u;have :=ihm (i+1) (z+min (lim-z) (wD u)) (by omega) (by omega) (by omega);rw[show((z:Int)+((min (lim-z) (wD u):Nat):Int))=((z+min (lim-z) (wD u):Nat):Int) by omega,show min lim (z+(wD u+wDs (d.L.drop<|i+1)))=min lim (z+min (lim-z) (wD u)+wDs (d.L.drop<|i+1)) by omega];exact this
    ·exact absurd h h'
   ·rw[List.drop_of_length_le (by omega),wDs];omega
 refine Du (d.L.length+1) _ _ _ ⟨by constructor<;>omega,λh=>?_,λh=>⟨by omega,?_⟩⟩
 ·rw[zC];omega
 ·have :=loop d.L.length 0 (1+d.S.length) (by omega) (by omega) (by omega);rw[List.drop_zero,<-zC]at this;exact this
theorem FL(d:ac):oM d (min 4097 (wD d):Nat):=BF 0 _ _ ⟨_,On d 4097 (by omega) (by omega),rfl⟩
theorem Mr:∀d:ac,nD d<=1000000000->oQ d (formD d):=Bu λd ih hn=>by
 have hlen:=Ku d;have loop:∀m i,d.L.length-i<=m->nj (m+1) d i (formDs (d.L.drop i)&&d.S==[]&&d.N==0):=λm=>by
  induction m with
  |zero=>
   intro i hi;refine uQ 0 _ _ _ ⟨λh=>by omega,λh=>?_⟩;rw[List.drop_of_length_le (by omega),formDs];exact⟨λe=>by simp[e],λe=>by simp[e]⟩
  | succ m ihm=>
   intro i hi;refine uQ (m+1) _ _ _ ⟨λh=>?_,λh=>?_⟩
   ·obtain⟨u,hu,hl⟩|h':=aV d.L i
    ·rw[aX hu,formDs];have :=KJ hu;refine⟨u,hu,_,ih u (List.mem_of_getElem? hu) (by omega),λe=>by simp[e],λe=>⟨by omega,?_⟩⟩;rw[e,Bool.true_and];exact ihm (i+1) (by omega)
    ·exact absurd h h'
   ·rw[List.drop_of_length_le (by omega),formDs];exact⟨λe=>by simp[e],λe=>by simp[e]⟩
 refine Cn (d.L.length+1) _ _ ⟨λh=>?_,λh=>⟨λh2=>?_,λh2=>⟨λh3=>?_,λh3=>⟨λh4=>?_,λh4=>?_⟩⟩⟩⟩
 ·rw[tS,if_pos h];exact⟨λe=>by simp[e],λe=>by simp[e]⟩
 ·rw[tS,if_neg h,if_pos h2];exact⟨λe=>by simp[e],λe=>by simp[e]⟩
 ·rw[tS,if_neg h,if_neg h2,if_pos h3];exact⟨λe=>⟨λe1=>⟨λe2=>by simp[e,e1,e2],λe2=>by simp[e,e1,e2]⟩,λe1=>by simp[e];exact λq=>absurd (by rw[q];rfl) e1⟩,λe=>by simp[e]⟩
 ·rw[tS,if_neg h,if_neg h2,if_neg h3,if_pos h4];exact loop d.L.length 0 (by omega)
 ·rw[tS,if_neg h,if_neg h2,if_neg h3,if_neg h4]
def gq(d:ac):Bool:=decide (wD d<=4096)&&formD d
theorem GF(d:ac):qU d (gq d):=Dq 0 _ _ ⟨_,FL d,λh=>⟨_,Mr d (by have :=Im d;omega),by unfold gq;rw[decide_eq_true (by omega),Bool.true_and]⟩,λh=>by unfold gq;rw[decide_eq_false (by omega),Bool.false_and]⟩
theorem Ko:∀a:ac,nD a<=1000000000->∀b,nX a b (sameD a b):=Bu λa ih hn b=>by
 have hlen:=Ku a;rw[NH];refine Ed (a.L.length+1) _ _ _ ⟨λh=>by simp[h],λh=>⟨λh2=>by simp[h2],λh2=>⟨λh3=>by simp[h3],λh3=>⟨λh4=>by simp[h4],λh4=>?_⟩⟩⟩⟩;rw[show(a.Kind==b.Kind&&a.N==b.N&&a.S==b.S&&a.L.length==b.L.length)=true by simp[h,h2,h3,h4],Bool.true_and];have loop:∀m i,a.L.length-i<=m->rm (m+1) a b i (sameDs (a.L.drop i)<|b.L.drop i):=λm=>by
  induction m with
  |zero=>
   intro i hi;refine xZ 0 _ _ _ _ ⟨λh=>by omega,λh=>?_⟩;rw[List.drop_of_length_le (by omega),sameDs]
  | succ m ihm=>
   intro i hi;refine xZ (m+1) _ _ _ _ ⟨λh=>?_,λh=>?_⟩
   ·obtain⟨u,hu,hl⟩|h':=aV a.L i
    ·obtain⟨v,hv,_⟩|h'':=aV b.L i
     ·rw[aX hu,aX hv,sameDs];have :=KJ hu;refine⟨u,hu,v,hv,_,ih u (List.mem_of_getElem? hu) (by omega) v,λe=>by simp[e],λe=>⟨by omega,?_⟩⟩;rw[e,Bool.true_and];exact ihm (i+1) (by omega)
     ·omega
    ·exact absurd h h'
   ·rw[List.drop_of_length_le (by omega),sameDs]
 exact loop a.L.length 0 (by omega)
theorem QI(d:ac):ac.mk d.Kind d.N d.S d.L=d:=by cases d;rfl
theorem MN:∀d:ac,wD d<=1000000000->oP d d:=Bu λd ih hd=>by
 rw[zC]at hd;have hlen:=GY d.L;have loop:∀m i l,d.L.length-i<=m->i<=d.L.length->l=d.L.take i->nf (m+1) d l i d:=λm=>by
  induction m with
  |zero=>
   intro i l hi hle hl;refine uX 0 _ _ _ _ ⟨λh=>by omega,λh=>?_⟩;rw[hl,List.take_of_length_le<|by omega];exact QI d
  | succ m ihm=>
   intro i l hi hle hl;refine uX (m+1) _ _ _ _ ⟨λh=>?_,λh=>?_⟩
   ·obtain⟨u,hu,hlt⟩|h':=aV d.L i
    ·have :=Me<|List.mem_of_getElem? hu;have hl2:l++[u]=d.L.take (i+1):=by rw[hl,List.take_add_one,hu];rfl
     refine⟨u,hu,u,ih u (List.mem_of_getElem? hu) (by omega),?_,by omega,ihm (i+1) _ (by omega) (by omega) hl2⟩;rw[hl2,aak];omega
    ·exact absurd h h'
   ·rw[hl,List.take_of_length_le<|by omega];exact QI d
 exact BW _ _ _ (loop d.L.length 0 [] (by omega) (by omega)<|by simp)
theorem wO(n:Int):dM n (dI n):=wu 0 _ _ rfl
section
variable{p:YT}{g:Nat}{m:Int}{t:Tree}{env:List Bnd}{r:Nat}
theorem ND:evG p (g+1) m t env 0=(GD0,21,0):=by rw[evG]
theorem IW(h:t.kind=10):evG p (g+1) m t env (r+1)=(dI<|BQ t.text 0,0,r):=by simp[evG,h]
theorem JU(h:t.kind=11):evG p (g+1) m t env (r+1)=(⟨2,0,(t.text.drop 1).take<|t.text.length-1-1,[]⟩,0,r):=by simp[evG,h]
theorem IX(h:t.kind=13):evG p (g+1) m t env (r+1)=(dB true,0,r):=by simp[evG,h]
theorem JP(h:t.kind=14):evG p (g+1) m t env (r+1)=(dB false,0,r):=by simp[evG,h]
theorem Ig(h:t.kind=22):evG p (g+1) m t env (r+1)=evG p g m (aM t 0) env r:=by simp[evG,h]
theorem Iu(h:t.kind=12):evG p (g+1) m t env (r+1)=(match pd env t.text with|some d=>(d,0,r)|none=>(GD0,7,r)):=by simp only[evG,h];rfl
theorem Iv(h:t.kind=20):evG p (g+1) m t env (r+1)=(match evG p g m (aM t 0) env r with|(d,e,G)=>if e=0 then evG p g m (aM t 1) ((t.text,d)::env) G else(GD0,e,G)):=by simp only[evG,h];rfl
theorem Kc(h:t.kind=19):evG p (g+1) m t env (r+1)=(match evG p g m (aM t 0) env r with|(d,e,G)=>if e=0 then(if d.Kind=3 then(if d.N=1 then evG p g m (aM t 1) env G else evG p g m (aM t 2) env G)else(GD0,20,G))else(GD0,e,G)):=by simp only[evG,h];rfl
theorem JN(h:t.kind=18):evG p (g+1) m t env (r+1)=(match evL (λk r=>evG p g m k env r) t.kids r with|(l,e,G)=>if e=0 then(if 4096<1+wDs l then(GD0,3,G)else(⟨4,0,[],l⟩,0,G))else(GD0,e,G)):=by simp only[evG,h];rfl
theorem ID(h:t.kind=16):evG p (g+1) m t env (r+1)=(match evL (λk r=>evG p g m k env r) t.kids r with|(l,e,G)=>if e=0 then(if(aC p m t.text).2.2=true then(if(fm p (aC p m t.text).1 (aC p m t.text).2.1).kids.length=l.length+2 then evG p g (aC p m t.text).1 (aM (fm p (aC p m t.text).1 (aC p m t.text).2.1)<|l.length+1) (fZ (fm p (aC p m t.text).1 (aC p m t.text).2.1).kids l) G else(GD0,5,G))else(GD0,7,G))else(GD0,e,G)):=by simp only[evG,h];rfl
theorem Ka(h:t.kind=21):evG p (g+1) m t env (r+1)=(match evL (λk r=>evG p g m k env r) t.kids r with|(l,e,G)=>if e=0 then((fV t.text (l.getD 0 GD0)<|l.getD 1 GD0).1,(fV t.text (l.getD 0 GD0)<|l.getD 1 GD0).2,G)else(GD0,e,G)):=by simp only[evG,h];rfl
theorem NL(h:¬(10<=t.kind∧t.kind<=22∧t.kind≠17∧t.kind≠15)):evG p (g+1) m t env (r+1)=(GD0,7,r):=by
 rw[evG]
 repeat rw[if_neg<|by omega]
theorem Jh(h:t.kind=15):evG p (g+1) m t env (r+1)=(GD0,7,r):=by simp[evG,h]
end
theorem Oe(k:Int):k=10∨k=11∨k=12∨k=13∨k=14∨k=15∨k=16∨k=18∨k=19∨k=20∨k=21∨k=22∨¬(10<=k∧k<=22∧k≠17∧k≠15):=by omega
theorem Rf(t:Tree):1<=tbulk t:=by rw[bm];omega
theorem jE(t:Tree)(i:Nat):tbulk (aM t i)<=tbulk t:=by
 rcases Nat.lt_or_ge i t.kids.length with h|h
 ·exact Nat.le_of_lt (by have :=aF<|jr h;omega)
 ·have e:aM t i=.node 0 [] [] []:=by simp only[aM,List.getD_eq_getElem?_getD];rw[List.getElem?_eq_none h];rfl
  rw[e];exact Rf t
theorem CG{B:Nat}(hb:kbulk p<=B)(G:1<=B)(m d:Int):tbulk (fm p m d)<=B:=by
 refine aao (jE _ _) ?_;rcases aV p m.toNat with⟨t,ht,_⟩|h
 ·rw[li ht];exact aao (bR ht) hb
 ·rw[List.getD_eq_getElem?_getD,List.getElem?_eq_none<|Nat.le_of_not_lt h];exact G
theorem yM(t:Tree):tbulk (fF t)<=tbulk t:=by
 unfold fF;split
 ·exact jE t 0
 ·exact aaf _
def EOk(env:List Bnd):Prop:=∀b,b∈env->wD b.2<=2000000
theorem Hz:∀{env:List Bnd} {s:YB} {d:ac},EOk env->pd env s=some d->wD d<=2000000
 |[],s,d,_,h=>by simp[pd]at h
 |b::r,s,d,G,h=>by
  unfold pd at h;split at h
  ·simp only[aad]at h;subst h;exact G b (by simp)
  ·exact Hz (λx hx=>G x<|by simp[hx]) h
theorem zm{l:List ac}(hl:∀d,d∈l->wD d<=2000000):∀ks:YT,EOk (fZ ks l):=by
 induction l with
 |nil=>intro ks b hb;simp[fZ]at hb
 | cons d r ih=>
  intro ks b hb;cases ks with
  |nil=>simp[fZ]at hb
  |cons k ks=>
   simp only[fZ,List.zipWith_cons_cons,aah]at hb;rcases hb with rfl|hb
   ·exact hl d (by simp)
   ·exact ih (λx hx=>hl x<|by simp[hx]) ks b hb
theorem zg{f:Tree->Nat->ac×Int×Nat}{B:Nat}:∀(ts:YT) (r:Nat),(∀t,t∈ts->∀r,wD (f (fF t) r).1<=B∧(f (fF t) r).2.2<=r)->(∀d,d∈(evL f ts r).1->wD d<=B)∧(evL f ts r).2.2<=r∧((evL f ts r).2.1=0->(evL f ts r).1.length=ts.length)∧(¬(evL f ts r).2.1=0->(evL f ts r).1=[])
 |[],r,_=>by simp[evL]
 | t::ts,r,h=>by
  have h1:=h t (by simp) r;simp only[evL]
  revert h1
  generalize f (fF t) r=x;obtain⟨d,e,r'⟩:=x;intro h1;have h2:=zg ts r' λt ht=>h t (by simp[ht]);simp only at h1⊢;by_cases he:e=0
  ·rw[if_pos he]
   revert h2
   generalize evL f ts r'=y;obtain⟨l,e',r''⟩:=y;intro h2;simp only at h2⊢;by_cases he':e'=0
   ·rw[if_pos he'];refine⟨λx hx=>?_,by simp only;omega,λ_=>by simp[h2.2.2.1 he'],λhh=>absurd rfl hh⟩;rcases List.mem_cons.1 hx with rfl|hx
    ·exact h1.1
    ·exact h2.1 x hx
   ·rw[if_neg he'];exact⟨by simp,by simp only;omega,λhh=>absurd hh he',λ_=>rfl⟩
  ·rw[if_neg he];exact⟨by simp,h1.2,λhh=>absurd hh he,λ_=>rfl⟩
theorem fB:wD GD0<=2000000:=by decide
theorem Md(n:Int):wD (dI n)<=2000000:=by simp[dI,wD,wDs]
theorem BT(b:Bool):wD (dB b)<=2000000:=by simp[dB,wD,wDs]
theorem Pt(op:YB)(a b:ac):wD (fV op a b).1<=2000000:=by
 unfold fV
 repeat' split
 all_goals first|exact fB|exact Md _|exact BT _|(simp only[wD,wDs,aab];omega)
theorem tO(hb:kbulk p<=1100000):∀(g r:Nat) (m:Int) (t:Tree) (env:List Bnd),tbulk t<=1100000->EOk env->wD (evG p g m t env r).1<=2000000∧(evG p g m t env r).2.2<=r:=λg=>by
 induction g with
 |zero=>intro r m t env _ _;rw[evG];exact⟨fB,aar _⟩
 | succ g ih=>
  intro r m t env ht he;cases r with
  |zero=>rw[ND];exact⟨fB,aaf _⟩
  | succ r=>
   have hk:∀i,tbulk (aM t i)<=1100000:=λi=>aao (jE t i) ht;have hL:=zg (f:=λk r=>evG p g m k env r) (B:=2000000) t.kids r λk hk' r=>ih r m (fF k) env (by
    obtain⟨i,hi⟩:=List.getElem?_of_mem hk';have :=aF hi;have :=yM k;omega) he
   rcases Oe t.kind with h|h|h|h|h|h|h|h|h|h|h|h|h
   ·rw[IW h];exact⟨Md _,by simp only;omega⟩
   ·rw[JU h];have :=cO t;exact⟨by simp only[wD,wDs,aak,aal];omega,by simp only;omega⟩
   ·rw[Iu h];cases hl:pd env t.text with
    |none=>exact⟨fB,by simp only;omega⟩
    |some d=>exact⟨Hz he hl,by simp only;omega⟩
   ·rw[IX h];exact⟨BT _,by simp only;omega⟩
   ·rw[JP h];exact⟨BT _,by simp only;omega⟩
   ·rw[Jh h];exact⟨fB,by simp only;omega⟩
   ·rw [ID h]
    revert hL
    generalize evL (λk r=>evG p g m k env r) t.kids r=x;obtain⟨l,e,r'⟩:=x;intro hL;simp only at hL⊢;split
    ·split
     ·split
      ·have h1:=ih r' (aC p m t.text).1 (aM (fm p (aC p m t.text).1 (aC p m t.text).2.1)<|l.length+1) (fZ (fm p (aC p m t.text).1 (aC p m t.text).2.1).kids l) (aao (jE _ _)<|CG hb (by omega) _ _) (zm hL.1 _);exact⟨h1.1,by omega⟩
      ·exact⟨fB,by simp only;omega⟩
     ·exact⟨fB,by simp only;omega⟩
    ·exact⟨fB,by simp only;omega⟩
   ·rw[JN h]
    revert hL
    generalize evL (λk r=>evG p g m k env r) t.kids r=x;obtain⟨l,e,r'⟩:=x;intro hL;simp only at hL⊢;split
    ·split
     ·exact⟨fB,by simp only;omega⟩
     ·exact⟨by simp only[wD,aae];omega,by simp only;omega⟩
    ·exact⟨fB,by simp only;omega⟩
   ·rw [Kc h];have h1:=ih r m (aM t 0) env (hk 0) he
    revert h1
    generalize evG p g m (aM t 0) env r=x;obtain⟨d,e,r'⟩:=x;intro h1;simp only at h1⊢;split
    ·split
     ·split
      ·have h2:=ih r' m (aM t 1) env (hk 1) he;exact⟨h2.1,by omega⟩
      ·have h2:=ih r' m (aM t 2) env (hk 2) he;exact⟨h2.1,by omega⟩
     ·exact⟨fB,by simp only;omega⟩
    ·exact⟨fB,by simp only;omega⟩
   ·rw[Iv h];have h1:=ih r m (aM t 0) env (hk 0) he
    revert h1
    generalize evG p g m (aM t 0) env r=x;obtain⟨d,e,r'⟩:=x;intro h1;simp only at h1⊢;split
    ·have h2:=ih r' m (aM t 1) ((t.text,d)::env) (hk 1) (λb hb=>by
      rcases List.mem_cons.1 hb with rfl|hb
      ·exact h1.1
      ·exact he b hb)
     exact⟨h2.1,by omega⟩
    ·exact⟨fB,by simp only;omega⟩
   ·rw[Ka h]
    revert hL
    generalize evL (λk r=>evG p g m k env r) t.kids r=x;obtain⟨l,e,r'⟩:=x;intro hL;simp only at hL⊢;split
    ·exact⟨Pt _ _ _,by simp only;omega⟩
    ·exact⟨fB,by simp only;omega⟩
   ·rw[Ig h];have h1:=ih r m (aM t 0) env (hk 0) he;exact⟨h1.1,by omega⟩
   ·rw[NL h];exact⟨fB,by simp only;omega⟩
mutual
def prepN(p:YT)(m:Int):Tree->ae
 |.node k s _ ks=>⟨k,if(k==16||k==9)=true then(aC p m s).1 else 0,if(k==16||k==9)=true then(aC p m s).2.1 else 0,if(k==16||k==9)=true then !(aC p m s).2.2 else false,s,prepNs p m ks⟩
def prepNs(p:YT)(m:Int):YT->List ae
 |[]=>[]
 |t::r=>prepN p m t::prepNs p m r
end
theorem AV(p:YT)(m:Int):∀l,prepNs p m l=l.map (prepN p m)
 |[]=>by simp[prepNs]
 |t::r=>by simp[prepNs,AV p m r]
section
variable{p:YT}{m:Int}
theorem rV(t:Tree):prepN p m t=⟨t.kind,if cH t=true then(aC p m t.text).1 else 0,if cH t=true then(aC p m t.text).2.1 else 0,if cH t=true then !(aC p m t.text).2.2 else false,t.text,t.kids.map<|prepN p m⟩:=by cases t;simp only[prepN,AV];rfl
theorem ds(t:Tree):(prepN p m t).kind=t.kind:=by rw[rV]
theorem nh(t:Tree):(prepN p m t).text=t.text:=by rw[rV]
theorem Bn(t:Tree):(prepN p m t).kids=t.kids.map (prepN p m):=by rw[rV]
theorem mD(h:t.kids[i]?=some u):(prepN p m t).kids[i]?=some (prepN p m u):=by rw[Bn,List.getElem?_map,h];rfl
theorem sK(t:Tree):(prepN p m t).kids.length=t.kids.length:=by rw[Bn,aaD]
theorem KP(h:t.kind=16):(prepN p m t).module=(aC p m t.text).1∧(prepN p m t).def_=(aC p m t.text).2.1∧(prepN p m t).free=!(aC p m t.text).2.2:=by
 have :cH t=true:=by simp[cH,h]
 rw[rV];simp only[if_pos this,true_and]
theorem Kf:∀t:Tree,tbulk t<=1000000000->∀(q:YI) (rest:List ar),ml t (ca p m (nodK t q)++rest) (prepN p m t) rest:=da λt ih hb q rest=>by
 have hk:=bw t;have loop:∀j i l,t.kids.length-i<=j->i<=t.kids.length->l=(t.kids.take i).map (prepN p m)->∀(z1 z2:Int) (b:Bool),iI (j+1) t (ca p m (nodKs (t.kids.drop i) q i)++rest) z1 z2 b l i ⟨t.kind,z1,z2,b,t.text,t.kids.map<|prepN p m⟩ rest:=λj=>by
  induction j with
  |zero=>
   intro i l hi hle hl z1 z2 b;refine sW 0 _ _ _ _ _ _ _ _ _ ⟨λh=>by omega,λh=>?_⟩;rw[List.drop_of_length_le (by omega),hl,List.take_of_length_le<|by omega];exact⟨rfl,by simp[nodKs,ca]⟩
  | succ j ihj=>
   intro i l hi hle hl z1 z2 b;refine sW (j+1) _ _ _ _ _ _ _ _ _ ⟨λh=>?_,λh=>?_⟩
   ·obtain⟨u,hu,hlt⟩|h':=aV t.kids i
    ·have hbu:=aF hu;rw[aX hu,nodKs,rQ,aaq];have hl2:l++[prepN p m u]=(t.kids.take<|i+1).map (prepN p m):=by rw[hl,List.take_add_one,hu];simp
     refine⟨u,hu,prepN p m u,_,ih i u hu (by omega) (q++[(i:Int)]) _,?_,by omega,ihj (i+1) _ (by omega) (by omega) hl2 z1 z2 b⟩;rw[hl2,aaD,aak];omega
    ·exact absurd h h'
   ·rw[List.drop_of_length_le (by omega),hl,List.take_of_length_le<|by omega];exact⟨rfl,by simp[nodKs,ca]⟩
 have l0:lC (t.kids.length+2) t (ca p m (nodK t q)++rest) (cH t) (prepN p m t) rest:=by
  refine zG (t.kids.length+1) _ _ _ _ _ ⟨λh=>?_,λh=>?_⟩
  ·rw[kY,ca,if_pos h];refine⟨tgK p m q t,rfl,by simp,?_⟩;have :=loop t.kids.length 0 [] (by omega) (by omega) (by simp) (aC p m t.text).1 (aC p m t.text).2.1 (!(aC p m t.text).2.2);rw[rV,if_pos h,if_pos h,if_pos h];exact this
  ·have h':¬cH t=true:=by rw[h];decide
   rw[kY,ca,if_neg h'];have :=loop t.kids.length 0 [] (by omega) (by omega) (by simp) 0 0 false;rw[rV,if_neg h',if_neg h',if_neg h'];exact this
 refine AH (t.kids.length+2) _ _ _ _ ⟨λh=>?_,λh=>?_⟩
 ·have :cH t=true:=by simp[cH,h]
  rw[this]at l0;exact l0
 ·have :cH t=(t.kind==9):=by simp[cH,h]
  rw[this]at l0;exact l0
end
def xS(p:YT):Nat->YT->List ae
 |_,[]=>[]
 |i,t::r=>prepN p i t::xS p (i+1) r
def eN(p:YT):List ae:=xS p 0 p
theorem Di(p:YT):∀(l:YT) (i k:Nat) (t:Tree),l[k]?=some t->(xS p i l)[k]?=some (prepN p ((i+k:Nat):Int) t)
 |[],i,k,t,h=>by simp at h
 |u::r,i,0,t,h=>by simp at h;subst h;simp[xS]
 |u::r,i,k+1,t,h=>by have :=Di p r (i+1) k t (by simpa using h);rw[show i+1+k=i+(k+1) by omega]at this;simpa[xS]using this
theorem wF(h:p[k]?=some t):(eN p)[k]?=some (prepN p (k:Int) t):=by have :=Di p p 0 k t h;simpa[eN]using this
def pb(b:Bnd):aq:=⟨b.1,b.2⟩
def VOk(p:YT)(g:Nat):Prop:=∀(r m:Nat) (t:Tree) (env:List Bnd) (fuel:Nat),r<g->r<=fuel->fuel<=16384->m<p.length->rC t->tbulk t<=1100000->EOk env->
 S_eval_runner_value (eN p) fuel ((fuel:Int)-(r:Int)) (prepN p m t) (env.map pb) (evG p g m t env r).1 (evG p g m t env r).2.1 (eN p) fuel ((fuel:Int)-((evG p g m t env r).2.2:Int))
section
variable{p:YT}(hb:kbulk p<=1100000)
theorem Qy {g:Nat} (hb:kbulk p<=1100000) (H:VOk p g) (m:Nat) (t:Tree) (env:List Bnd) (fuel:Nat) (hf:fuel<=16384) (hm:m<p.length) (hx:rC t) (ht:tbulk t<=1100000) (he:EOk env) (r:Nat) (hr:r<g) (hrf:r<=fuel):
  S_eval_runner_all (eN p) fuel ((fuel:Int)-(r:Int)) (prepN p m t) (env.map pb) (evL (λk r=>evG p g m k env r) t.kids r).1 (evL (λk r=>evG p g m k env r) t.kids r).2.1 (eN p) fuel ((fuel:Int)-((evL (λk r=>evG p g m k env r) t.kids r).2.2:Int)):=by
 have hk:=bw t;have loop:∀j i (r:Nat) acc,t.kids.length-i<=j->i<=t.kids.length->acc.length=i->r<g->r<=fuel->jp (2*j+1) (prepN p m t) (env.map pb) (eN p) fuel ((fuel:Int)-(r:Int)) acc i
   (if(evL (λk r=>evG p g m k env r) (t.kids.drop i) r).2.1=0 then acc++(evL (λk r=>evG p g m k env r) (t.kids.drop i) r).1 else[]) (evL (λk r=>evG p g m k env r) (t.kids.drop i) r).2.1 (eN p) fuel ((fuel:Int)-((evL (λk r=>evG p g m k env r) (t.kids.drop i) r).2.2:Int)):=λj=>by
  induction j with
  |zero=>
   intro i r acc hi hle hacc hr hrf;refine ry 0 _ _ _ _ _ _ _ _ _ _ _ _ ⟨λh=>by rw[sK]at h;omega,λh=>?_⟩;rw[List.drop_of_length_le (by omega),evL];exact⟨by simp,rfl,rfl,rfl,rfl⟩
  | succ j ihj=>
   intro i r acc hi hle hacc hr hrf;refine ry (2*j+2) _ _ _ _ _ _ _ _ _ _ _ _ ⟨λh=>?_,λh=>?_⟩
   ·rw [sK]at h;obtain⟨u,hu,hlt⟩|h':=aV t.kids i
    ·obtain⟨a1,a2,a3,a4⟩:=NA hx hu;have hbu:=aF hu;have hv:=H r m (fF u) env fuel hr hrf hf hm a1 (by omega) he;have hin:=tO hb g r m (fF u) env (by omega) he;rw[aX hu,evL]
     revert hv hin
     generalize evG p g m (fF u) env r=y;obtain⟨d,e,r'⟩:=y;intro hv hin;simp only at hv hin⊢;have l1:jC (2*j+2) (prepN p m t) (env.map pb) (prepN p m<|fF u) (eN p) fuel ((fuel:Int)-(r:Int)) acc i
       (if(if e=0 then(match evL (λk r=>evG p g m k env r) (t.kids.drop<|i+1) r' with|(l,e',r'')=>if e'=0 then(d::l,(0:Int),r'')else([],e',r''))else([],e,r')).2.1=0 then acc++(if e=0 then(match evL (λk r=>evG p g m k env r) (t.kids.drop<|i+1) r' with|(l,e',r'')=>if e'=0 then(d::l,(0:Int),r'')else([],e',r''))else([],e,r')).1 else[])
       (if e=0 then(match evL (λk r=>evG p g m k env r) (t.kids.drop<|i+1) r' with|(l,e',r'')=>if e'=0 then(d::l,(0:Int),r'')else([],e',r''))else([],e,r')).2.1 (eN p) fuel ((fuel:Int)-((if e=0 then(match evL (λk r=>evG p g m k env r) (t.kids.drop<|i+1) r' with|(l,e',r'')=>if e'=0 then(d::l,(0:Int),r'')else([],e',r''))else([],e,r')).2.2:Int)):=by
      refine yg (2*j+1) _ _ _ _ _ _ _ _ _ _ _ _ _ ⟨d,e,_,_,_,hv,λh0=>?_,λh0=>?_⟩
      ·exact⟨by simp[h0],by simp[h0],rfl,rfl,by simp[h0]⟩
      ·have hrec:=ihj (i+1) r' (acc++[d]) (by omega) (by omega) (by simp[hacc]) (by omega) (by omega);refine⟨by simp[hacc];omega,by omega,?_⟩;simp only[if_pos h0]
       revert hrec
       generalize evL (λk r=>evG p g m k env r) (t.kids.drop<|i+1) r'=x;obtain⟨l,e',r''⟩:=x;intro hrec;simp only at hrec⊢;by_cases he':e'=0
       ·simp only[if_pos he']at hrec⊢;subst he';simpa using hrec
       ·simp only[if_neg he']at hrec⊢;exact hrec
     refine⟨prepN p m u,mD hu,λh17=>?_,λh17=>?_⟩
     ·rw[ds]at h17;obtain⟨b1,b2,b3⟩:=EG hx hu<|a4.1 h17;have e:fF u=aM u 0:=by rw[fF,if_pos h17]
      rw[e]at l1;exact⟨_,mD (jr<|by omega),l1⟩
     ·rw[ds]at h17;have e:fF u=u:=by rw[fF,if_neg h17]
      rw[e]at l1;exact l1
    ·exact absurd h h'
   ·rw[sK]at h;rw[List.drop_of_length_le (by omega),evL];exact⟨by simp,rfl,rfl,rfl,rfl⟩
 refine yW (2*t.kids.length+1) _ _ _ _ _ _ _ _ _ _ ?_;have :=loop t.kids.length 0 r [] (by omega) (by omega) rfl hr hrf;rw[List.drop_zero]at this;have e:(if(evL (λk r=>evG p g m k env r) t.kids r).2.1=0 then[]++(evL (λk r=>evG p g m k env r) t.kids r).1 else[])=(evL (λk r=>evG p g m k env r) t.kids r).1:=by
  split
  ·rfl
  ·rename_i hne;refine((zg (B:=2000000) t.kids r λk hk' r=>?_).2.2.2 hne).symm;obtain⟨i,hi⟩:=List.getElem?_of_mem hk';have :=aF hi;have :=yM k;exact tO hb g r m (fF k) env (by omega) he
 rw[e]at this;exact this
theorem FU{g:Nat}(H:VOk p g)(i:Nat)(a:Tree)(l:List ac)(fuel:Nat)(hf:fuel<=16384)(hi:i<p.length)(ha:a.kids.length=l.length+2)(hx:rC<|aM a<|l.length+1)(hab:tbulk a<=1100000)(hl:∀d,d∈l->wD d<=2000000)(r:Nat)(hr:r<g)(hrf:r<=fuel):
  S_eval_runner_enter (eN p) fuel ((fuel:Int)-(r:Int)) (prepN p i a) l (evG p g i (aM a<|l.length+1) (fZ a.kids l) r).1 (evG p g i (aM a<|l.length+1) (fZ a.kids l) r).2.1 (eN p) fuel ((fuel:Int)-((evG p g i (aM a<|l.length+1) (fZ a.kids l) r).2.2:Int)):=by
 have hlen:=bw a;have loop:∀j,j<=l.length->hV (j+1) (eN p) fuel ((fuel:Int)-(r:Int)) (prepN p i a) l ((fZ (a.kids.drop j)<|l.drop j).map pb) ((j:Int)-1) (evG p g i (aM a<|l.length+1) (fZ a.kids l) r).1 (evG p g i (aM a<|l.length+1) (fZ a.kids l) r).2.1 (eN p) fuel ((fuel:Int)-((evG p g i (aM a<|l.length+1) (fZ a.kids l) r).2.2:Int)):=λj=>by
  induction j with
  |zero=>
   intro _;refine pP 0 _ _ _ _ _ _ _ _ _ _ _ _ ⟨λh=>by omega,λh=>⟨by omega,_,mD (jr<|by omega),_,_,_,_,_,H r i _ _ fuel hr hrf hf hi hx (aao (jE _ _) hab)<|zm hl a.kids,I,I,I,I,I⟩⟩
  | succ j ihj=>
   intro hj;obtain⟨u,hu,_⟩|h':=aV a.kids j
   ·obtain⟨d,hd,_⟩|h'':=aV l j
    ·refine pP (j+1) _ _ _ _ _ _ _ _ _ _ _ _ ⟨λh=>⟨j,by omega,_,mD hu,j,by omega,d,hd,by constructor<;>omega,?_⟩,λh=>by omega⟩;have :=ihj (by omega);rw[aX hu,aX hd]at this;rw[show(((j+1:Nat):Int)-1-1)=(j:Int)-1 by omega,nh];simpa[fZ,pb]using this
    ·omega
   ·omega
 have :=loop l.length<|aaf _;rw[List.drop_of_length_le<|aaf l.length]at this;refine xc (l.length+1) _ _ _ _ _ _ _ _ _ _ ?_;simpa[fZ]using this
end
theorem uO(b:Bool):iE b (dB b):=Bj 0 _ _ ⟨λh=>by rw[h];rfl,λh=>by rw[h];rfl⟩
theorem Qq{d:ac}{B:Nat}(h:wD d<=B):d.S.length<=B:=by rw[zC]at h;omega
theorem BR{P:List ae}{F U:Int}{N:ae}{x y:ac}(b:Bool)(hx:wD x<=2000000)(hy:wD y<=2000000)(G:¬N.text=[61,61])(hb:b=true↔(N.text=[43]∧x.Kind=2∧y.Kind=2)):
  L1_eval_runner_operation 1 N P F U x y b (fV N.text x y).1 (fV N.text x y).2 P F U:=by
 have h1:=Qq hx;have h2:=Qq hy;have e1:IntKind.i64.wrap (((x.S.length:Nat):Int)+((y.S.length:Nat):Int))=((x.S.length:Nat):Int)+((y.S.length:Nat):Int):=IntWalk.i64_in _ (by omega);have e2:IntKind.i64.wrap (((x.S.length:Nat):Int)+((y.S.length:Nat):Int)+1)=((x.S.length:Nat):Int)+((y.S.length:Nat):Int)+1:=IntWalk.i64_in _ (by omega);refine tl 0 _ _ _ _ _ _ _ _ _ _ _ _ ⟨λht=>⟨λh=>?_,λh=>⟨by omega,?_⟩⟩,λhf=>?_⟩
 ·rw[e1,e2]at h;have e:fV N.text x y=(GD0,3):=by rw[fV,if_neg G,if_pos<|hb.1 ht,if_pos<|by omega]
  rw[e];exact⟨rfl,rfl,rfl,rfl,rfl⟩
 ·rw[e1,e2]at h;have e:fV N.text x y=(⟨2,0,x.S++y.S,[]⟩,0):=by rw[fV,if_neg G,if_pos<|hb.1 ht,if_neg<|by omega]
  rw[e];exact⟨rfl,rfl,rfl,rfl,rfl⟩
 ·have hn:¬(N.text=[43]∧x.Kind=2∧y.Kind=2):=λh=>by rw[hb.2 h]at hf;cases hf
  have e:fV N.text x y=(if¬(x.Kind=1∧y.Kind=1)then(GD0,20)else if N.text=[43]then(dI<|IntKind.i64.wrap<|x.N+y.N,0)else if N.text=[45]then(dI<|IntKind.i64.wrap<|x.N-y.N,0)else if N.text=[42]then(dI<|IntKind.i64.wrap<|x.N*y.N,0)else(dB<|decide<|x.N<y.N,0)):=by rw[fV,if_neg G,if_neg hn]
  rw[e];refine⟨λk=>?_,λk=>⟨λO=>?_,λO=>?_⟩⟩
  ·rw[if_pos λh=>k h.1];exact⟨rfl,rfl,rfl,rfl,rfl⟩
  ·rw[if_pos λh=>O h.2];exact⟨rfl,rfl,rfl,rfl,rfl⟩
  ·rw[if_neg λh=>h ⟨k,O⟩];refine⟨λq=>?_,λq=>⟨λJ=>?_,λJ=>⟨λZ=>?_,λZ=>?_⟩⟩⟩
   ·rw[if_pos q];exact⟨rfl,rfl,rfl,rfl,rfl⟩
   ·rw[if_neg q,if_pos J];exact⟨rfl,rfl,rfl,rfl,rfl⟩
   ·rw[if_neg q,if_neg J,if_pos Z];exact⟨rfl,rfl,rfl,rfl,rfl⟩
   ·rw[if_neg q,if_neg J,if_neg Z];exact⟨_,uO _,rfl,rfl,rfl,rfl,rfl⟩
theorem Qn{P:List ae}{F U:Int}{N:ae}{x y:ac}(hx:wD x<=2000000)(hy:wD y<=2000000):
  L0_eval_runner_operation 2 N P F U x y (fV N.text x y).1 (fV N.text x y).2 P F U:=by
 refine te 1 _ _ _ _ _ _ _ _ _ _ _ ⟨λh=>⟨λk=>?_,λk=>?_⟩,λh=>⟨λk=>⟨λq=>?_,λq=>?_⟩,λk=>?_⟩⟩
 ·have e:fV N.text x y=(GD0,20):=by rw[fV,if_pos h,if_neg k]
  rw[e];exact⟨rfl,rfl,rfl,rfl,rfl⟩
 ·have e:fV N.text x y=(dB<|sameD x y,0):=by rw[fV,if_pos h,if_pos k]
  rw[e];exact⟨_,Ko x (by have :=Im x;omega) y,_,uO _,rfl,rfl,rfl,rfl,rfl⟩
 ·exact BR _ hx hy h (by simp[k,q])
 ·exact BR _ hx hy h (by simp[q])
 ·exact BR _ hx hy h (by simp[k])
theorem CT{P:List ae}{F U:Int}{N:ae}(k:Nat):∀(env:List Bnd),ip (env.length+k+1) P F U N (env.map pb) ((pd env N.text).getD GD0) (if(pd env N.text).isSome=true then 0 else 7) P F (U+1)
 |[]=>px _ _ _ _ _ _ _ _ _ _ _ ⟨λ_=>⟨rfl,rfl,rfl,rfl,rfl⟩,λx l h=>by cases h⟩
 | b::r=>by
  rw[show(b::r).length+k+1=(r.length+k+1)+1 by simp only[aac];omega];refine px (r.length+k+1) _ _ _ _ _ _ _ _ _ _ ⟨λh=>(by cases h),λx l h=>?_⟩;simp only[aan,List.cons.injEq]at h;obtain⟨rfl,rfl⟩:=h;refine⟨λh=>?_,λh=>?_⟩
  ·have h':b.1=N.text:=h;rw[pd,if_pos h'];exact⟨rfl,rfl,rfl,rfl,rfl⟩
  ·have h':¬b.1=N.text:=h;rw[pd,if_neg h'];exact CT k r
theorem Pu(hp:bn p=true)(hb:kbulk p<=1100000):∀g,VOk p g:=λg=>by
 induction g with
 |zero=>intro r m t env fuel hr;omega
 | succ g ih=>
  intro r m t env fuel hr hrf hf hm hx ht he;have hkb:∀i,tbulk (aM t i)<=1100000:=λi=>aao (jE t i) ht;cases r with
  |zero=>
   rw[ND];exact qg 20 _ _ _ _ _ _ _ _ _ _ ⟨λ_=>⟨I,I,I,I,I⟩,λh=>absurd (by omega) h⟩
  | succ r=>
   have e1:(fuel:Int)-((r+1:Nat):Int)+1=(fuel:Int)-(r:Int):=by omega
   obtain⟨hl22,hl20,hl19,hl21⟩:=Mn hx;obtain⟨hw10,hw11,hw16,hw21⟩:=My hx;have kid:∀i,i<t.kids.length->t.kind≠16->rC (aM t i)∧(prepN p m t).kids[i]?=some (prepN p m<|aM t i):=λi hi h16=>⟨(FB hx (jr hi) h16).1,mD<|jr hi⟩;have hall:=Qy hb ih m t env fuel hf hm hx ht he r (by omega) (by omega);have hinv:(∀d,d∈(evL (λk r=>evG p g m k env r) t.kids r).1->wD d<=2000000)∧(evL (λk r=>evG p g m k env r) t.kids r).2.2<=r∧((evL (λk r=>evG p g m k env r) t.kids r).2.1=0->(evL (λk r=>evG p g m k env r) t.kids r).1.length=t.kids.length):=by
    have :=zg (f:=λk r=>evG p g m k env r) (B:=2000000) t.kids r λk hk' r=>by obtain⟨i,hi⟩:=List.getElem?_of_mem hk';have :=aF hi;have :=yM k;exact tO hb g r m (fF k) env (by omega) he
    exact⟨this.1,this.2.1,this.2.2.1⟩
   have htl:=cO t;have hkl:=bw t;have c15:t.kind≠10->t.kind≠11->t.kind≠13->t.kind≠14->t.kind≠12->t.kind≠22->t.kind≠20->t.kind≠19->t.kind≠18->t.kind≠16->t.kind≠21->t.kind=15:=by
    have h:10<=t.kind∧t.kind<=22∧t.kind≠17:=by simpa[fv]using hx.2
    omega
   refine qg (env.length+30) _ _ _ _ _ _ _ _ _ _ ⟨λh=>by omega,λ_=>⟨by constructor<;>omega,λh10=>?_,λn10=>wg (env.length+29) _ _ _ _ _ _ _ _ _ _ ⟨λh11=>?_,λn11=>wC (env.length+28) _ _ _ _ _ _ _ _ _ _ ⟨λh13=>?_,λn13=>vT (env.length+27) _ _ _ _ _ _ _ _ _ _ ⟨λh14=>?_,λn14=>wE (env.length+26) _ _ _ _ _ _ _ _ _ _ ⟨λh12=>?_,λn12=>wb (env.length+25) _ _ _ _ _ _ _ _ _ _ ⟨λh22=>?_,λn22=>vZ (env.length+24) _ _ _ _ _ _ _ _ _ _ ⟨λh20=>?_,λn20=>vq (env.length+23) _ _ _ _ _ _ _ _ _ _ ⟨λh19=>?_,λn19=>vL (env.length+22) _ _ _ _ _ _ _ _ _ _ ⟨λh18=>?_,λn18=>vK (env.length+21) _ _ _ _ _ _ _ _ _ _ ⟨λh16=>?_,λn16=>vf (env.length+20) _ _ _ _ _ _ _ _ _ _ ⟨λh21=>?_,λn21=>?_⟩⟩⟩⟩⟩⟩⟩⟩⟩⟩⟩⟩
   ·rw[ds]at h10;rw[IW h10];refine wn _ _ _ _ _ _ _ _ _ _ ⟨_,(),?_,I,I,I,I,e1⟩;rw[nh];exact JY<|hw10 h10
   ·rw[ds]at h11;have h2:=Tt<|hw11 h11;rw[JU h11];refine vQ _ _ _ _ _ _ _ _ _ _ ?_;rw[nh];exact⟨by constructor<;>omega,t.text.length-1,by omega,by omega,by omega,I,I,I,I,e1⟩
   ·rw[ds]at h13;rw[IX h13];exact⟨_,uO _,I,I,I,I,e1⟩
   ·rw[ds]at h14;rw[JP h14];exact⟨_,uO _,I,I,I,I,e1⟩
   ·rw[ds]at h12;have h6:=CT (P:=eN p) (F:=fuel) (U:=(fuel:Int)-((r+1:Nat):Int)) (N:=prepN p m t) 25 env;rw[Iu h12];rw[nh,e1]at h6;cases hE:pd env t.text with
    |none=>rw[hE]at h6;exact h6
    |some d=>rw[hE]at h6;exact h6
   ·rw[ds]at h22;rw[Ig h22];obtain⟨k1,k2⟩:=kid 0 (by have :=hl22 h22;omega) (by omega);have hv:=ih r m (aM t 0) env fuel (by omega) (by omega) hf hm k1 (hkb 0) he;exact wj _ _ _ _ _ _ _ _ _ _ _ ⟨_,k2,_,_,_,_,_,by rw[e1];exact hv,I,I,I,I,I⟩
   ·rw[ds]at h20;rw[Iv h20];have hl:=hl20 h20;obtain⟨k1,k2⟩:=kid 0 (by omega) (by omega);obtain⟨k3,k4⟩:=kid 1 (by omega) (by omega);have hv:=ih r m (aM t 0) env fuel (by omega) (by omega) hf hm k1 (hkb 0) he;have hi:=tO hb g r m (aM t 0) env (hkb 0) he
    revert hv hi
    generalize evG p g m (aM t 0) env r=x;obtain⟨d,e,r'⟩:=x;intro hv hi;simp only at hv hi⊢;refine vv _ _ _ _ _ _ _ _ _ _ _ ⟨_,k2,d,e,_,_,_,by rw[e1];exact hv,λhne=>?_,λh0=>?_⟩
    ·rw[if_neg hne];exact⟨rfl,rfl,rfl,rfl,rfl⟩
    ·rw[if_pos h0];have hv1:=ih r' m (aM t 1) ((t.text,d)::env) fuel (by omega) (by omega) hf hm k3 (hkb 1) (λb hb=>by
      rcases List.mem_cons.1 hb with rfl|hb
      ·exact hi.1
      ·exact he b hb)
     exact⟨_,k4,_,_,_,_,_,by rw[nh];exact hv1,I,I,I,I,I⟩
   ·rw[ds]at h19;rw[Kc h19];have hl:=hl19 h19;obtain⟨k1,k2⟩:=kid 0 (by omega) (by omega);obtain⟨k3,k4⟩:=kid 1 (by omega) (by omega);obtain⟨k5,k6⟩:=kid 2 (by omega) (by omega);have hv:=ih r m (aM t 0) env fuel (by omega) (by omega) hf hm k1 (hkb 0) he;have hi:=tO hb g r m (aM t 0) env (hkb 0) he
    revert hv hi
    generalize evG p g m (aM t 0) env r=x;obtain⟨d,e,r'⟩:=x;intro hv hi;simp only at hv hi⊢;refine⟨_,_,_,_,_,?_,I,I,I,I,I⟩;rw[e1];refine wh 0 _ _ _ _ _ _ _ _ _ _ ⟨_,k2,d,e,_,_,_,hv,λhne=>?_,λh0=>⟨λq=>?_,λq=>⟨λq1=>?_,λq1=>?_⟩⟩⟩
    ·rw[if_neg hne];exact⟨rfl,rfl,rfl,rfl,rfl⟩
    ·rw[if_pos h0,if_neg q];exact⟨rfl,rfl,rfl,rfl,rfl⟩
    ·rw[if_pos h0,if_pos q,if_pos q1];have hv1:=ih r' m (aM t 1) env fuel (by omega) (by omega) hf hm k3 (hkb 1) he;exact⟨_,k4,_,_,_,_,_,hv1,I,I,I,I,I⟩
    ·rw[if_pos h0,if_pos q,if_neg q1];have hv1:=ih r' m (aM t 2) env fuel (by omega) (by omega) hf hm k5 (hkb 2) he;exact⟨_,k6,_,_,_,_,_,hv1,I,I,I,I,I⟩
   ·rw[ds]at h18;rw[JN h18]
    revert hall hinv
    generalize evL (λk r=>evG p g m k env r) t.kids r=x;obtain⟨l,e,r'⟩:=x;intro hall hinv;simp only at hall hinv⊢;refine⟨_,_,_,_,_,?_,I,I,I,I,I⟩;rw[e1];have hw:wD ⟨4,0,[],l⟩=1+wDs l:=by simp[wD]
    refine yb 0 _ _ _ _ _ _ _ _ _ _ ⟨l,e,_,_,_,hall,λhne=>?_,λh0=>⟨_,FL _,λq=>?_,λq=>?_⟩⟩
    ·rw[if_neg hne];exact⟨rfl,rfl,rfl,rfl,rfl⟩
    ·rw[if_pos h0,if_pos<|by omega];exact⟨rfl,rfl,rfl,rfl,rfl⟩
    ·rw[if_pos h0,if_neg<|by omega];exact⟨rfl,rfl,rfl,rfl,rfl⟩
   ·rw[ds]at h16;rw[ID h16];obtain⟨u1,u2,u3⟩:=KP (p:=p) (m:=m) h16
    revert hall hinv
    generalize evL (λk r=>evG p g m k env r) t.kids r=x;obtain⟨l,e,r'⟩:=x;intro hall hinv;simp only at hall hinv⊢;refine⟨_,_,_,_,_,?_,I,I,I,I,I⟩;rw[e1];refine yi 0 _ _ _ _ _ _ _ _ _ _ ⟨l,e,_,_,_,hall,λhne=>?_,λh0=>⟨λq=>?_,λq=>?_⟩⟩
    ·rw[if_neg hne];exact⟨rfl,rfl,rfl,rfl,rfl⟩
    ·rw[u3]at q;have q':¬(aC p m t.text).2.2=true:=by intro h;rw[h]at q;cases q
     rw[if_pos h0,if_neg q'];exact⟨rfl,rfl,rfl,rfl,rfl⟩
    ·rw[u3]at q;have q':(aC p m t.text).2.2=true:=by
      cases h:(aC p m t.text).2.2
      ·rw[h]at q;cases q
      ·rfl
     obtain⟨i,dd,tt,a,g1,g2,g3,g4⟩:=PB q';have hd:fm p (aC p m t.text).1 (aC p m t.text).2.1=a:=by rw[g1,g2];unfold fm aM;rw[Int.toNat_natCast,li g3,Int.toNat_natCast,li g4]
     rw[if_pos h0,if_pos q',hd,u1,u2,g1,g2];have hpos:i<p.length:=(List.getElem?_eq_some_iff.1 g3).1;have hab:tbulk a<=1100000:=aao (Nat.le_of_lt (by have :=aF g4;omega))<|aao (bR g3) hb;have hlen:=hinv.2.2 h0;refine⟨i,I,_,wF g3,dd,I,_,mD g4,by omega,λz=>?_,λz=>?_⟩
     ·rw[sK]at z;rw[if_neg z];exact⟨rfl,rfl,rfl,rfl,rfl⟩
     ·rw[sK]at z;rw[if_pos z];obtain⟨_,hbx⟩:=FJ hp g3 g4 z;exact⟨_,_,_,_,_,FU ih i a l fuel hf hpos z hbx hab hinv.1 r' (by omega) (by omega),I,I,I,I,I⟩
   ·rw[ds]at h21;rw[Ka h21];have hl:=hl21 h21
    revert hall hinv
    generalize evL (λk r=>evG p g m k env r) t.kids r=x;obtain⟨l,e,r'⟩:=x;intro hall hinv;simp only at hall hinv⊢;refine⟨_,_,_,_,_,?_,I,I,I,I,I⟩;rw[e1];refine tG 2 _ _ _ _ _ _ _ _ _ _ ⟨l,e,_,_,_,hall,λhne=>?_,λh0=>?_⟩
    ·rw[if_neg hne];exact⟨rfl,rfl,rfl,rfl,rfl⟩
    ·rw[if_pos h0];have hlen:=hinv.2.2 h0;obtain⟨x,y,rfl⟩:∃x y,l=[x,y]:=by
      match l,hlen.trans hl with
      |[x,y],_=>exact⟨x,y,rfl⟩
     have :=Qn (P:=eN p) (F:=fuel) (U:=(fuel:Int)-(r':Int)) (N:=prepN p m t) (hinv.1 x (by simp)) (hinv.1 y (by simp));rw[nh]at this;exact⟨x,I,y,I,this⟩
   ·rw[ds]at n10 n11 n13 n14 n12 n22 n20 n19 n18 n16 n21;rw[Jh<|c15 n10 n11 n13 n14 n12 n22 n20 n19 n18 n16 n21];exact⟨I,I,I,I,e1⟩
theorem MC(op:YB)(a b:ac):¬(fV op a b).2=0->(fV op a b).1=GD0:=by
 unfold fV
 repeat' split
 all_goals intro h
 all_goals first|rfl|exact absurd rfl h
theorem Ri:∀(g r:Nat) (m:Int) (t:Tree) (env:List Bnd),¬(evG p g m t env r).2.1=0->(evG p g m t env r).1=GD0:=λg=>by
 induction g with
 |zero=>intro r m t env _;rw[evG]
 | succ g ih=>
  intro r m t env;cases r with
  |zero=>rw[ND];intro _;rfl
  | succ r=>
   rcases Oe t.kind with h|h|h|h|h|h|h|h|h|h|h|h|h
   ·rw[IW h];exact λh=>absurd rfl h
   ·rw[JU h];exact λh=>absurd rfl h
   ·rw[Iu h];cases pd env t.text with
    |none=>intro _;rfl
    |some d=>exact λh=>absurd rfl h
   ·rw[IX h];exact λh=>absurd rfl h
   ·rw[JP h];exact λh=>absurd rfl h
   ·rw[Jh h];intro _;rfl
   ·rw[ID h];generalize evL (λk r=>evG p g m k env r) t.kids r=x;obtain⟨l,e,r'⟩:=x;simp only;split
    ·split
     ·split
      ·exact ih _ _ _ _
      ·intro _;rfl
     ·intro _;rfl
    ·intro _;rfl
   ·rw[JN h];generalize evL (λk r=>evG p g m k env r) t.kids r=x;obtain⟨l,e,r'⟩:=x;simp only;split
    ·split
     ·intro _;rfl
     ·exact λh=>absurd I h
    ·intro _;rfl
   ·rw[Kc h];generalize evG p g m (aM t 0) env r=x;obtain⟨d,e,r'⟩:=x;simp only;split
    ·split
     ·split
      ·exact ih _ _ _ _
      ·exact ih _ _ _ _
     ·intro _;rfl
    ·intro _;rfl
   ·rw[Iv h];generalize evG p g m (aM t 0) env r=x;obtain⟨d,e,r'⟩:=x;simp only;split
    ·exact ih _ _ _ _
    ·intro _;rfl
   ·rw[Ka h];generalize evL (λk r=>evG p g m k env r) t.kids r=x;obtain⟨l,e,r'⟩:=x;simp only;split
    ·exact MC _ _ _
    ·intro _;rfl
   ·rw[Ig h];exact ih _ _ _ _
   ·rw[NL h];intro _;rfl
def wL(p:YT)(m d:Int)(n:Nat):Bool:=decide (0<=m∧m<p.length∧0<=d∧d<(p.getD m.toNat<|.node 0 [] [] []).kids.length)&&(fm p m d).kind==2&&decide ((fm p m d).kids.length=n+2)
def th(p:YT)(m d:Int)(n:Nat):Bool:=bn p&&wL p m d n
theorem Al{a:Tree}(hi:p[i]?=some t)(G:t.kids[k]?=some a)(n:Nat):wL p i k n=(a.kind==2&&decide (a.kids.length=n+2))∧fm p i k=a:=by
 have h1:=(List.getElem?_eq_some_iff.1 hi).1;have h2:=(List.getElem?_eq_some_iff.1 G).1;have J:fm p i k=a:=by unfold fm aM;rw[Int.toNat_natCast,li hi,Int.toNat_natCast,li G]
 refine⟨?_,J⟩;rw[wL,J,Int.toNat_natCast,li hi,decide_eq_true (show 0<=(i:Int)∧(i:Int)<p.length∧0<=(k:Int)∧(k:Int)<t.kids.length by omega),Bool.true_and]
theorem tQ{d:Int}{n:Nat}(h:¬(0<=m∧m<p.length∧0<=d∧d<(p.getD m.toNat<|.node 0 [] [] []).kids.length)):wL p m d n=false:=by rw[wL,decide_eq_false h,Bool.false_and,Bool.false_and]
theorem yX(h:¬m<0):∃i:Nat,m=i:=⟨m.toNat,by omega⟩
theorem AO(p:YT)(hb:kbulk p<=1000000000)(m d:Int)(n:Nat)(hn:n<=1000000000):qy p m d n (th p m d n):=by
 have hl:=fD p;have fin:∀i j,¬i<p.length->iF (j+1) p m d n i (wL p m d n):=λi j hi=>by
  refine sV j _ _ _ _ _ _ ⟨λh=>absurd h hi,λ_=>⟨λh=>?_,λh=>⟨λh1=>?_,λh1=>⟨λh2=>?_,λh2=>?_⟩⟩⟩⟩
  ·rw[tQ<|by omega]
  ·rw[tQ<|by omega]
  ·rw[tQ<|by omega]
  ·obtain⟨a,rfl⟩:=yX h;obtain⟨b,rfl⟩:=yX h2;obtain⟨t,ht,_⟩|h':=aV p a
   ·refine⟨a,I,t,ht,λh3=>?_,λh3=>?_⟩
    ·rw[tQ (by rw[Int.toNat_natCast,li ht];omega)]
    ·obtain⟨u,hu,_⟩|h'':=aV t.kids b
     ·obtain⟨e,_⟩:=Al ht hu n;refine⟨a,I,t,ht,b,I,u,hu,λhk=>⟨by constructor<;>omega,?_⟩,λhk=>?_⟩
      ·rw[e,hk];by_cases hz:u.kids.length=n+2
       ·rw[decide_eq_true hz];simp[hz]
       ·rw[decide_eq_false hz];simp;omega
      ·rw[e];simp[hk]
     ·omega
   ·omega
 have loop:∀j i,p.length-i<=j->iF (j+1) p m d n i (bn (p.drop i)&&wL p m d n):=λj=>by
  induction j with
  |zero=>
   intro i hi;rw[List.drop_of_length_le (by omega),bn,Bool.true_and];exact fin i 0 (by omega)
  | succ j ihj=>
   intro i hi;obtain⟨t,ht,hlt⟩|h':=aV p i
   ·have hbt:=bR ht;rw[aX ht,bn];refine sV (j+1) _ _ _ _ _ _ ⟨λ_=>⟨t,ht,λhk=>by simp[hk],λhk=>⟨_,oV t (by omega),λhs=>by simp[hs],λhs=>⟨by omega,?_⟩⟩⟩,λh=>absurd hlt h⟩;have :=ihj (i+1) (by omega);simpa[hk,hs]using this
   ·rw[List.drop_of_length_le (by omega),bn,Bool.true_and];exact fin i (j+1) h'
 exact Ax _ _ _ _ _ _ (loop p.length 0<|by omega)
def dR(p:YT)(m d:Int)(l:List ac)(fuel:Int):ac×Int×Int:=
 if th p m d l.length=true∧0<=fuel∧fuel<=16384∧l.all gq=true then
  ((evG p 16385 m (aM (fm p m d)<|l.length+1) (fZ (fm p m d).kids l) fuel.toNat).1,fuel-((evG p 16385 m (aM (fm p m d)<|l.length+1) (fZ (fm p m d).kids l) fuel.toNat).2.2:Int),(evG p 16385 m (aM (fm p m d)<|l.length+1) (fZ (fm p m d).kids l) fuel.toNat).2.1)
 else(GD0,0,5)
theorem BX{d:Int}{l:List ac}{fuel:Int}(h:¬(th p m d l.length=true∧0<=fuel∧fuel<=16384∧l.all gq=true)):dR p m d l fuel=(GD0,0,5):=by rw[dR,if_neg h]
theorem MA{d:Int}{n:Nat}(h:th p m d n=true):bn p=true∧∃(i k:Nat) (t a:Tree),m=i∧d=k∧p[i]?=some t∧t.kids[k]?=some a∧a.kind=2∧a.kids.length=n+2∧fm p m d=a:=by
 simp only[th,aaa]at h;refine⟨h.1,?_⟩;have hr:=h.2;by_cases G:0<=m∧m<p.length∧0<=d∧d<(p.getD m.toNat<|.node 0 [] [] []).kids.length
 ·obtain⟨i,rfl⟩:=yX (m:=m) (by omega);obtain⟨k,rfl⟩:=yX (m:=d) (by omega);obtain⟨t,ht,_⟩|h':=aV p i
  ·rw[Int.toNat_natCast,li ht]at G;obtain⟨a,J,_⟩|h'':=aV t.kids k
   ·obtain⟨e,O⟩:=Al ht J n;rw[e]at hr;simp only[aaa,aap,aaj]at hr;exact⟨i,k,t,a,I,I,ht,J,hr.1,hr.2,O⟩
   ·omega
  ·omega
 ·rw[tQ G]at hr;cases hr
theorem Ea{l:List ac}(h:l.all gq=true):∀d,d∈l->wD d<=2000000:=λd G=>by have :=List.all_eq_true.1 h d G;simp only[gq,aaa,aaj]at this;omega
theorem OD(hb:kbulk p<=1100000)(m d:Int)(l:List ac)(fuel:Int):wD (dR p m d l fuel).1<=2000000:=by
 by_cases h:th p m d l.length=true∧0<=fuel∧fuel<=16384∧l.all gq=true
 ·rw[dR,if_pos h];exact(tO hb 16385 fuel.toNat m _ _ (aao (jE _ _)<|CG hb (by omega) _ _)<|zm (Ea h.2.2.2) _).1
 ·rw[BX h];exact fB
theorem CC(p:YT):∀(l:YT) (i:Nat),(xS p i l).length=l.length
 |[],i=>rfl
 |t::r,i=>by simp[xS,CC p r<|i+1]
theorem xV(p:YT):(eN p).length=p.length:=CC p p 0
theorem JX(hb:kbulk p<=1100000)(m d:Int)(l:List ac)(hl:l.length<=1000000000)(fuel:Int):rf p m d l fuel (dR p m d l fuel).1 (dR p m d l fuel).2.1 (dR p m d l fuel).2.2:=by
 have hlp:=fD p;by_cases hc:th p m d l.length=true∧0<=fuel∧fuel<=16384
 ·obtain⟨hp,i,k,t,a,rfl,rfl,ht,ha,ha2,han,hd⟩:=MA hc.1;obtain⟨F,rfl⟩:=yX (m:=fuel) (by omega);have hF:F<=16384:=by omega
  have hpos:=(List.getElem?_eq_some_iff.1 ht).1;have hab:tbulk a<=1100000:=aao (Nat.le_of_lt (by have :=aF ha;omega))<|aao (bR ht) hb;have fin:l.all gq=true->∀j s acc q,p.length-s<=j->s<=p.length->q=gH p s (p.drop s)->acc=(eN p).take s->oC (2*j+1) p i k l F q acc s (dR p i k l F).1 (dR p i k l F).2.1 (dR p i k l F).2.2:=λhall j=>by
   have last:∀(j' s:Nat) (acc:List ae) (q:List ar),¬s<p.length->acc=eN p->oC (j'+1) p i k l F q acc s (dR p i k l F).1 (dR p i k l F).2.1 (dR p i k l F).2.2:=λj' s acc q hs hacc=>by
    subst hacc;have hrun:dR p i k l F=((evG p 16385 i (aM a<|l.length+1) (fZ a.kids l) F).1,(F:Int)-((evG p 16385 i (aM a<|l.length+1) (fZ a.kids l) F).2.2:Int),(evG p 16385 i (aM a<|l.length+1) (fZ a.kids l) F).2.1):=by rw[dR,if_pos ⟨hc.1,hc.2.1,hc.2.2,hall⟩,hd,Int.toNat_natCast]
    rw[hrun];obtain⟨_,hbx⟩:=FJ hp ht ha han;have hen:=FU (Pu hp hb 16385) i a l F hF hpos han hbx hab (Ea hall) F (by omega)<|aaf _;rw[show((F:Int)-(F:Int))=0 by omega]at hen;have hinv:=tO hb 16385 F i (aM a<|l.length+1) (fZ a.kids l) (aao (jE _ _) hab)<|zm (Ea hall) _;refine yB j' _ _ _ _ _ _ _ _ _ _ _ ⟨λh=>absurd h hs,λ_=>⟨i,I,_,wF ht,k,I,_,mD ha,_,_,_,_,_,hen,λhne=>⟨(Ri 16385 F i _ _ hne).symm,I,I⟩,λh0=>⟨_,MN _ (by omega),I,I,h0.symm⟩⟩⟩
   induction j with
   |zero=>
    intro s acc q hj hs hq hacc;exact last 0 s acc q (by omega) (by rw[hacc,List.take_of_length_le (by rw[xV];omega)])
   | succ j ihj=>
    intro s acc q hj hs hq hacc;obtain⟨u,hu,hlt⟩|h':=aV p s
    ·have hbu:=bR hu;have hu2:=wF hu;have hal:acc.length=s:=by rw[hacc,aak,xV];omega
     rw[hq,aX hu,gH];have hset:((acc++[ae.mk 0 0 0 false [] []]).set acc.length<|prepN p s u)=(eN p).take (s+1):=by rw[List.take_add_one,hu2,<-hacc];simp
     refine yB (2*j+2) _ _ _ _ _ _ _ _ _ _ _ ⟨λ_=>⟨u,hu,_,_,Kf u (by omega) [] _,by simp[hal];omega,_,by simp;rfl,FV (2*j+1) _ _ _ _ _ _ _ _ _ _ _ ⟨by omega,?_⟩⟩,λh=>absurd hlt h⟩;rw[hset];exact ihj (s+1) _ _ (by omega) (by omega) I I
    ·exact last _ s acc q h' (by rw[hacc,List.take_of_length_le (by rw[xV];omega)])
  have loop:∀j s,l.length-s<=j->((l.take s).all gq=true)->oF (j+2*p.length+2) p i k l F s (dR p i k l F).1 (dR p i k l F).2.1 (dR p i k l F).2.2:=λj=>by
   have last:∀(j' s:Nat),¬s<l.length->l.all gq=true->oF (j'+2*p.length+2) p i k l F s (dR p i k l F).1 (dR p i k l F).2.1 (dR p i k l F).2.2:=λj' s hs hall=>by
    refine yP (j'+2*p.length+1) _ _ _ _ _ _ _ _ _ ⟨λh=>absurd h hs,λ_=>⟨_,yq p (by omega),?_⟩⟩;have htk:bC p=gH p 0 (p.drop 0):=by rw[bC,if_pos hp,List.drop_zero]
    have :=fin hall (p.length) 0 [] (bC p) (by omega) (by omega) htk (by simp);rw[show j'+2*p.length+1=(2*p.length+1)+j' by omega];exact λK j1 hK h1=>this K j1 hK (by omega)
   induction j with
   |zero=>
    intro s hj hv;rw[List.take_of_length_le (by omega)]at hv;exact last 0 s (by omega) hv
   | succ j ihj=>
    intro s hj hv;obtain⟨x,hx,hlt⟩|h':=aV l s
    ·rw[show j+1+2*p.length+2=(j+2*p.length+2)+1 by omega];refine yP (j+2*p.length+2) _ _ _ _ _ _ _ _ _ ⟨λ_=>⟨x,hx,_,GF x,λhf=>?_,λhv2=>⟨by omega,ihj (s+1) (by omega) ?_⟩⟩,λh=>absurd hlt h⟩
     ·rw[BX (λhh=>by
       have :=List.all_eq_true.1 hh.2.2.2 x (List.mem_of_getElem? hx);rw[this]at hf;cases hf)]
      exact⟨I,I,I⟩
     ·rw[List.take_add_one,hx,List.all_append,hv];simp[hv2]
    ·rw[List.take_of_length_le<|by omega]at hv;exact last _ s h' hv
  refine zN (l.length+2*p.length+2) _ _ _ _ _ _ _ _ ⟨_,AO p (by omega) _ _ _ hl,λh=>?_,λ_=>⟨λh=>by omega,λ_=>⟨λh=>by omega,λ_=>loop l.length 0 (by omega)<|by simp⟩⟩⟩;rw[hc.1]at h;cases h
 ·have e:dR p m d l fuel=(GD0,0,5):=BX λh=>hc ⟨h.1,h.2.1,h.2.2.1⟩;rw[e];exact zN 0 _ _ _ _ _ _ _ _ ⟨_,AO p (by omega) m d _ hl,λh=>⟨I,I,I⟩,λh=>⟨λ_=>⟨I,I,I⟩,λh1=>⟨λ_=>⟨I,I,I⟩,λh2=>absurd ⟨h,by omega,by omega⟩ hc⟩⟩⟩
end Go.Proofs.YthnohcipianijaaGreatDoor
