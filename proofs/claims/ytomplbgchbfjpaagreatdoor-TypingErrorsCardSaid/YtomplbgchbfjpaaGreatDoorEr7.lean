/- Contracts of the functions that the law reaches, part 7. -/
import Derived.Test.YtomplbgchbfjpaaGreatDoorEr6
set_option linter.unusedVariables false
set_option linter.unusedSimpArgs false
namespace Go.Proofs.YtomplbgchbfjpaaGreatDoor
open _root_.Go.Proofs.Tryz
open Go.RowKit Lx Sx
set_option maxRecDepth 100000
set_option maxHeartbeats 4000000
structure aa where
 Lead:(List UInt8)
 Text:(List UInt8)
abbrev aa.c(x:aa):List V:=[.str x.Lead,.str x.Text]
abbrev aa.w(x:aa):V:=.agg x.c
abbrev vC(a0:List Int)(a1:Int):Ob:=.var 118 [.row 1 (List.map (V.int .i64) a0),.int .i64 a1]
theorem vI(σ:List Nat)(l):renL σ (List.map aa.w l)=List.map aa.w l:=om σ aa.w (λ_=>rfl) l
def mR(G:List UInt8)(p1 J:Bool):Prop:=qS 152 [.str G,.bool p1] (.bool J)
def sk(G p1:List UInt8)(J:Bool):Prop:=qS 114 [.str G,.str p1] (.bool J)
def qL(G p1 J:Int):Prop:=qS 69 [qi G,qi p1] (qi J)
def tW(J b:List Int)(a:Int):Prop:=bv [] prog 41 [.row 1 (List.map (V.int .i64) J)] ⟨0,[]⟩ (λu G=>u=.ptr 0 0∧G=⟨1,[(0,vC b a)]⟩)
def ox(G:List Int)(J:Bool):Prop:=qS 16 [.row 1 (List.map (V.int .i64) G)] (.bool J)
def bH(c:List Int)(a:Int)(p1:(List (List UInt8)))(J:List UInt8)(d:List Int)(b:Int):Prop:=bv [] prog 108 [.ptr 0 0,.row 1 (List.map V.str p1)] ⟨1,[(0,vC c a)]⟩ (λu G=>u=.str J∧G=⟨1,[(0,vC d b)]⟩)
def dA(c:List Int)(a p1:Int)(J:Tree)(d:List Int)(b:Int):Prop:=bv [] prog 109 [.ptr 0 0,qi p1] ⟨1,[(0,vC c a)]⟩ (λu G=>u=.agg (al J)∧G=⟨2,[(0,vC d b)]⟩)
def gp(c:List Int)(a p1:Int)(J:Tree)(d:List Int)(b:Int):Prop:=bv [] prog 149 [.ptr 0 0,qi p1] ⟨1,[(0,vC c a)]⟩ (λu G=>u=.agg (al J)∧G=⟨2,[(0,vC d b)]⟩)
def aY(c:List Int)(a p1:Int)(J:Tree)(d:List Int)(b:Int):Prop:=bv [] prog 110 [.ptr 0 0,qi p1] ⟨1,[(0,vC c a)]⟩ (λu G=>u=.agg (al J)∧G=⟨2,[(0,vC d b)]⟩)
def qx(c:List Int)(a:Int)(J:Tree)(d:List Int)(b:Int):Prop:=bv [] prog 70 [.ptr 0 0] ⟨1,[(0,vC c a)]⟩ (λu G=>u=.agg (al J)∧G=⟨2,[(0,vC d b)]⟩)
def kP(c:List Int)(a:Int)(p1 J:Tree)(d:List Int)(b:Int):Prop:=bv [] prog 72 [.ptr 0 0,.agg (al p1)] ⟨1,[(0,vC c a)]⟩ (λu G=>u=.agg (al J)∧G=⟨2,[(0,vC d b)]⟩)
def nC(c:List Int)(a:Int)(p1:List UInt8)(J:Tree)(d:List Int)(b:Int):Prop:=bv [] prog 43 [.ptr 0 0,.str p1] ⟨1,[(0,vC c a)]⟩ (λu G=>u=.agg (al J)∧G=⟨2,[(0,vC d b)]⟩)
def mH(G:List Int)(J:List Tree):Prop:=qS 17 [.row 1 (List.map (V.int .i64) G)] (.row 4 (kidsV J))
def aP(c:List Int)(a p1 J:Int)(d:List Int)(b:Int):Prop:=bv [] prog 42 [.ptr 0 0,qi p1] ⟨1,[(0,vC c a)]⟩ (λu G=>u=qi J∧G=⟨1,[(0,vC d b)]⟩)
def mN(J:Int)(O:(List (List UInt8))):Prop:=bv [] prog 150 [qi J] ⟨0,[]⟩ (λu G=>u=.sl 0∧G=⟨1,[(0,.row 9 1 (List.map V.str O))]⟩)
def mK(G:Tree)(p1:Int)(p2 J:List UInt8):Prop:=qS 151 [.agg (al G),qi p1,.str p2] (.str J)
def iA(G:Tree)(p1:List UInt8)(J:Tree):Prop:=qS 111 [.agg (al G),.str p1] (.agg (al J))
def lT(G J:Tree):Prop:=qS 71 [.agg (al G)] (.agg (al J))
def gP(G:Tree)(J:Bool):Prop:=qS 44 [.agg (al G)] (.bool J)
def gH(G:Tree)(J:Bool):Prop:=qS 73 [.agg (al G)] (.bool J)
def jW(G:Tree)(J:Bool):Prop:=qS 112 [.agg (al G)] (.bool J)
def je(G:Tree)(J:Bool):Prop:=qS 74 [.agg (al G)] (.bool J)
def jR(G:Tree)(J:Int):Prop:=qS 75 [.agg (al G)] (qi J)
def nG(G:Tree)(J:List UInt8):Prop:=qS 76 [.agg (al G)] (.str J)
def ru(G:Tree)(J:List aa):Prop:=qS 113 [.agg (al G)] (.row 2 (List.map aa.w J))
def ax(J:List aa)(p1:Tree)(O:List aa):Prop:=bv [] prog 153 [.sl 0,.agg (al p1)] ⟨1,[(0,.row 164 2 (List.map aa.w J))]⟩ (λu G=>u=.sl 1∧G=⟨2,[(1,.row 164 2 (List.map aa.w O))]⟩)
def gu(J:List aa)(p1:Tree)(p2 p3 O:Int)(U:List aa):Prop:=bv [] prog 176 [.sl 0,.agg (al p1),qi p2,qi p3,qi O] ⟨1,[(0,.row 164 2 (List.map aa.w J))]⟩ (λu G=>u=.sl 1∧G=⟨2,[(1,.row 164 2 (List.map aa.w U))]⟩)
def av(G:Tree)(p1:Int)(J:List UInt8):Prop:=qS 175 [.agg (al G),qi p1] (.str J)
theorem tU(m:Nat)(G p1 J:Int)(h:p1≠0∧(((Int.tmod G p1)<0)→InI ((Int.tmod G p1)+p1)∧((Int.tmod G p1)+p1)=J)∧((¬(Int.tmod G p1)<0)→(Int.tmod G p1)=J)):qL G p1 J:=by
 refine⟨rfl,rfl,?_⟩;refine qA 14 [] func69 λK O=>?_;refine gR 9 rfl ?_;obtain⟨hb,h⟩:=h;refine gY (SL rfl rfl hb) rfl rfl<|gR 10 rfl<|qBd 9 rfl rfl rfl h ?_ ?_<;>intro h;refine gR 4 rfl ?_;obtain⟨hb,h⟩:=h;refine gR 1 rfl<|gV 12 (qi ((Int.tmod G p1)+p1)) rfl (ao hb rfl) rfl<|gR 10 rfl ?_;subst h;exact qN [.tmp 4];refine gR 10 rfl ?_;subst h;exact qN [.tmp 4]
theorem yP(m:Nat)(G b:List Int)(a:Int)(h:G.length≤1000000000∧G=b∧0=a):tW G b a:=by
 refine qA 8 [] func41 λK J=>?_;refine gR 9 rfl ?_;obtain⟨hb,h⟩:=h;refine gDo (.repl 0 (.row 3 1 (List.map (V.int .i64) G))) (bI ai rfl rfl rfl rfl rfl (List.nil_append _) (by rw[aB];exact hb)) (okR rfl) rfl rfl rfl<|gR 6 rfl<|gFR 1 rfl (fR _ (λ_=>rfl) _) rfl rfl ?_;obtain⟨rfl,rfl⟩:=h;exact gE J [] [(2,.ptr 0 0)] [2] [.tmp 2]
theorem yG(m:Nat)(G:List Int)(J:Bool)(h:decide ((G.length:Int)≤120)=J):ox G J:=by
 refine⟨rfl,rfl,?_⟩;refine qA 6 [] func16 λK O=>?_;refine gR 9 rfl<|gV 4 (qi (G.length:Int)) rfl (aJ (aB (V.int .i64) _)) rfl<|gLB 3 rfl (aB (V.int .i64) _) λa=>gR 5 rfl ?_;subst h;exact qN [.tmp 2]
theorem yQ(m:Nat)(k:List Int)(c:Int)(p1:(List (List UInt8)))(G:List UInt8)(l:List Int)(d:Int)(h:∃e g i,aP k c (p1.length:Int) e g i∧∃a,e=((a:Nat):Int)∧∃b,p1[a]?=some b∧b=G∧g=l∧i=d):bH k c p1 G l d:=by
 refine qA 12 [0] func108 λK J=>?_;refine gR 11 rfl<|gV 8 (qi (p1.length:Int)) rfl (aJ (aB V.str _)) rfl<|gLB 7 rfl (aB V.str _) λp=>?_;obtain⟨e,g,i,o,h⟩:=h;refine qC o [0] ?_;obtain⟨a,n,h⟩:=h;refine gV 9 (qi ((a:Nat):Int)) rfl (aL n) rfl ?_;obtain⟨b,j,h⟩:=h;refine gY (aC (ar (f:=V.str) j) ai rfl rfl rfl rfl) rfl rfl<|gR 5 rfl ?_;obtain⟨rfl,rfl,rfl⟩:=h;exact gE J [] [(4,.str b)] [0] [.tmp 4]
def iV(m:Nat)(p1 b:Int)(c:List Int)(d:Int)(e:Bool)(J:Tree)(f:List Int)(a:Int):Prop:=∀(K:Ctx),aw K [0]→qLG K f109 (λu G=>u=.agg (al J)∧G=⟨2,[(0,vC f a)]⟩) (cB (xE (cB (aj f109)))) [.blk 0,.seq (xA (aj f109))] 32 (mkF 32 0 [(0,.ptr 0 0),(1,qi p1),(4,.ptr 1 0),(6,qi b),(7,.bool e)]) ⟨2,[(1,vE 0 []),(0,vC c d)]⟩
theorem lB(m:Nat)(g:List Int)(e p1:Int)(J:Tree)(f:List Int)(b:Int)(h:∃a c d,aP g e 7 a c d∧((a=0)→iV m p1 a c d true J f b)∧((a≠0)→iV m p1 a c d (a==1) J f b)):dA g e p1 J f b:=by
 refine qA 32 [0] func109 λK G=>?_;refine gR 9 rfl ?_;obtain⟨a,c,d,i,h⟩:=h;refine qC i [0] ?_;refine gR 10 rfl<|qBeZ 7 8 rfl rfl rfl rfl h ?_ ?_<;>intro h;exact gR 3 rfl<|qJ G (h K G) [0,1];exact gR 6 rfl<|qJ G (h K G) [0,1]
theorem bN(m:Nat)(p1 c:Int)(d:List Int)(e:Int)(i:Bool)(G:Tree)(f:List Int)(a:Int)(h:((i=true)→(Tree.node 5 [] [] [])=G∧d=f∧e=a)∧((i=false)→((c=2)→(Tree.node 7 [] [] [])=G∧d=f∧e=a)∧((c≠2)→((c=3)→(Tree.node 6 [] [] [])=G∧d=f∧e=a)∧((c≠3)→((c=4)→∃g j k,bH d e [[84],[85],[65,46,84],[66,46,85]] g j k∧(Tree.node 9 g [] [])=G∧j=f∧k=a)∧((c≠4)→((p1<1)→(Tree.node 5 [] [] [])=G∧d=f∧e=a)∧((¬p1<1)→InI (p1-1)∧∃b l n,dA d e (p1-1) b l n∧(Tree.node 8 [] [] [b])=G∧l=f∧n=a)))))):iV (m+1) p1 c d e i G f a:=by
 intro K J;refine qBi 7 rfl rfl rfl h ?_ ?_<;>intro h;refine gR 10 rfl ?_;obtain⟨rfl,rfl,rfl⟩:=h;exact gE J [(1,vD ((Tree.node 5 [] [] []).kind) ((Tree.node 5 [] [] []).text) ((Tree.node 5 [] [] []).leads) ((Tree.node 5 [] [] []).kids))] [(4,.ptr 1 0)] [0,1] [.cell 4 29] (hH:=⟨⟨_,rfl,⟨rfl,(.cons .rfl (.cons .rfl (.cons (.nil 1) (.cons (.nil 4) .nil))))⟩⟩,⟨⟨_,rfl,⟨rfl,aK.rfl⟩⟩,trivial⟩⟩);refine gR 7 rfl<|qBeZ 11 12 rfl rfl rfl rfl h ?_ ?_<;>intro h;refine gR 10 rfl ?_;obtain⟨rfl,rfl,rfl⟩:=h;exact gE J [(1,vD ((Tree.node 7 [] [] []).kind) ((Tree.node 7 [] [] []).text) ((Tree.node 7 [] [] []).leads) ((Tree.node 7 [] [] []).kids))] [(4,.ptr 1 0)] [0,1] [.cell 4 29] (hH:=⟨⟨_,rfl,⟨rfl,(.cons .rfl (.cons .rfl (.cons (.nil 1) (.cons (.nil 4) .nil))))⟩⟩,⟨⟨_,rfl,⟨rfl,aK.rfl⟩⟩,trivial⟩⟩);refine gR 7 rfl<|qBeZ 14 15 rfl rfl rfl rfl h ?_ ?_<;>intro h;refine gR 10 rfl ?_;obtain⟨rfl,rfl,rfl⟩:=h;exact gE J [(1,vD ((Tree.node 6 [] [] []).kind) ((Tree.node 6 [] [] []).text) ((Tree.node 6 [] [] []).leads) ((Tree.node 6 [] [] []).kids))] [(4,.ptr 1 0)] [0,1] [.cell 4 29] (hH:=⟨⟨_,rfl,⟨rfl,(.cons .rfl (.cons .rfl (.cons (.nil 1) (.cons (.nil 4) .nil))))⟩⟩,⟨⟨_,rfl,⟨rfl,aK.rfl⟩⟩,trivial⟩⟩);refine gR 7 rfl<|qBeZ 17 18 rfl rfl rfl rfl h ?_ ?_<;>intro h;refine gR 5 rfl<|gFR 2 rfl rfl rfl rfl ?_;obtain⟨g,j,k,p,h⟩:=h;refine qC p [0] ?_;refine gR 7 rfl ?_;obtain⟨rfl,rfl,rfl⟩:=h;exact gE J [(1,vD ((Tree.node 9 g [] []).kind) ((Tree.node 9 g [] []).text) ((Tree.node 9 g [] []).leads) ((Tree.node 9 g [] []).kids))] [(4,.ptr 1 0)] [0,1] [.cell 4 29] (hH:=⟨⟨_,rfl,⟨rfl,(.cons .rfl (.cons .rfl (.cons (.nil 1) (.cons (.nil 4) .nil))))⟩⟩,⟨⟨_,rfl,⟨rfl,aK.rfl⟩⟩,trivial⟩⟩);refine gR 11 rfl<|qBd 24 rfl rfl rfl h ?_ ?_<;>intro h;refine gR 9 rfl ?_;obtain⟨rfl,rfl,rfl⟩:=h;exact gE J [(1,vD ((Tree.node 5 [] [] []).kind) ((Tree.node 5 [] [] []).text) ((Tree.node 5 [] [] []).leads) ((Tree.node 5 [] [] []).kids))] [(4,.ptr 1 0)] [0,1] [.cell 4 29] (hH:=⟨⟨_,rfl,⟨rfl,(.cons .rfl (.cons .rfl (.cons (.nil 1) (.cons (.nil 4) .nil))))⟩⟩,⟨⟨_,rfl,⟨rfl,aK.rfl⟩⟩,trivial⟩⟩);refine gR 7 rfl ?_;obtain⟨hb,h⟩:=h;refine gR 1 rfl<|gV 28 (qi (p1-1)) rfl (ao hb rfl) rfl ?_;obtain⟨b,l,n,o,h⟩:=h;refine qC o [0] ?_;refine gR 1 rfl<|gHR 4 (kidsV [b]) rfl (mS b) rfl<|gR 5 rfl<|gFR 4 rfl (dn _) rfl rfl ?_;obtain⟨rfl,rfl,rfl⟩:=h;exact gE J [(1,vD ((Tree.node 8 [] [] [b]).kind) ((Tree.node 8 [] [] [b]).text) ((Tree.node 8 [] [] [b]).leads) ((Tree.node 8 [] [] [b]).kids))] [(4,.ptr 1 0)] [0,1] [.cell 4 29] (hH:=⟨⟨_,rfl,⟨rfl,(.cons .rfl (.cons .rfl (.cons (.nil 1) (.cons .rfl .nil))))⟩⟩,⟨⟨_,rfl,⟨rfl,aK.rfl⟩⟩,trivial⟩⟩)
theorem tm(m:Nat)(i:List Int)(f p1:Int)(G:Tree)(g:List Int)(b:Int)(h:∃a c d,aY i f p1 a c d∧∃e,iY a.kind e∧((e=false)→(Tree.node 22 [] [] [a])=G∧c=g∧d=b)∧((e=true)→a=G∧c=g∧d=b)):gp i f p1 G g b:=by
 refine qA 17 [0] func149 λK J=>?_;refine gR 9 rfl ?_;obtain⟨a,c,d,j,h⟩:=h;refine qC j [0] ?_;refine gR 9 rfl ?_;obtain⟨e,k,h⟩:=h;refine qC0 k rfl<|gR 3 rfl<|qBh 12 rfl rfl rfl h bF bG ?_ ?_<;>intro h;refine gR 5 rfl<|gHR 5 (kidsV [a]) rfl (mS a) rfl<|gR 6 rfl<|gFR 5 rfl (dn _) rfl rfl ?_;obtain⟨rfl,rfl,rfl⟩:=h;exact gE J [(1,vD ((Tree.node 22 [] [] [a]).kind) ((Tree.node 22 [] [] [a]).text) ((Tree.node 22 [] [] [a]).leads) ((Tree.node 22 [] [] [a]).kids))] [(4,.ptr 1 0)] [0,1] [.cell 4 29] (hH:=⟨⟨_,rfl,⟨rfl,(.cons .rfl (.cons .rfl (.cons (.nil 1) (.cons .rfl .nil))))⟩⟩,⟨⟨_,rfl,⟨rfl,aK.rfl⟩⟩,trivial⟩⟩);refine gR 10 rfl ?_;obtain⟨rfl,rfl,rfl⟩:=h;exact gE J [(1,vD a.kind a.text a.leads a.kids)] [(4,.ptr 1 0)] [0,1] [.cell 4 29]
def dw(m:Nat)(p1:Int)(b:List Int)(c d:Int)(J:Tree)(e:List Int)(a:Int):Prop:=∀(K:Ctx),aw K [0]→qLG K f110 (λu G=>u=.agg (al J)∧G=⟨2,[(0,vC e a)]⟩) (xF (aj f110)) [] 168 (mkF 168 0 [(0,.ptr 0 0),(1,qi p1),(4,.ptr 1 0),(5,qi d)]) ⟨2,[(1,vE 0 []),(0,vC b c)]⟩
def oD(m:Nat)(p1:Int)(b:List Int)(c d:Int)(e:Bool)(J:Tree)(f:List Int)(a:Int):Prop:=∀(K:Ctx),aw K [0]→qLG K f110 (λu G=>u=.agg (al J)∧G=⟨2,[(0,vC f a)]⟩) (cB (xE (xF (aj f110)))) [.blk 0,.seq (xH (aj f110))] 168 (mkF 168 0 [(0,.ptr 0 0),(1,qi p1),(4,.ptr 1 0),(24,qi d),(25,.bool e)]) ⟨2,[(1,vE 0 []),(0,vC b c)]⟩
def kK(m:Nat)(p1:Int)(b:List Int)(c d:Int)(J:Tree)(e:List Int)(a:Int):Prop:=∀(K:Ctx),aw K [0]→qLG K f110 (λu G=>u=.agg (al J)∧G=⟨2,[(0,vC e a)]⟩) (xN (xF (aj f110))) [.blk 0,.seq (xH (aj f110))] 168 (mkF 168 0 [(0,.ptr 0 0),(1,qi p1),(4,.ptr 1 0),(24,qi d)]) ⟨2,[(1,vE 0 []),(0,vC b c)]⟩
def tf(m:Nat)(p1:Int)(b:List Int)(c d:Int)(J:Tree)(e:List Int)(a:Int):Prop:=∀(K:Ctx),aw K [0]→qLG K f110 (λu G=>u=.agg (al J)∧G=⟨2,[(0,vC e a)]⟩) (xC (xE (xF (aj f110)))) [.blk 0,.seq (xH (aj f110))] 168 (mkF 168 0 [(0,.ptr 0 0),(1,qi p1),(4,.ptr 1 0),(24,qi d)]) ⟨2,[(1,vE 0 []),(0,vC b c)]⟩
def tl(m:Nat)(p1:Int)(b:List Int)(c d:Int)(J:Tree)(e:List Int)(a:Int):Prop:=∀(K:Ctx),aw K [0]→qLG K f110 (λu G=>u=.agg (al J)∧G=⟨2,[(0,vC e a)]⟩) (xC (xN (xF (aj f110)))) [.blk 0,.seq (xH (aj f110))] 168 (mkF 168 0 [(0,.ptr 0 0),(1,qi p1),(4,.ptr 1 0),(24,qi d)]) ⟨2,[(1,vE 0 []),(0,vC b c)]⟩
def tv(m:Nat)(p1:Int)(b:List Int)(c d:Int)(J:Tree)(e:List Int)(a:Int):Prop:=∀(K:Ctx),aw K [0]→qLG K f110 (λu G=>u=.agg (al J)∧G=⟨2,[(0,vC e a)]⟩) (xI (xE (xF (aj f110)))) [.blk 0,.seq (xH (aj f110))] 168 (mkF 168 0 [(0,.ptr 0 0),(1,qi p1),(4,.ptr 1 0),(24,qi d)]) ⟨2,[(1,vE 0 []),(0,vC b c)]⟩
def kO(m:Nat)(p1:Int)(b:List Int)(c d:Int)(J:Tree)(e:List Int)(a:Int):Prop:=∀(K:Ctx),aw K [0]→qLG K f110 (λu G=>u=.agg (al J)∧G=⟨2,[(0,vC e a)]⟩) (xI (xN (xF (aj f110)))) [.blk 0,.seq (xH (aj f110))] 168 (mkF 168 0 [(0,.ptr 0 0),(1,qi p1),(4,.ptr 1 0),(24,qi d)]) ⟨2,[(1,vE 0 []),(0,vC b c)]⟩
def oa(m:Nat)(p1:Int)(b:List Int)(c d:Int)(e:Bool)(J:Tree)(f:List Int)(a:Int):Prop:=∀(K:Ctx),aw K [0]→qLG K f110 (λu G=>u=.agg (al J)∧G=⟨2,[(0,vC f a)]⟩) (cB (xI (xN (xF (aj f110))))) [.blk 0,.seq (xH (aj f110))] 168 (mkF 168 0 [(0,.ptr 0 0),(1,qi p1),(4,.ptr 1 0),(24,qi d),(57,.bool e)]) ⟨2,[(1,vE 0 []),(0,vC b c)]⟩
def oL(m:Nat)(p1:Int)(b:List Int)(c:Int)(J:Tree)(d:List Int)(a:Int):Prop:=∀(K:Ctx),aw K [0]→qLG K f110 (λu G=>u=.agg (al J)∧G=⟨2,[(0,vC d a)]⟩) (xJ (xI (xN (xF (aj f110))))) [.blk 0,.seq (xH (aj f110))] 168 (mkF 168 0 [(0,.ptr 0 0),(1,qi p1),(4,.ptr 1 0)]) ⟨2,[(1,vE 0 []),(0,vC b c)]⟩
def il(m:Nat)(p1:Int)(b:List Int)(c d:Int)(J:Tree)(e:List Int)(a:Int):Prop:=∀(K:Ctx),aw K [0]→qLG K f110 (λu G=>u=.agg (al J)∧G=⟨2,[(0,vC e a)]⟩) (xI (xC (xE (xF (aj f110))))) [.blk 0,.seq (xH (aj f110))] 168 (mkF 168 0 [(0,.ptr 0 0),(1,qi p1),(4,.ptr 1 0),(24,qi d)]) ⟨2,[(1,vE 0 []),(0,vC b c)]⟩
def jU(m:Nat)(p1:Int)(f:List UInt8)(a:List Int)(b:Int)(c:List Tree)(d:Int)(O:Tree)(g:List Int)(e:Int):Prop:=∀(K:Ctx) (J:Nat),aw K [0]→m≤J→qLG K f110 (λu G=>u=.agg (al O)∧G=⟨2,[(0,vC g e)]⟩) (xG (cB (xJ (xI (xN (xF (aj f110))))))) [.loop (xG (cB (xJ (xI (xN (xF (aj f110))))))) J,.blk 1,.seq (xA (xJ (xI (xN (xF (aj f110)))))),.blk 0,.seq (xH (aj f110))] 168 (mkF 168 0 [(0,.ptr 0 0),(1,qi p1),(4,.ptr 1 0),(6,.ptr 2 0),(7,qi d)]) ⟨4,[(3,.row 29 4 (kidsV c)),(2,.var 29 [qi 16,.str f,.nils,.sl 3]),(1,vE 0 []),(0,vC a b)]⟩
def jN(m:Nat)(p1:Int)(a:List Int)(b:Int)(c:List Tree)(d:Int)(O:Tree)(f:List Int)(e:Int):Prop:=∀(K:Ctx) (J:Nat),aw K [0]→m≤J→qLG K f110 (λu G=>u=.agg (al O)∧G=⟨2,[(0,vC f e)]⟩) (xG (cB (xJ (xI (xC (xE (xF (aj f110)))))))) [.loop (xG (cB (xJ (xI (xC (xE (xF (aj f110)))))))) J,.blk 3,.seq (xA (xJ (xI (xC (xE (xF (aj f110))))))),.blk 0,.seq (xH (aj f110))] 168 (mkF 168 0 [(0,.ptr 0 0),(1,qi p1),(4,.ptr 1 0),(8,.ptr 2 0),(9,qi d)]) ⟨4,[(3,.row 29 4 (kidsV c)),(2,.var 29 [qi 18,.str [],.nils,.sl 3]),(1,vE 0 []),(0,vC a b)]⟩
def jQ(m:Nat)(p1:Int)(b:List Int)(c d:Int)(J:Tree)(e:List Int)(a:Int):Prop:=∀(K:Ctx),aw K [0]→qLG K f110 (λu G=>u=.agg (al J)∧G=⟨2,[(0,vC e a)]⟩) (xI (xC (xN (xF (aj f110))))) [.blk 0,.seq (xH (aj f110))] 168 (mkF 168 0 [(0,.ptr 0 0),(1,qi p1),(4,.ptr 1 0),(24,qi d)]) ⟨2,[(1,vE 0 []),(0,vC b c)]⟩
def sj(m:Nat)(p1:Int)(b:List Int)(c:Int)(J:Tree)(d:List Int)(a:Int):Prop:=∀(K:Ctx),aw K [0]→qLG K f110 (λu G=>u=.agg (al J)∧G=⟨2,[(0,vC d a)]⟩) (xJ (xI (xC (xN (xF (aj f110)))))) [.blk 0,.seq (xH (aj f110))] 168 (mkF 168 0 [(0,.ptr 0 0),(1,qi p1),(4,.ptr 1 0)]) ⟨2,[(1,vE 0 []),(0,vC b c)]⟩
def gN(m:Nat)(p1:Int)(b:List Int)(c d:Int)(J:Tree)(e:List Int)(a:Int):Prop:=∀(K:Ctx),aw K [0]→qLG K f110 (λu G=>u=.agg (al J)∧G=⟨2,[(0,vC e a)]⟩) (xI (xI (xE (xF (aj f110))))) [.blk 0,.seq (xH (aj f110))] 168 (mkF 168 0 [(0,.ptr 0 0),(1,qi p1),(4,.ptr 1 0),(24,qi d)]) ⟨2,[(1,vE 0 []),(0,vC b c)]⟩
def nD(m:Nat)(p1:Int)(c:List Int)(d e:Int)(a:Bool)(J:Tree)(f:List Int)(b:Int):Prop:=∀(K:Ctx),aw K [0]→qLG K f110 (λu G=>u=.agg (al J)∧G=⟨2,[(0,vC f b)]⟩) (cB (xI (xI (xE (xF (aj f110)))))) [.blk 0,.seq (xH (aj f110))] 168 (mkF 168 0 [(0,.ptr 0 0),(1,qi p1),(4,.ptr 1 0),(24,qi e),(118,.bool a)]) ⟨2,[(1,vE 0 []),(0,vC c d)]⟩
def nH(m:Nat)(p1:Int)(b:List Int)(c:Int)(J:Tree)(d:List Int)(a:Int):Prop:=∀(K:Ctx),aw K [0]→qLG K f110 (λu G=>u=.agg (al J)∧G=⟨2,[(0,vC d a)]⟩) (xJ (xI (xI (xE (xF (aj f110)))))) [.blk 0,.seq (xH (aj f110))] 168 (mkF 168 0 [(0,.ptr 0 0),(1,qi p1),(4,.ptr 1 0)]) ⟨2,[(1,vE 0 []),(0,vC b c)]⟩
def jV(m:Nat)(p1:Int)(b:List Int)(c d:Int)(J:Tree)(e:List Int)(a:Int):Prop:=∀(K:Ctx),aw K [0]→qLG K f110 (λu G=>u=.agg (al J)∧G=⟨2,[(0,vC e a)]⟩) (xI (xI (xN (xF (aj f110))))) [.blk 0,.seq (xH (aj f110))] 168 (mkF 168 0 [(0,.ptr 0 0),(1,qi p1),(4,.ptr 1 0),(24,qi d)]) ⟨2,[(1,vE 0 []),(0,vC b c)]⟩
def sd(m:Nat)(p1:Int)(b:List Int)(c:Int)(J:Tree)(d:List Int)(a:Int):Prop:=∀(K:Ctx),aw K [0]→qLG K f110 (λu G=>u=.agg (al J)∧G=⟨2,[(0,vC d a)]⟩) (xJ (xI (xI (xN (xF (aj f110)))))) [.blk 0,.seq (xH (aj f110))] 168 (mkF 168 0 [(0,.ptr 0 0),(1,qi p1),(4,.ptr 1 0)]) ⟨2,[(1,vE 0 []),(0,vC b c)]⟩
theorem kD(m:Nat)(g:List Int)(f p1:Int)(J:Tree)(e:List Int)(b:Int)(h:∃a c d,aP g f 14 a c d∧((p1<1)→((5<a)→InI (a-6)∧((5<(a-6))→dw m p1 c d 0 J e b)∧((¬5<(a-6))→dw m p1 c d (a-6) J e b))∧((¬5<a)→dw m p1 c d a J e b))∧((¬p1<1)→dw m p1 c d a J e b)):aY g f p1 J e b:=by
 refine qA 168 [0] func110 λK G=>?_;refine gR 8 rfl ?_;obtain⟨a,c,d,i,h⟩:=h;refine qC i [0] ?_;refine gR 9 rfl<|qBdZ 16 15 rfl rfl rfl rfl h ?_ ?_<;>intro h;refine gR 5 rfl<|qBd 19 rfl rfl rfl h ?_ ?_<;>intro h;refine gR 4 rfl ?_;obtain⟨hb,h⟩:=h;refine gR 1 rfl<|gV 21 (qi (a-6)) rfl (ao hb rfl) rfl<|gR 9 rfl<|qBd 23 rfl rfl rfl h ?_ ?_<;>intro h;exact gR 5 rfl<|qJ G (h K G) [0,1];exact gR 3 rfl<|qJ G (h K G) [0,1];exact gR 3 rfl<|qJ G (h K G) [0,1];exact gR 8 rfl<|qJ G (h K G) [0,1]
theorem rL0_semvcsmake_Expr(m:Nat)(p1:Int)(c:List Int)(d a:Int)(J:Tree)(e:List Int)(b:Int)(h:((a=0)→oD m p1 c d a true J e b)∧((a≠0)→oD m p1 c d a (a==1) J e b)):dw (m+1) p1 c d a J e b:=by
 intro K G;refine gR 14 rfl<|qBeZ 25 26 rfl rfl rfl rfl h ?_ ?_<;>intro h;exact gR 3 rfl<|qJ G (h K G) [0,1];exact gR 6 rfl<|qJ G (h K G) [0,1]
theorem nE(m:Nat)(p1:Int)(c:List Int)(d j:Int)(e:Bool)(G:Tree)(f:List Int)(b:Int)(h:((e=true)→∃a g i,bH c d [[120],[121],[122]] a g i∧(Tree.node 12 a [] [])=G∧g=f∧i=b)∧((e=false)→kK m p1 c d j G f b)):oD (m+1) p1 c d j e G f b:=by
 intro K J;refine qBi 25 rfl rfl rfl h ?_ ?_<;>intro h;refine gR 5 rfl<|gFR 2 rfl rfl rfl rfl ?_;obtain⟨a,g,i,k,h⟩:=h;refine qC k [0] ?_;refine gR 7 rfl ?_;obtain⟨rfl,rfl,rfl⟩:=h;exact gE J [(1,vD ((Tree.node 12 a [] []).kind) ((Tree.node 12 a [] []).text) ((Tree.node 12 a [] []).leads) ((Tree.node 12 a [] []).kids))] [(4,.ptr 1 0)] [0,1] [.cell 4 29] (hH:=⟨⟨_,rfl,⟨rfl,(.cons .rfl (.cons .rfl (.cons (.nil 1) (.cons (.nil 4) .nil))))⟩⟩,⟨⟨_,rfl,⟨rfl,aK.rfl⟩⟩,trivial⟩⟩);exact gR 1 rfl<|qJ J (h K J) [0,1]
theorem rL2_semvcsmake_Expr(m:Nat)(p1:Int)(d:List Int)(e c:Int)(G:Tree)(f:List Int)(b:Int)(h:((c=2)→∃a g i,bH d e [[48],[49],[50],[49,48]] a g i∧(Tree.node 10 a [] [])=G∧g=f∧i=b)∧((c≠2)→tf m p1 d e c G f b)):kK (m+1) p1 d e c G f b:=by
 intro K J;refine gR 6 rfl<|qBeZ 32 33 rfl rfl rfl rfl h ?_ ?_<;>intro h;refine gR 5 rfl<|gFR 2 rfl rfl rfl rfl ?_;obtain⟨a,g,i,j,h⟩:=h;refine qC j [0] ?_;refine gR 7 rfl ?_;obtain⟨rfl,rfl,rfl⟩:=h;exact gE J [(1,vD ((Tree.node 10 a [] []).kind) ((Tree.node 10 a [] []).text) ((Tree.node 10 a [] []).leads) ((Tree.node 10 a [] []).kids))] [(4,.ptr 1 0)] [0,1] [.cell 4 29] (hH:=⟨⟨_,rfl,⟨rfl,(.cons .rfl (.cons .rfl (.cons (.nil 1) (.cons (.nil 4) .nil))))⟩⟩,⟨⟨_,rfl,⟨rfl,aK.rfl⟩⟩,trivial⟩⟩);exact gR 1 rfl<|qJ J (h K J) [0,1]
theorem gQ(m:Nat)(p1:Int)(d:List Int)(e c:Int)(G:Tree)(f:List Int)(b:Int)(h:((c=3)→∃a g i,bH d e [[34,34],[34,97,34],[34,35,32,98,34]] a g i∧(Tree.node 11 a [] [])=G∧g=f∧i=b)∧((c≠3)→tl m p1 d e c G f b)):tf (m+1) p1 d e c G f b:=by
 intro K J;refine gR 6 rfl<|qBeZ 38 39 rfl rfl rfl rfl h ?_ ?_<;>intro h;refine gR 5 rfl<|gFR 2 rfl rfl rfl rfl ?_;obtain⟨a,g,i,j,h⟩:=h;refine qC j [0] ?_;refine gR 7 rfl ?_;obtain⟨rfl,rfl,rfl⟩:=h;exact gE J [(1,vD ((Tree.node 11 a [] []).kind) ((Tree.node 11 a [] []).text) ((Tree.node 11 a [] []).leads) ((Tree.node 11 a [] []).kids))] [(4,.ptr 1 0)] [0,1] [.cell 4 29] (hH:=⟨⟨_,rfl,⟨rfl,(.cons .rfl (.cons .rfl (.cons (.nil 1) (.cons (.nil 4) .nil))))⟩⟩,⟨⟨_,rfl,⟨rfl,aK.rfl⟩⟩,trivial⟩⟩);exact gR 1 rfl<|qJ J (h K J) [0,1]
theorem jO(m:Nat)(p1:Int)(d:List Int)(e c:Int)(G:Tree)(f:List Int)(b:Int)(h:((c=4)→∃a g i,aP d e 2 a g i∧InI (13+a)∧(Tree.node (13+a) [] [] [])=G∧g=f∧i=b)∧((c≠4)→tv m p1 d e c G f b)):tl (m+1) p1 d e c G f b:=by
 intro K J;refine gR 6 rfl<|qBeZ 44 45 rfl rfl rfl rfl h ?_ ?_<;>intro h;refine gR 4 rfl ?_;obtain⟨a,g,i,j,h⟩:=h;refine qC j [0] ?_;obtain⟨hb,h⟩:=h;refine gR 1 rfl<|gV 48 (qi (13+a)) rfl (ao hb rfl) rfl<|gR 7 rfl ?_;obtain⟨rfl,rfl,rfl⟩:=h;exact gE J [(1,vD ((Tree.node (13+a) [] [] []).kind) ((Tree.node (13+a) [] [] []).text) ((Tree.node (13+a) [] [] []).leads) ((Tree.node (13+a) [] [] []).kids))] [(4,.ptr 1 0)] [0,1] [.cell 4 29] (hH:=⟨⟨_,rfl,⟨rfl,(.cons .rfl (.cons .rfl (.cons (.nil 1) (.cons (.nil 4) .nil))))⟩⟩,⟨⟨_,rfl,⟨rfl,aK.rfl⟩⟩,trivial⟩⟩);exact gR 1 rfl<|qJ J (h K J) [0,1]
theorem nF(m:Nat)(p1:Int)(g:List Int)(i b:Int)(G:Tree)(c:List Int)(a:Int)(h:((b=5)→∃d e f,aP g i 3 d e f∧((d=0)→(Tree.node 15 [] [] [])=G∧e=c∧f=a)∧((d≠0)→(Tree.node 10 [51] [] [])=G∧e=c∧f=a))∧((b≠5)→kO m p1 g i b G c a)):tv (m+1) p1 g i b G c a:=by
 intro K J;refine gR 6 rfl<|qBeZ 50 51 rfl rfl rfl rfl h ?_ ?_<;>intro h;refine gR 5 rfl ?_;obtain⟨d,e,f,j,h⟩:=h;refine qC j [0] ?_;refine gR 3 rfl<|qBe 54 rfl rfl rfl h ?_ ?_<;>intro h;refine gR 11 rfl ?_;obtain⟨rfl,rfl,rfl⟩:=h;exact gE J [(1,vD ((Tree.node 15 [] [] []).kind) ((Tree.node 15 [] [] []).text) ((Tree.node 15 [] [] []).leads) ((Tree.node 15 [] [] []).kids))] [(4,.ptr 1 0)] [0,1] [.cell 4 29] (hH:=⟨⟨_,rfl,⟨rfl,(.cons .rfl (.cons .rfl (.cons (.nil 1) (.cons (.nil 4) .nil))))⟩⟩,⟨⟨_,rfl,⟨rfl,aK.rfl⟩⟩,trivial⟩⟩);refine gR 12 rfl ?_;obtain⟨rfl,rfl,rfl⟩:=h;exact gE J [(1,vD ((Tree.node 10 [51] [] []).kind) ((Tree.node 10 [51] [] []).text) ((Tree.node 10 [51] [] []).leads) ((Tree.node 10 [51] [] []).kids))] [(4,.ptr 1 0)] [0,1] [.cell 4 29] (hH:=⟨⟨_,rfl,⟨rfl,(.cons .rfl (.cons .rfl (.cons (.nil 1) (.cons (.nil 4) .nil))))⟩⟩,⟨⟨_,rfl,⟨rfl,aK.rfl⟩⟩,trivial⟩⟩);exact gR 1 rfl<|qJ J (h K J) [0,1]
theorem rL6_semvcsmake_Expr(m:Nat)(p1:Int)(c:List Int)(d a:Int)(J:Tree)(e:List Int)(b:Int)(h:((a=6)→oa m p1 c d a true J e b)∧((a≠6)→oa m p1 c d a (a==7) J e b)):kO (m+1) p1 c d a J e b:=by
 intro K G;refine gR 7 rfl<|qBeZ 57 58 rfl rfl rfl rfl h ?_ ?_<;>intro h;exact gR 3 rfl<|qJ G (h K G) [0,1];exact gR 6 rfl<|qJ G (h K G) [0,1]
theorem nu(m:Nat)(p1:Int)(b:List Int)(c f:Int)(d:Bool)(J:Tree)(e:List Int)(a:Int)(h:((d=true)→oL m p1 b c J e a)∧((d=false)→il m p1 b c f J e a)):oa (m+1) p1 b c f d J e a:=by
 intro K G;refine qBi 57 rfl rfl rfl h ?_ ?_<;>intro h;exact gR 1 rfl<|qJ G (h K G) [0,1];exact gR 1 rfl<|qJ G (h K G) [0,1]
theorem yB(m:Nat)(p1:Int)(i:List Int)(j:Int)(r0:Tree)(k:List Int)(a:Int)(h:∃b c d,bH i j [[102],[103],[104],[65,46,102],[66,46,103],[65,46,104]] b c d∧∃e f g,aP c d 4 e f g∧jU m p1 b f g ([]:List Tree) e r0 k a):oL (m+1) p1 i j r0 k a:=by
 intro K hK;refine gR 4 rfl<|gFR 2 rfl rfl rfl rfl ?_;obtain⟨b,c,d,l,h⟩:=h;refine qC l [0] ?_;refine gR 9 rfl ?_;obtain⟨e,f,g,n,h⟩:=h;refine qC n [0] ?_;exact gR 4 rfl<|go_loop m<|gNC 4 3 29 4 rfl rfl rfl rfl<|qW hK h [0,1,4,6]
theorem so(m:Nat)(p1:Int)(f:List Int)(g e:Int)(r0:Tree)(i:List Int)(b:Int)(h:((e=8)→∃a c d,aP f g 3 a c d∧InI (1+a)∧jN m p1 c d ([]:List Tree) (1+a) r0 i b)∧((e≠8)→jQ m p1 f g e r0 i b)):il (m+1) p1 f g e r0 i b:=by
 intro K hK;refine gR 6 rfl<|qXeZ 82 83 rfl rfl rfl rfl h ?_ ?_<;>intro hd h;refine gR 12 rfl ?_;obtain⟨a,c,d,j,h⟩:=h;refine qC j [0] ?_;obtain⟨hb,h⟩:=h;exact gR 1 rfl<|gV 87 (qi (1+a)) rfl (ao hb rfl) rfl<|gR 4 rfl<|go_loop m<|gNC 2 3 29 4 rfl rfl rfl rfl<|qW hK h [0,1,2,4];exact gR 1 rfl<|qJ hK (h K hK) [0,1]
theorem rz(m:Nat)(p1:Int)(d:List UInt8)(e:List Int)(f:Int)(b:List Tree)(c:Int)(G:Tree)(k:List Int)(g:Int)(h:((0<c)→InI (p1-1)∧∃a i j,aY e f (p1-1) a i j∧(b++[(Tree.node 17 [] [] [a])]).length≤1000000000∧InI (c-1)∧jU m p1 d i j (b++[(Tree.node 17 [] [] [a])]) (c-1) G k g)∧((¬0<c)→(Tree.node 16 d [] b)=G∧e=k∧f=g)):jU (m+1) p1 d e f b c G k g:=by
 refine qj λK O J n=>?_;refine gR 7 rfl<|qXd 67 rfl rfl rfl h ?_ ?_<;>intro U h;refine gR 5 rfl<|qDs [2] 11 12<|qDr [(0,2),(1,3),(2,2),(3,0)] rfl rfl ?_;obtain⟨hb,h⟩:=h;refine qDr [(4,0)] rfl rfl<|gV 74 (qi (p1-1)) rfl (ao hb rfl) rfl ?_;obtain⟨a,i,j,l,h⟩:=h;refine qDC 5 l [0] rfl ?_;refine qDr [(6,0)] rfl rfl<|gHR 6 (kidsV [a]) rfl (mS a) rfl<|qDr [(7,0)] rfl rfl<|gFR 6 rfl (dn _) rfl rfl<|gS 77 (.agg [qi 17,.str [],.row 1 [],.row 4 (kidsV [a])]) rfl (.agg (.cons .rfl (.cons .rfl (.cons (.nil 1) (.cons .rfl .nil))))) rfl<|qDr [(8,0)] rfl rfl<|gHR 7 (kidsV [(Tree.node 17 [] [] [a])]) rfl (mS (Tree.node 17 [] [] [a])) rfl ?_;obtain⟨hb,h⟩:=h;refine bh 9 (.repl 3 (.row 29 4 (kidsV (b++[(Tree.node 17 [] [] [a])])))) rfl (by kernel_rfl) (bI ai rfl rfl rfl rfl rfl (kr b [(Tree.node 17 [] [] [a])]).symm (by rw[aD];exact hb)) (okR rfl) rfl (by kernel_rfl) rfl rfl ?_;refine qDr [(10,0),(11,1)] rfl rfl<|qDe<|gR 4 rfl ?_;obtain⟨hb,h⟩:=h;exact gR 1 rfl<|gV 69 (qi (c-1)) rfl (ao hb rfl) rfl<|gR 2 rfl<|go_xloop<|qW J h [0,1,2,8];refine gR 3 rfl<|go_xloopE<|gR 11 rfl<|gFR 3 rfl (dn _) rfl rfl ?_;obtain⟨rfl,rfl,rfl⟩:=h;exact gE J [(1,vD ((Tree.node 16 d [] b).kind) ((Tree.node 16 d [] b).text) ((Tree.node 16 d [] b).leads) ((Tree.node 16 d [] b).kids))] [(4,.ptr 1 0)] [0,1] [.cell 4 29] (hH:=⟨⟨_,rfl,⟨rfl,(.cons .rfl (.cons .rfl (.cons (.nil 1) (.cons .rfl .nil))))⟩⟩,⟨⟨_,rfl,⟨rfl,aK.rfl⟩⟩,trivial⟩⟩)
theorem rk(m:Nat)(p1:Int)(d:List Int)(e:Int)(a:List Tree)(c:Int)(G:Tree)(j:List Int)(f:Int)(h:((0<c)→InI (p1-1)∧∃b g i,aY d e (p1-1) b g i∧(a++[b]).length≤1000000000∧InI (c-1)∧jN m p1 g i (a++[b]) (c-1) G j f)∧((¬0<c)→(Tree.node 18 [] [] a)=G∧d=j∧e=f)):jN (m+1) p1 d e a c G j f:=by
 refine qj λK O J l=>?_;refine gR 7 rfl<|qXd 89 rfl rfl rfl h ?_ ?_<;>intro U h;refine gR 5 rfl<|qDs [2] 9 10<|qDr [(0,2),(1,3),(2,2),(3,0)] rfl rfl ?_;obtain⟨hb,h⟩:=h;refine qDr [(4,0)] rfl rfl<|gV 96 (qi (p1-1)) rfl (ao hb rfl) rfl ?_;obtain⟨b,g,i,k,h⟩:=h;refine qDC 5 k [0] rfl ?_;refine qDr [(6,0)] rfl rfl<|gHR 6 (kidsV [b]) rfl (mS b) rfl ?_;obtain⟨hb,h⟩:=h;refine bh 7 (.repl 3 (.row 29 4 (kidsV (a++[b])))) rfl (by kernel_rfl) (bI ai rfl rfl rfl rfl rfl (kr a [b]).symm (by rw[aD];exact hb)) (okR rfl) rfl (by kernel_rfl) rfl rfl ?_;refine qDr [(8,0),(9,1)] rfl rfl<|qDe<|gR 4 rfl ?_;obtain⟨hb,h⟩:=h;exact gR 1 rfl<|gV 91 (qi (c-1)) rfl (ao hb rfl) rfl<|gR 2 rfl<|go_xloop<|qW J h [0,1,2,7];refine gR 3 rfl<|go_xloopE<|gR 11 rfl<|gFR 3 rfl (dn _) rfl rfl ?_;obtain⟨rfl,rfl,rfl⟩:=h;exact gE J [(1,vD ((Tree.node 18 [] [] a).kind) ((Tree.node 18 [] [] a).text) ((Tree.node 18 [] [] a).leads) ((Tree.node 18 [] [] a).kids))] [(4,.ptr 1 0)] [0,1] [.cell 4 29] (hH:=⟨⟨_,rfl,⟨rfl,(.cons .rfl (.cons .rfl (.cons (.nil 1) (.cons .rfl .nil))))⟩⟩,⟨⟨_,rfl,⟨rfl,aK.rfl⟩⟩,trivial⟩⟩)
theorem rJ(m:Nat)(p1:Int)(c:List Int)(d b:Int)(J:Tree)(e:List Int)(a:Int)(h:((b=9)→sj m p1 c d J e a)∧((b≠9)→gN m p1 c d b J e a)):jQ (m+1) p1 c d b J e a:=by
 intro K G;refine gR 6 rfl<|qBeZ 102 103 rfl rfl rfl rfl h ?_ ?_<;>intro h;exact gR 1 rfl<|qJ G (h K G) [0,1];exact gR 1 rfl<|qJ G (h K G) [0,1]
theorem xY(m:Nat)(p1:Int)(l:List Int)(n:Int)(G:Tree)(o:List Int)(k:Int)(h:InI (p1-1)∧∃a d e,aY l n (p1-1) a d e∧InI (p1-1)∧∃b f g,aY d e (p1-1) b f g∧InI (p1-1)∧∃c i j,aY f g (p1-1) c i j∧(Tree.node 19 [] [] [a,b,c])=G∧i=o∧j=k):sj (m+1) p1 l n G o k:=by
 intro K J;refine gR 4 rfl ?_;obtain⟨hb,h⟩:=h;refine gR 1 rfl<|gV 106 (qi (p1-1)) rfl (ao hb rfl) rfl ?_;obtain⟨a,d,e,p,h⟩:=h;refine qC p [0] ?_;refine gR 2 rfl ?_;obtain⟨hb,h⟩:=h;refine gR 1 rfl<|gV 110 (qi (p1-1)) rfl (ao hb rfl) rfl ?_;obtain⟨b,f,g,q,h⟩:=h;refine qC q [0] ?_;refine gR 2 rfl ?_;obtain⟨hb,h⟩:=h;refine gR 1 rfl<|gV 114 (qi (p1-1)) rfl (ao hb rfl) rfl ?_;obtain⟨c,i,j,r,h⟩:=h;refine qC r [0] ?_;refine gR 1 rfl<|gHR 8 (kidsV [a,b,c]) rfl (Cc [a,b,c]) rfl<|gR 7 rfl<|gFR 8 rfl (dn _) rfl rfl ?_;obtain⟨rfl,rfl,rfl⟩:=h;exact gE J [(1,vD ((Tree.node 19 [] [] [a,b,c]).kind) ((Tree.node 19 [] [] [a,b,c]).text) ((Tree.node 19 [] [] [a,b,c]).leads) ((Tree.node 19 [] [] [a,b,c]).kids))] [(4,.ptr 1 0)] [0,1] [.cell 4 29] (hH:=⟨⟨_,rfl,⟨rfl,(.cons .rfl (.cons .rfl (.cons (.nil 1) (.cons .rfl .nil))))⟩⟩,⟨⟨_,rfl,⟨rfl,aK.rfl⟩⟩,trivial⟩⟩)
theorem rL14_semvcsmake_Expr(m:Nat)(p1:Int)(c:List Int)(d a:Int)(J:Tree)(e:List Int)(b:Int)(h:((a=10)→nD m p1 c d a true J e b)∧((a≠10)→nD m p1 c d a (a==11) J e b)):gN (m+1) p1 c d a J e b:=by
 intro K G;refine gR 7 rfl<|qBeZ 118 119 rfl rfl rfl rfl h ?_ ?_<;>intro h;exact gR 3 rfl<|qJ G (h K G) [0,1];exact gR 6 rfl<|qJ G (h K G) [0,1]
theorem mC(m:Nat)(p1:Int)(c:List Int)(d f:Int)(a:Bool)(J:Tree)(e:List Int)(b:Int)(h:((a=true)→nH m p1 c d J e b)∧((a=false)→jV m p1 c d f J e b)):nD (m+1) p1 c d f a J e b:=by
 intro K G;refine qBi 118 rfl rfl rfl h ?_ ?_<;>intro h;exact gR 1 rfl<|qJ G (h K G) [0,1];exact gR 1 rfl<|qJ G (h K G) [0,1]
theorem yu(m:Nat)(p1:Int)(l:List Int)(n:Int)(G:Tree)(o:List Int)(k:Int)(h:∃c d e,bH l n [[120],[121],[122]] c d e∧InI (p1-1)∧∃a f g,aY d e (p1-1) a f g∧InI (p1-1)∧∃b i j,aY f g (p1-1) b i j∧(Tree.node 20 c [] [a,b])=G∧i=o∧j=k):nH (m+1) p1 l n G o k:=by
 intro K J;refine gR 4 rfl<|gFR 2 rfl rfl rfl rfl ?_;obtain⟨c,d,e,p,h⟩:=h;refine qC p [0] ?_;refine gR 2 rfl ?_;obtain⟨hb,h⟩:=h;refine gR 1 rfl<|gV 126 (qi (p1-1)) rfl (ao hb rfl) rfl ?_;obtain⟨a,f,g,q,h⟩:=h;refine qC q [0] ?_;refine gR 2 rfl ?_;obtain⟨hb,h⟩:=h;refine gR 1 rfl<|gV 130 (qi (p1-1)) rfl (ao hb rfl) rfl ?_;obtain⟨b,i,j,r,h⟩:=h;refine qC r [0] ?_;refine gR 1 rfl<|gHR 8 (kidsV [a,b]) rfl (Cc [a,b]) rfl<|gR 7 rfl<|gFR 8 rfl (dn _) rfl rfl ?_;obtain⟨rfl,rfl,rfl⟩:=h;exact gE J [(1,vD ((Tree.node 20 c [] [a,b]).kind) ((Tree.node 20 c [] [a,b]).text) ((Tree.node 20 c [] [a,b]).leads) ((Tree.node 20 c [] [a,b]).kids))] [(4,.ptr 1 0)] [0,1] [.cell 4 29] (hH:=⟨⟨_,rfl,⟨rfl,(.cons .rfl (.cons .rfl (.cons (.nil 1) (.cons .rfl .nil))))⟩⟩,⟨⟨_,rfl,⟨rfl,aK.rfl⟩⟩,trivial⟩⟩)
theorem mA(m:Nat)(p1:Int)(e:List Int)(f g:Int)(G:Tree)(i:List Int)(b:Int)(h:((g=12)→sd m p1 e f G i b)∧((g≠12)→InI (p1-1)∧∃a c d,aY e f (p1-1) a c d∧(Tree.node 22 [] [] [a])=G∧c=i∧d=b)):jV (m+1) p1 e f g G i b:=by
 intro K J;refine gR 6 rfl<|qBeZ 134 135 rfl rfl rfl rfl h ?_ ?_<;>intro h;exact gR 1 rfl<|qJ J (h K J) [0,1];refine gR 8 rfl ?_;obtain⟨hb,h⟩:=h;refine gR 1 rfl<|gV 164 (qi (p1-1)) rfl (ao hb rfl) rfl ?_;obtain⟨a,c,d,j,h⟩:=h;refine qC j [0] ?_;refine gR 1 rfl<|gHR 4 (kidsV [a]) rfl (mS a) rfl<|gR 5 rfl<|gFR 4 rfl (dn _) rfl rfl ?_;obtain⟨rfl,rfl,rfl⟩:=h;exact gE J [(1,vD ((Tree.node 22 [] [] [a]).kind) ((Tree.node 22 [] [] [a]).text) ((Tree.node 22 [] [] [a]).leads) ((Tree.node 22 [] [] [a]).kids))] [(4,.ptr 1 0)] [0,1] [.cell 4 29] (hH:=⟨⟨_,rfl,⟨rfl,(.cons .rfl (.cons .rfl (.cons (.nil 1) (.cons .rfl .nil))))⟩⟩,⟨⟨_,rfl,⟨rfl,aK.rfl⟩⟩,trivial⟩⟩)
theorem rE(m:Nat)(p1:Int)(α:List Int)(β:Int)(G:Tree)(z:List Int)(t:Int)(h:∃d v w,bH α β [[43],[45],[42],[60],[61,61]] d v w∧InI (p1-1)∧∃a x y,gp v w (p1-1) a x y∧∃g i j,aP x y 3 g i j∧((g=0)→∃c k l,bH i j [[43],[42]] c k l∧∃b n o,gp k l 0 b n o∧InI (p1-1)∧∃e p q,gp n o (p1-1) e p q∧(Tree.node 21 d [] [(Tree.node 21 c [] [a,b]),e])=G∧p=z∧q=t)∧((g≠0)→InI (p1-1)∧∃f r s,gp i j (p1-1) f r s∧(Tree.node 21 d [] [a,f])=G∧r=z∧s=t)):sd (m+1) p1 α β G z t:=by
 intro K J;refine gR 4 rfl<|gFR 2 rfl rfl rfl rfl ?_;obtain⟨d,v,w,γ,h⟩:=h;refine qC γ [0] ?_;refine gR 7 rfl ?_;obtain⟨hb,h⟩:=h;refine gR 1 rfl<|gV 141 (qi (p1-1)) rfl (ao hb rfl) rfl ?_;obtain⟨a,x,y,δ,h⟩:=h;refine qC δ [0] ?_;refine gR 8 rfl ?_;obtain⟨g,i,j,ε,h⟩:=h;refine qC ε [0] ?_;refine gR 3 rfl<|qBe 145 rfl rfl rfl h ?_ ?_<;>intro h;refine gR 1 rfl<|qDs [6] 8 9<|qDr [(0,2),(3,3),(4,2),(1,0)] rfl rfl<|gFR 8 rfl rfl rfl rfl ?_;obtain⟨c,k,l,ζ,h⟩:=h;refine qDC 2 ζ [0] rfl ?_;obtain⟨b,n,o,η,h⟩:=h;refine qDC 5 η [0] rfl ?_;refine qDr [(6,0)] rfl rfl<|gHR 12 (kidsV [a,b]) rfl (Cc [a,b]) rfl<|qDr [(7,0),(8,1)] rfl rfl<|qDe<|gR 2 rfl<|qDs [6] 8 9<|qDr [(0,2),(1,3),(2,2),(3,0)] rfl rfl ?_;obtain⟨hb,h⟩:=h;refine qDr [(4,0)] rfl rfl<|gV 158 (qi (p1-1)) rfl (ao hb rfl) rfl ?_;obtain⟨e,p,q,θ,h⟩:=h;refine qDC 5 θ [0] rfl ?_;refine gFR 12 rfl (dn _) rfl rfl<|gS 155 (.agg [qi 21,.str c,.row 1 [],.row 4 (kidsV [a,b])]) rfl (.agg (.cons .rfl (.cons .rfl (.cons (.nil 1) (.cons .rfl .nil))))) rfl<|qDr [(6,0)] rfl rfl<|gHR 15 (kidsV [(Tree.node 21 c [] [a,b]),e]) rfl (Cc [(Tree.node 21 c [] [a,b]),e]) rfl<|qDr [(7,0),(8,1)] rfl rfl<|qDe<|gR 4 rfl<|gFR 15 rfl (dn _) rfl rfl ?_;obtain⟨rfl,rfl,rfl⟩:=h;exact gE J [(1,vD ((Tree.node 21 d [] [(Tree.node 21 c [] [a,b]),e]).kind) ((Tree.node 21 d [] [(Tree.node 21 c [] [a,b]),e]).text) ((Tree.node 21 d [] [(Tree.node 21 c [] [a,b]),e]).leads) ((Tree.node 21 d [] [(Tree.node 21 c [] [a,b]),e]).kids))] [(4,.ptr 1 0)] [0,1] [.cell 4 29] (hH:=⟨⟨_,rfl,⟨rfl,(.cons .rfl (.cons .rfl (.cons (.nil 1) (.cons .rfl .nil))))⟩⟩,⟨⟨_,rfl,⟨rfl,aK.rfl⟩⟩,trivial⟩⟩);refine gR 4 rfl<|qDs [6] 8 9<|qDr [(0,2),(1,3),(2,2),(3,0)] rfl rfl ?_;obtain⟨hb,h⟩:=h;refine qDr [(4,0)] rfl rfl<|gV 158 (qi (p1-1)) rfl (ao hb rfl) rfl ?_;obtain⟨f,r,s,ι,h⟩:=h;refine qDC 5 ι [0] rfl ?_;refine qDr [(6,0)] rfl rfl<|gHR 10 (kidsV [a,f]) rfl (Cc [a,f]) rfl<|qDr [(7,0),(8,1)] rfl rfl<|qDe<|gR 4 rfl<|gFR 10 rfl (dn _) rfl rfl ?_;obtain⟨rfl,rfl,rfl⟩:=h;exact gE J [(1,vD ((Tree.node 21 d [] [a,f]).kind) ((Tree.node 21 d [] [a,f]).text) ((Tree.node 21 d [] [a,f]).leads) ((Tree.node 21 d [] [a,f]).kids))] [(4,.ptr 1 0)] [0,1] [.cell 4 29] (hH:=⟨⟨_,rfl,⟨rfl,(.cons .rfl (.cons .rfl (.cons (.nil 1) (.cons .rfl .nil))))⟩⟩,⟨⟨_,rfl,⟨rfl,aK.rfl⟩⟩,trivial⟩⟩)
def lz(m:Nat)(a:List UInt8)(c:List Int)(d:Int)(e:List Tree)(f:Int)(O:Tree)(g:List Int)(b:Int):Prop:=∀(K:Ctx) (J:Nat),aw K [0]→m≤J→qLG K f70 (λu G=>u=.agg (al O)∧G=⟨2,[(0,vC g b)]⟩) (xK (aj f70)) [.loop (xK (aj f70)) J,.blk 0,.seq (xH (aj f70))] 47 (mkF 47 0 [(0,.ptr 0 0),(2,.ptr 1 0),(3,.ptr 2 0),(4,qi f)]) ⟨4,[(3,.row 29 4 (kidsV e)),(2,.var 29 [qi 2,.str a,.nils,.sl 3]),(1,vE 0 []),(0,vC c d)]⟩
theorem tS(m:Nat)(v:List Int)(o:Int)(r0:Tree)(p:List Int)(c:Int)(h:∃k l n,aP v o 5 k l n∧((k=0)→∃b q r,bH l n [[84],[85]] b q r∧∃a s t,dA q r 2 a s t∧(Tree.node 3 b [] [a])=r0∧s=p∧t=c)∧((k≠0)→∃d e f,bH l n [[102],[103],[104]] d e f∧∃g i j,aP e f 4 g i j∧lz m d i j ([]:List Tree) g r0 p c)):qx v o r0 p c:=by
 refine qA 47 [0] func70 λK hK=>?_;refine gR 9 rfl ?_;obtain⟨k,l,n,w,h⟩:=h;refine qC w [0] ?_;refine gR 3 rfl<|qXe 7 rfl rfl rfl h ?_ ?_<;>intro hd h;refine gR 5 rfl<|gFR 3 rfl rfl rfl rfl ?_;obtain⟨b,q,r,x,h⟩:=h;refine qC x [0] ?_;refine gR 1 rfl ?_;obtain⟨a,s,t,y,h⟩:=h;refine qC y [0] ?_;refine gR 1 rfl<|gHR 7 (kidsV [a]) rfl (mS a) rfl<|gR 6 rfl<|gFR 7 rfl (dn _) rfl rfl ?_;obtain⟨rfl,rfl,rfl⟩:=h;exact gE hK [(1,vD ((Tree.node 3 b [] [a]).kind) ((Tree.node 3 b [] [a]).text) ((Tree.node 3 b [] [a]).leads) ((Tree.node 3 b [] [a]).kids))] [(2,.ptr 1 0)] [0,1] [.cell 2 29] (hH:=⟨⟨_,rfl,⟨rfl,(.cons .rfl (.cons .rfl (.cons (.nil 1) (.cons .rfl .nil))))⟩⟩,⟨⟨_,rfl,⟨rfl,aK.rfl⟩⟩,trivial⟩⟩);refine gR 7 rfl<|gFR 3 rfl rfl rfl rfl ?_;obtain⟨d,e,f,z,h⟩:=h;refine qC z [0] ?_;refine gR 9 rfl ?_;obtain⟨g,i,j,α,h⟩:=h;refine qC α [0] ?_;exact gR 4 rfl<|go_loop m<|gNC 5 3 29 4 rfl rfl rfl rfl<|qW hK h [0,1,5,7]
theorem ti(m:Nat)(e:List UInt8)(l:List Int)(n:Int)(b:List Tree)(g:Int)(G:Tree)(o:List Int)(i:Int)(h:((0<g)→∃f p q,bH l n [[120],[121],[122]] f p q∧∃c r s,dA p q 1 c r s∧(b++[(Tree.node 4 f [] [c])]).length≤1000000000∧InI (g-1)∧lz m e r s (b++[(Tree.node 4 f [] [c])]) (g-1) G o i)∧((¬0<g)→∃d t v,dA l n 1 d t v∧∃a j k,aY t v 3 a j k∧(b++[d,a]).length≤1000000000∧(Tree.node 2 e [] (b++[d,a]))=G∧j=o∧k=i)):lz (m+1) e l n b g G o i:=by
 refine qj λK O J α=>?_;refine gR 7 rfl<|qXd 22 rfl rfl rfl h ?_ ?_<;>intro U h;refine gR 5 rfl<|qDs [2] 12 13<|qDr [(0,2),(1,3),(2,2),(5,2),(3,0)] rfl rfl<|gFR 4 rfl rfl rfl rfl ?_;obtain⟨f,p,q,w,h⟩:=h;refine qDC 4 w [0] rfl ?_;obtain⟨c,r,s,x,h⟩:=h;refine qDC 6 x [0] rfl ?_;refine qDr [(7,0)] rfl rfl<|gHR 8 (kidsV [c]) rfl (mS c) rfl<|qDr [(8,0)] rfl rfl<|gFR 8 rfl (dn _) rfl rfl<|gS 33 (.agg [qi 4,.str f,.row 1 [],.row 4 (kidsV [c])]) rfl (.agg (.cons .rfl (.cons .rfl (.cons (.nil 1) (.cons .rfl .nil))))) rfl<|qDr [(9,0)] rfl rfl<|gHR 9 (kidsV [(Tree.node 4 f [] [c])]) rfl (mS (Tree.node 4 f [] [c])) rfl ?_;obtain⟨hb,h⟩:=h;refine bh 10 (.repl 3 (.row 29 4 (kidsV (b++[(Tree.node 4 f [] [c])])))) rfl (by kernel_rfl) (bI ai rfl rfl rfl rfl rfl (kr b [(Tree.node 4 f [] [c])]).symm (by rw[aD];exact hb)) (okR rfl) rfl (by kernel_rfl) rfl rfl ?_;refine qDr [(11,0),(12,1)] rfl rfl<|qDe<|gR 4 rfl ?_;obtain⟨hb,h⟩:=h;exact gR 1 rfl<|gV 24 (qi (g-1)) rfl (ao hb rfl) rfl<|gR 2 rfl<|go_xloop<|qW J h [0,1,2,10];refine gR 3 rfl<|go_xloopE<|gR 3 rfl<|qDs [2] 9 10<|qDr [(0,2),(1,3),(2,2),(4,2)] rfl rfl ?_;obtain⟨d,t,v,y,h⟩:=h;refine qDC 3 y [0] rfl ?_;obtain⟨a,j,k,z,h⟩:=h;refine qDC 5 z [0] rfl ?_;refine qDr [(6,0)] rfl rfl<|gHR 8 (kidsV [d,a]) rfl (Cc [d,a]) rfl ?_;obtain⟨hb,h⟩:=h;refine bh 7 (.repl 3 (.row 29 4 (kidsV (b++[d,a])))) rfl (by kernel_rfl) (bI ai rfl rfl rfl rfl rfl (kr _ _).symm (by rw[aD];exact hb)) (okR rfl) rfl (by kernel_rfl) rfl rfl ?_;refine qDr [(8,0),(9,1)] rfl rfl<|qDe<|gR 8 rfl<|gFR 9 rfl (dn _) rfl rfl ?_;obtain⟨rfl,rfl,rfl⟩:=h;exact gE J [(1,vD ((Tree.node 2 e [] (b++[d,a])).kind) ((Tree.node 2 e [] (b++[d,a])).text) ((Tree.node 2 e [] (b++[d,a])).leads) ((Tree.node 2 e [] (b++[d,a])).kids))] [(2,.ptr 1 0)] [0,1] [.cell 2 29] (hH:=⟨⟨_,rfl,⟨rfl,(.cons .rfl (.cons .rfl (.cons (.nil 1) (.cons .rfl .nil))))⟩⟩,⟨⟨_,rfl,⟨rfl,aK.rfl⟩⟩,trivial⟩⟩)
def eV(m:Nat)(p1:Tree)(b:List Int)(c:Int)(d:(List (List UInt8)))(e:Nat)(O:Tree)(f:List Int)(a:Int):Prop:=∀(K:Ctx) (J:Nat),aw K [0]→m≤J→qLG K f72 (λu G=>u=.agg (al O)∧G=⟨2,[(0,vC f a)]⟩) (xL (aj f72)) [.loop (xL (aj f72)) J,.blk 0,.seq (xF (aj f72))] 53 (mkF 53 0 [(0,.ptr 0 0),(3,.ptr 1 0),(4,.ptr 2 0),(5,qi (e:Int))]) ⟨4,[(3,.row 9 1 (List.map V.str d)),(2,vE 0 []),(1,.var 29 [qi p1.kind,.str p1.text,.sl 3,.row 4 (kidsV p1.kids)]),(0,vC b c)]⟩
def gW(m:Nat)(p1:Tree)(b:List Int)(c:Int)(d:List Tree)(e:Nat)(f:(List (List UInt8)))(O:Tree)(g:List Int)(a:Int):Prop:=∀(K:Ctx) (J:Nat),aw K [0]→m≤J→qLG K f72 (λu G=>u=.agg (al O)∧G=⟨2,[(0,vC g a)]⟩) (xG (xH (aj f72))) [.loop (xG (xH (aj f72))) J,.blk 2,.seq (xA (xF (aj f72)))] 53 (mkF 53 0 [(0,.ptr 0 0),(3,.ptr 1 0),(4,.ptr 2 0),(6,qi (e:Int))]) ⟨5,[(4,.row 29 4 (kidsV d)),(3,.row 9 1 (List.map V.str f)),(2,vE 0 []),(1,.var 29 [qi p1.kind,.str p1.text,.sl 3,.sl 4]),(0,vC b c)]⟩
theorem yC(m:Nat)(c:List Int)(a:Int)(p1 r0:Tree)(d:List Int)(b:Int)(h:p1.leads.length≤1000000000∧eV m p1 c a p1.leads 0 r0 d b):kP c a p1 r0 d b:=by
 refine qA 53 [0] func72 λK hK=>?_;refine gR 11 rfl ?_;obtain⟨hb,h⟩:=h;exact gDo (.repl 3 (.row 9 1 (List.map V.str p1.leads))) (bI ai rfl rfl rfl rfl rfl (List.nil_append _) (by rw[aB];exact hb)) (okR rfl) rfl rfl rfl<|gR 11 rfl<|go_loop m<|qW hK h [0,1,2,4]
theorem mx(m:Nat)(p1:Tree)(l:List Int)(n:Int)(b:(List (List UInt8)))(a:Nat)(r0:Tree)(e:List Int)(c:Int)(h:((a<b.length)→∃g i j,aP l n 9 g i j∧((g=1)→∃d o p,bH i j [[32,35,32,99,10],[32,32],[10,9],[35,10]] d o p∧∃q,b[a]?=some q∧eV m p1 o p (b.set a d) (a+1) r0 e c)∧((g≠1)→eV m p1 i j b (a+1) r0 e c))∧((¬a<b.length)→p1.kids.length≤1000000000∧gW m p1 l n p1.kids 0 b r0 e c)):eV (m+1) p1 l n b a r0 e c:=by
 refine qj λK j1 hK v=>?_;refine gR 7 rfl<|gV 15 (qi (b.length:Int)) rfl (aJ (aB V.str _)) rfl<|gLO 3 rfl (aB V.str _) λr=>gR 3 rfl<|qXh 16 rfl rfl rfl h bX bY ?_ ?_<;>intro hd h;refine gR 8 rfl ?_;obtain⟨g,i,j,s,h⟩:=h;refine qC s [0] ?_;refine gR 3 rfl<|qXe 21 rfl rfl rfl h ?_ ?_<;>intro hd h;refine gR 1 rfl<|qDs [1] 7 8<|qDr [(0,2),(1,3),(2,2),(3,2),(4,0)] rfl rfl<|gFR 5 rfl rfl rfl rfl ?_;obtain⟨d,o,p,t,h⟩:=h;refine qDC 5 t [0] rfl ?_;obtain⟨q,k,h⟩:=h;refine bD 6 rfl (by kernel_rfl) (yIO ai rfl rfl rfl rfl (qG (ar (f:=V.str) k))) rfl rfl ?_;refine bh 7 (.set 3 (.row 9 1 (List.map V.str (b.set a d)))) rfl (by kernel_rfl) (dSe ai rfl rfl rfl rfl (ar (f:=V.str) k) rfl (ln V.str b a d)) (okS rfl) rfl (by kernel_rfl) rfl rfl ?_;exact qDe<|gR 5 rfl<|gV 18 (qi ((a+1:Nat):Int)) rfl (ao (by have :=r;omega) (by omega)) rfl<|gR 2 rfl<|go_xloop<|qW hK h [0,1,2,3];exact gR 7 rfl<|gV 18 (qi ((a+1:Nat):Int)) rfl (ao (by have :=r;omega) (by omega)) rfl<|gR 2 rfl<|go_xloop<|qW hK h [0,1,2,3];refine gR 3 rfl<|go_xloopE<|gR 7 rfl ?_;obtain⟨hb,h⟩:=h;exact gDo (.repl 4 (.row 29 4 (kidsV p1.kids))) (bI ai rfl rfl rfl rfl rfl (List.nil_append _) (by rw[aD];exact hb)) (okR rfl) rfl rfl rfl<|gR 11 rfl<|go_loop m<|qW hK h [0,1,2,3,5]
theorem ri(m:Nat)(p1:Tree)(i:List Int)(j:Int)(a:List Tree)(b:Nat)(c:(List (List UInt8)))(G:Tree)(k:List Int)(e:Int)(h:((b<a.length)→∃l,a[b]?=some l∧∃d n o,kP i j l d n o∧∃p,a[b]?=some p∧gW m p1 n o (a.set b d) (b+1) c G k e)∧((¬b<a.length)→(Tree.node p1.kind p1.text c a)=G∧i=k∧j=e)):gW (m+1) p1 i j a b c G k e:=by
 refine qj λK O J s=>?_;refine gR 7 rfl<|gV 37 (qi (a.length:Int)) rfl (aJ (aD _)) rfl<|gLO 4 rfl (aD _) λq=>gR 3 rfl<|qXh 38 rfl rfl rfl h bX bY ?_ ?_<;>intro U h;refine gR 5 rfl<|qDs [1,4] 11 12<|qDr ((0,2)::(1,3)::(qR 2 3 2 [(5,3),(6,0)])) rfl rfl ?_;obtain⟨l,f,h⟩:=h;refine bD 7 rfl (by kernel_rfl) (yIO ai rfl rfl rfl rfl (by have :=(aq f);exact(List.getElem?_eq_some_iff.1 this).1)) rfl rfl ?_;refine bh 8 (.nop) rfl (by kernel_rfl) (dLe ai rfl rfl rfl (aq f) rfl) trivial rfl (by kernel_rfl) rfl rfl ?_;obtain⟨d,n,o,r,h⟩:=h;refine qDC 9 r [0] rfl ?_;obtain⟨p,g,h⟩:=h;refine bD 10 rfl (by kernel_rfl) (yIO ai rfl rfl rfl rfl (by have :=(aq g);exact(List.getElem?_eq_some_iff.1 this).1)) rfl rfl ?_;refine bh 11 (.set 4 (.row 29 4 (kidsV (a.set b d)))) rfl (by kernel_rfl) (dSe ai rfl rfl rfl rfl (aq g) rfl (MV a b d)) (okS rfl) rfl (by kernel_rfl) rfl rfl ?_;exact qDe<|gR 5 rfl<|gV 40 (qi ((b+1:Nat):Int)) rfl (ao (by have :=q;omega) (by omega)) rfl<|gR 2 rfl<|go_xloop<|qW J h [0,1,2,3,4];refine gR 3 rfl<|go_xloopE<|gR 9 rfl<|gFR 3 rfl (fR _ (λ_=>rfl) _) rfl rfl<|gFR 4 rfl (dn _) rfl rfl ?_;obtain⟨rfl,rfl,rfl⟩:=h;exact gE J [(1,vD ((Tree.node p1.kind p1.text c a).kind) ((Tree.node p1.kind p1.text c a).text) ((Tree.node p1.kind p1.text c a).leads) ((Tree.node p1.kind p1.text c a).kids))] [(4,.ptr 1 0)] [0,2] [.cell 4 29]
def jm(m:Nat)(p1:List UInt8)(b:List Int)(c:Int)(d:List Tree)(e:Int)(O:Tree)(f:List Int)(a:Int):Prop:=∀(K:Ctx) (J:Nat),aw K [0]→m≤J→qLG K f43 (λu G=>u=.agg (al O)∧G=⟨2,[(0,vC f a)]⟩) (xL (aj f43)) [.loop (xL (aj f43)) J,.blk 0,.seq (xF (aj f43))] 31 (mkF 31 0 [(0,.ptr 0 0),(4,.ptr 1 0),(5,.ptr 2 0),(6,qi e)]) ⟨4,[(3,.row 29 4 (kidsV d)),(2,.var 29 [qi 1,.str p1,.nils,.sl 3]),(1,vE 0 []),(0,vC b c)]⟩
theorem xx(m:Nat)(f:List Int)(a:Int)(p1:List UInt8)(r0:Tree)(g:List Int)(b:Int)(h:∃c d e,aP f a 4 c d e∧jm m p1 d e ([]:List Tree) c r0 g b):nC f a p1 r0 g b:=by
 refine qA 31 [0] func43 λK hK=>?_;refine gR 17 rfl ?_;obtain⟨c,d,e,i,h⟩:=h;refine qC i [0] ?_;exact gR 4 rfl<|go_loop m<|gNC 2 3 29 4 rfl rfl rfl rfl<|qW hK h [0,1,2,4]
theorem lQ(m:Nat)(p1:List UInt8)(n:List Int)(o:Int)(d:List Tree)(e:Int)(G:Tree)(i:List Int)(f:Int)(h:((0<e)→∃a p q,qx n o a p q∧(d++[a]).length≤1000000000∧InI (e-1)∧jm m p1 p q (d++[a]) (e-1) G i f)∧((¬0<e)→∃b,lT (Tree.node 1 p1 [] d) b∧∃j k l,aP n o 2 j k l∧((j=0)→∃c r g,kP k l b c r g∧c=G∧r=i∧g=f)∧((j≠0)→b=G∧k=i∧l=f))):jm (m+1) p1 n o d e G i f:=by
 refine qj λK U J x=>?_;refine gR 7 rfl<|qXd 12 rfl rfl rfl h ?_ ?_<;>intro O h;refine gR 5 rfl<|qDs [2] 7 8<|qDr [(0,2),(1,3),(2,0)] rfl rfl ?_;obtain⟨a,p,q,s,h⟩:=h;refine qDC 3 s [0] rfl ?_;refine qDr [(4,0)] rfl rfl<|gHR 6 (kidsV [a]) rfl (mS a) rfl ?_;obtain⟨hb,h⟩:=h;refine bh 5 (.repl 3 (.row 29 4 (kidsV (d++[a])))) rfl (by kernel_rfl) (bI ai rfl rfl rfl rfl rfl (kr d [a]).symm (by rw[aD];exact hb)) (okR rfl) rfl (by kernel_rfl) rfl rfl ?_;refine qDr [(6,0),(7,1)] rfl rfl<|qDe<|gR 4 rfl ?_;obtain⟨hb,h⟩:=h;exact gR 1 rfl<|gV 14 (qi (e-1)) rfl (ao hb rfl) rfl<|gR 2 rfl<|go_xloop<|qW J h [0,1,2,7];refine gR 3 rfl<|go_xloopE<|gR 5 rfl<|gFR 3 rfl (dn _) rfl rfl ?_;obtain⟨b,t,h⟩:=h;refine gC0 t (by kernel_rfl) rfl rfl (.cons (.agg (.cons .rfl (.cons .rfl (.cons (.nil 1) (.cons .rfl .nil))))) .nil) rfl<|gR 7 rfl ?_;obtain⟨j,k,l,v,h⟩:=h;refine qC v [0] ?_;refine gR 3 rfl<|qXe 26 rfl rfl rfl h ?_ ?_<;>intro O h;refine gR 4 rfl ?_;obtain⟨c,r,g,w,h⟩:=h;refine qC w [0] ?_;refine gR 10 rfl ?_;obtain⟨rfl,rfl,rfl⟩:=h;exact gE J [(1,vD c.kind c.text c.leads c.kids)] [(4,.ptr 1 0)] [0,1] [.cell 4 29];refine gR 10 rfl ?_;obtain⟨rfl,rfl,rfl⟩:=h;exact gE J [(1,vD b.kind b.text b.leads b.kids)] [(4,.ptr 1 0)] [0,1] [.cell 4 29]
def cj(m:Nat)(a:List Int)(b:Int)(c:List Tree)(d:Int)(J:List Tree):Prop:=∀(K:Ctx) (G:Nat),aw K []→m≤G→qLG K f17 (λu _=>u=.row 4 (kidsV J)) (xG (xH (aj f17))) [.loop (xG (xH (aj f17))) G,.blk 0,.seq (xA (xF (aj f17)))] 35 (mkF 35 0 [(3,.ptr 0 0),(4,.sl 1),(5,.sl 2),(6,qi d)]) ⟨3,[(2,.row 9 1 [.str [65],.str [66],.str [67]]),(1,.row 29 4 (kidsV c)),(0,vC a b)]⟩
theorem wQ(m:Nat)(p0:List Int)(r0:List Tree)(h:∃a b,tW p0 a b∧∃c d e,aP a b 4 c d e∧cj m d e ([]:List Tree) c r0):mH p0 r0:=by
 refine⟨rfl,rfl,?_⟩;refine qA 35 [] func17 λK hK=>?_;refine gR 8 rfl ?_;obtain⟨a,b,f,h⟩:=h;refine qC f [] ?_;refine gR 18 rfl ?_;obtain⟨c,d,e,g,h⟩:=h;refine qC g [0] ?_;exact gR 4 rfl<|go_loop m<|gNS 4 29 4 rfl rfl rfl rfl<|qW hK h [0,3,1]
theorem lu(m:Nat)(p:List Int)(q:Int)(c:List Tree)(b:Int)(G:List Tree)(h:((0<b)→∃l,[[65],[66],[67]][c.length]?=some l∧∃a n o,nC p q l a n o∧∃g d e,aP n o 8 g d e∧((g=7)→∃i,gP (Tree.node a.kind [65] a.leads a.kids) i∧((i=true)→(c++[(Tree.node a.kind [65] a.leads a.kids)]).length≤1000000000∧InI (b-1)∧cj m d e (c++[(Tree.node a.kind [65] a.leads a.kids)]) (b-1) G)∧((i=false)→InI (b-1)∧cj m d e c (b-1) G))∧((g≠7)→∃j,gP a j∧((j=true)→(c++[a]).length≤1000000000∧InI (b-1)∧cj m d e (c++[a]) (b-1) G)∧((j=false)→InI (b-1)∧cj m d e c (b-1) G)))∧((¬0<b)→c=G)):cj (m+1) p q c b G:=by
 refine qj λK U J x=>?_;refine gR 7 rfl<|qXd 14 rfl rfl rfl h ?_ ?_<;>intro O h;refine gR 11 rfl<|gV 20 (qi (c.length:Int)) rfl (aJ (aD _)) rfl<|gLO 1 rfl (aD _) λw=>?_;obtain⟨l,k,h⟩:=h;refine gY (yIO ai rfl rfl rfl rfl (qG (ar (f:=V.str) k))) rfl rfl ?_;refine gDo (.nop) (dLe ai rfl rfl rfl (ar (f:=V.str) k) rfl) trivial rfl rfl rfl ?_;obtain⟨a,n,o,r,h⟩:=h;refine qC r [0] ?_;refine gR 8 rfl ?_;obtain⟨g,d,e,s,h⟩:=h;refine qC s [0] ?_;refine gR 3 rfl<|qXe 26 rfl rfl rfl h ?_ ?_<;>intro O h;refine gR 9 rfl ?_;obtain⟨i,t,h⟩:=h;refine qC0 t rfl<|gR 2 rfl<|qXi 29 rfl rfl rfl h ?_ ?_<;>intro O h;refine gR 5 rfl<|gHR 7 (kidsV [(Tree.node a.kind [65] a.leads a.kids)]) rfl (mS (Tree.node a.kind [65] a.leads a.kids)) rfl ?_;obtain⟨hb,h⟩:=h;refine gDo (.repl 1 (.row 29 4 (kidsV (c++[(Tree.node a.kind [65] a.leads a.kids)])))) (bI ai rfl rfl rfl rfl rfl (kr c [(Tree.node a.kind [65] a.leads a.kids)]).symm (by rw[aD];exact hb)) (okR rfl) rfl rfl rfl<|gR 6 rfl ?_;obtain⟨hb,h⟩:=h;exact gR 1 rfl<|gV 16 (qi (b-1)) rfl (ao hb rfl) rfl<|gR 2 rfl<|go_xloop<|qW J h [0,8,2];refine gR 6 rfl ?_;obtain⟨hb,h⟩:=h;exact gR 1 rfl<|gV 16 (qi (b-1)) rfl (ao hb rfl) rfl<|gR 2 rfl<|go_xloop<|qW J h [0,1,2];refine gR 6 rfl ?_;obtain⟨j,v,h⟩:=h;refine qC0 v rfl<|gR 2 rfl<|qXi 29 rfl rfl rfl h ?_ ?_<;>intro O h;refine gR 5 rfl<|gHR 7 (kidsV [a]) rfl (mS a) rfl ?_;obtain⟨hb,h⟩:=h;refine gDo (.repl 1 (.row 29 4 (kidsV (c++[a])))) (bI ai rfl rfl rfl rfl rfl (kr c [a]).symm (by rw[aD];exact hb)) (okR rfl) rfl rfl rfl<|gR 6 rfl ?_;obtain⟨hb,h⟩:=h;exact gR 1 rfl<|gV 16 (qi (b-1)) rfl (ao hb rfl) rfl<|gR 2 rfl<|go_xloop<|qW J h [0,8,2];refine gR 6 rfl ?_;obtain⟨hb,h⟩:=h;exact gR 1 rfl<|gV 16 (qi (b-1)) rfl (ao hb rfl) rfl<|gR 2 rfl<|go_xloop<|qW J h [0,1,2];refine gR 3 rfl<|go_xloopE<|gR 9 rfl<|gFR 1 rfl (dn _) rfl rfl ?_;subst h;exact qN [.tmp 2]
theorem pd(m:Nat)(b:List Int)(a p1 G:Int)(g:List Int)(c:Int)(h:(((b.length:Int)≤a)→0=G∧b=g∧a=c)∧((¬(b.length:Int)≤a)→InI (a+1)∧InI ((a+1)-1)∧∃d,((a+1)-1)=((d:Nat):Int)∧∃i,b[d]?=some i∧∃e,qL i p1 e∧e=G∧b=g∧(a+1)=c)):aP b a p1 G g c:=by
 refine qA 35 [0] func42 λK J=>?_;refine gR 7 rfl<|qDs [0] 10 10<|qDr (qR 0 3 2 ((3,3)::(qR 4 5 0 []))) rfl rfl<|gV 13 (qi (b.length:Int)) rfl (aJ (aB (V.int .i64) _)) rfl<|gLB 12 rfl (aB (V.int .i64) _) λn=>qDr [(9,0)] rfl rfl<|qDe<|gR 1 rfl<|qBd 14 rfl rfl rfl h ?_ ?_<;>intro h;refine gR 8 rfl ?_;obtain⟨rfl,rfl,rfl⟩:=h;exact gE J [] [(4,qi 0)] [0] [.tmp 4];refine gR 9 rfl ?_;obtain⟨hb,h⟩:=h;refine gR 1 rfl<|gV 19 (qi (a+1)) rfl (ao hb rfl) rfl<|gR 6 rfl<|qDs [0] 13 14<|qDr (qR 0 3 2 ((3,3)::(qR 4 3 2 [(7,3)]))) rfl rfl ?_;obtain⟨hb,h⟩:=h;refine qDr [(8,2)] rfl rfl<|gV 30 (qi ((a+1)-1)) rfl (ao hb rfl) rfl ?_;obtain⟨d,k,h⟩:=h;refine gV 30 (qi ((d:Nat):Int)) rfl (aL k) rfl ?_;obtain⟨i,j,h⟩:=h;refine gYd 9 rfl (by kernel_rfl) (aC (ar (f:=(V.int .i64)) j) ai rfl rfl rfl rfl) rfl rfl<|qDr [(10,2),(11,0)] rfl rfl ?_;obtain⟨e,l,h⟩:=h;refine bz 12 l (by kernel_rfl) rfl (by kernel_rfl) rfl rfl .rfl rfl rfl ?_;refine qDr [(13,1)] rfl rfl<|qDe<|gR 2 rfl ?_;obtain⟨rfl,rfl,rfl⟩:=h;exact gE J [] [(4,qi e)] [0] [.tmp 4]
def iD(m:Nat)(O:Int)(a:(List (List UInt8)))(b:Nat)(U:(List (List UInt8))):Prop:=∀(K:Ctx) (J:Nat),aw K []→m≤J→qLG K f150 (λu G=>u=.sl 0∧G=⟨1,[(0,.row 9 1 (List.map V.str U))]⟩) (xL (aj f150)) [.loop (xL (aj f150)) J,.blk 0,.seq (xF (aj f150))] 14 (mkF 14 0 [(0,qi O),(3,.sl 0),(4,qi (b:Int))]) ⟨1,[(0,.row 9 1 (List.map V.str a))]⟩
theorem wW(m:Nat)(p0:Int)(r0:(List (List UInt8)))(h:iD m p0 ([]:List (List UInt8)) 0 r0):mN p0 r0:=by
 refine qA 14 [] func150 λK hK=>?_;exact gR 17 rfl<|go_loop m<|gNS 3 9 1 rfl rfl rfl rfl<|qW hK h [0]
theorem ld(m:Nat)(G:Int)(a:(List (List UInt8)))(b:Nat)(J:(List (List UInt8)))(h:(((b:Int)<G)→(a++[[32]]).length≤1000000000∧b+1≤9223372036854775807∧iD m G (a++[[32]]) (b+1) J)∧((¬(b:Int)<G)→a=J)):iD (m+1) G a b J:=by
 refine qj λK U O c=>?_;refine gR 8 rfl<|qXd 7 rfl rfl rfl h ?_ ?_<;>intro Z h;refine gR 8 rfl ?_;obtain⟨hb,h⟩:=h;refine gDo (.repl 0 (.row 9 1 (List.map V.str (a++[[32]])))) (bI ai rfl rfl rfl rfl rfl (apM V.str a [32]) (by rw[aB];exact hb)) (okR rfl) rfl rfl rfl<|gR 6 rfl ?_;obtain⟨hb,h⟩:=h;exact gR 1 rfl<|gV 9 (qi ((b+1:Nat):Int)) rfl (ao (by omega) (by omega)) rfl<|gR 2 rfl<|go_xloop<|qW O h [2];refine gR 3 rfl<|go_xloopE<|gR 9 rfl ?_;subst h;exact gE O [] [(2,.sl 0)] [0] [.tmp 2]
def fy(m:Nat)(G:Tree)(p2:List UInt8)(a:Bool)(J:List UInt8):Prop:=∀(K:Ctx),aw K []→qLG K f151 (λu _=>u=.str J) (cB (xE (xA (aj f151)))) [.blk 1,.seq (xF (aj f151))] 31 (mkF 31 0 [(2,.str p2),(3,.box (al G) 0),(15,qi G.kind),(16,.bool a)]) ⟨0,[]⟩
theorem xk(m:Nat)(G:Tree)(p1:Int)(p2 O:List UInt8)(h:((G.kind=1)→[10,10]=O)∧((G.kind≠1)→((0<p1)→[32]=O)∧((¬0<p1)→((G.kind=8)→fy m G p2 true O)∧((G.kind≠8)→((G.kind=22)→fy m G p2 true O)∧((G.kind≠22)→((G.kind=16)→fy m G p2 true O)∧((G.kind≠16)→fy m G p2 (G.kind==18) O)))))):mK G p1 p2 O:=by
 refine⟨rfl,rfl,?_⟩;refine qA 31 [] func151 λK J=>?_;refine gR 3 rfl<|gFP 0 rfl rfl rfl rfl<|gR 13 rfl<|qBeZ 7 10 rfl rfl rfl rfl h ?_ ?_<;>intro h;refine gR 9 rfl ?_;subst h;exact qN [.tmp 6];refine gR 8 rfl<|qBdZ 11 13 rfl rfl rfl rfl h ?_ ?_<;>intro h;refine gR 9 rfl ?_;subst h;exact qN [.tmp 6];refine gR 19 rfl<|qBeZ 16 17 rfl rfl rfl rfl h ?_ ?_<;>intro h;exact gR 3 rfl<|qJ J (h K J) [];refine gR 7 rfl<|qBeZ 16 18 rfl rfl rfl rfl h ?_ ?_<;>intro h;exact gR 3 rfl<|qJ J (h K J) [];refine gR 7 rfl<|qBeZ 16 19 rfl rfl rfl rfl h ?_ ?_<;>intro h;exact gR 3 rfl<|qJ J (h K J) [];exact gR 6 rfl<|qJ J (h K J) []
theorem wE(m:Nat)(G:Tree)(p2:List UInt8)(a:Bool)(J:List UInt8)(h:((a=true)→[]=J)∧((a=false)→((G.kind=2)→((2<(G.kids.length:Int))→[]=J)∧((¬2<(G.kids.length:Int))→[32]=J))∧((G.kind≠2)→((G.kind=17)→p2=J)∧((G.kind≠17)→((G.kind=21)→p2=J)∧((G.kind≠21)→[32]=J))))):fy (m+1) G p2 a J:=by
 intro K O;refine qBi 16 rfl rfl rfl h ?_ ?_<;>intro h;refine gR 9 rfl ?_;subst h;exact qN [.tmp 6];refine gR 7 rfl<|qBeZ 21 22 rfl rfl rfl rfl h ?_ ?_<;>intro h;refine gR 6 rfl<|gV 25 (qi (G.kids.length:Int)) rfl (aJ (aD _)) rfl<|gLB 24 rfl (aD _) λb=>gR 3 rfl<|qBd 26 rfl rfl rfl h ?_ ?_<;>intro h;refine gR 9 rfl ?_;subst h;exact qN [.tmp 6];refine gR 10 rfl ?_;subst h;exact qN [.tmp 6];refine gR 8 rfl<|qBeZ 27 28 rfl rfl rfl rfl h ?_ ?_<;>intro h;refine gR 13 rfl ?_;subst h;exact qN [.tmp 6];refine gR 6 rfl<|qBeZ 27 29 rfl rfl rfl rfl h ?_ ?_<;>intro h;refine gR 10 rfl ?_;subst h;exact qN [.tmp 6];refine gR 10 rfl ?_;subst h;exact qN [.tmp 6]
def pZ(m:Nat)(G:Tree)(p1:List UInt8)(a:(List (List UInt8)))(J:Tree):Prop:=∀(K:Ctx),aw K []→Go prog K (bodyPost prog f111 (SP K (λu _=>u=.agg (al J)))) (.ex .normal) [.seq (xF (aj f111))] 109 (mkF 109 0 [(1,.str p1),(2,.box (al G) 0),(4,.ptr 0 0),(5,qi (G.kids.length:Int)),(6,.ptr 1 0)]) ⟨3,[(2,.row 9 1 (List.map V.str a)),(1,.var 29 [qi G.kind,.str G.text,.sl 2,.nils]),(0,vE 0 [])]⟩
def eX(m:Nat)(G:Tree)(p1:List UInt8)(a:(List (List UInt8)))(b:List Tree)(c:Nat)(O:Tree):Prop:=∀(K:Ctx) (J:Nat),aw K []→m≤J→qLG K f111 (λu _=>u=.agg (al O)) (xG (xH (aj f111))) [.loop (xG (xH (aj f111))) J,.blk 0,.seq (xA (xF (aj f111)))] 109 (mkF 109 0 [(1,.str p1),(2,.box (al G) 0),(4,.ptr 0 0),(5,qi (G.kids.length:Int)),(6,.ptr 1 0),(7,.sl 2),(8,qi (c:Int))]) ⟨4,[(3,.row 9 1 (List.map V.str a)),(2,.row 29 4 (kidsV b)),(1,.var 29 [qi G.kind,.str G.text,.sl 3,.nils]),(0,vE 0 [])]⟩
def fb(m:Nat)(G:Tree)(a:(List (List UInt8)))(b:List Tree)(J:Tree):Prop:=∀(K:Ctx),aw K []→qLG K f111 (λu _=>u=.agg (al J)) (xH (xA (aj f111))) [] 109 (mkF 109 0 [(2,.box (al G) 0),(4,.ptr 0 0),(6,.ptr 1 0),(7,.sl 2)]) ⟨4,[(3,.row 9 1 (List.map V.str a)),(2,.row 29 4 (kidsV b)),(1,.var 29 [qi G.kind,.str G.text,.sl 3,.nils]),(0,vE 0 [])]⟩
def ib(m:Nat)(G:Tree)(a:(List (List UInt8)))(b:Nat)(c:List Tree)(O:Tree):Prop:=∀(K:Ctx) (J:Nat),aw K []→m≤J→qLG K f111 (λu _=>u=.agg (al O)) (xM (xA (xJ (xN (xH (xA (aj f111))))))) [.loop (xM (xA (xJ (xN (xH (xA (aj f111))))))) J,.blk 3,.blk 2,.seq (xH (xF (aj f111)))] 109 (mkF 109 0 [(4,.ptr 0 0),(6,.ptr 1 0),(7,.sl 2),(9,qi (b:Int))]) ⟨4,[(3,.row 9 1 (List.map V.str a)),(2,.row 29 4 (kidsV c)),(1,.var 29 [qi G.kind,.str G.text,.sl 3,.nils]),(0,vE 0 [])]⟩
def ff(m:Nat)(G:Tree)(a:(List (List UInt8)))(b:Nat)(c:List Tree)(O:Tree):Prop:=∀(K:Ctx) (J:Nat),aw K []→m≤J→qLG K f111 (λu _=>u=.agg (al O)) (cL (xD (xJ (xC (xN (xH (xA (aj f111)))))))) [.loop (cL (xD (xJ (xC (xN (xH (xA (aj f111)))))))) J,.blk 5,.blk 2,.seq (xH (xF (aj f111)))] 109 (mkF 109 0 [(4,.ptr 0 0),(6,.ptr 1 0),(7,.sl 2),(10,qi (b:Int))]) ⟨4,[(3,.row 9 1 (List.map V.str a)),(2,.row 29 4 (kidsV c)),(1,.var 29 [qi G.kind,.str G.text,.sl 3,.nils]),(0,vE 0 [])]⟩
theorem wl(m:Nat)(J:Tree)(p1:List UInt8)(O:Tree)(h:∃b,gX J.kind (J.kids.length:Int) b∧∃a,mN b a∧pZ m J p1 a O):iA J p1 O:=by
 refine⟨rfl,rfl,?_⟩;refine qA 109 [] func111 λK G=>?_;refine gR 3 rfl<|gFP 0 rfl rfl rfl rfl<|gR 8 rfl<|gV 13 (qi (J.kids.length:Int)) rfl (aJ (aD _)) rfl<|gLB 12 rfl (aD _) λf=>gR 4 rfl<|qDs [] 11 12<|qDr (qR 0 7 2 []) rfl rfl ?_;obtain⟨b,c,h⟩:=h;apply bR (i:=7) (j:=10) (by kernel_rfl) rfl rfl rfl rfl;exact(cy (L':=[]) (by kernel_rfl) rfl rfl (sV c .rfl [] rfl) (.inl rfl));exact(bn ai rfl rfl);obtain⟨a,d,h⟩:=h;apply bR (i:=8) (j:=10) (by kernel_rfl) rfl rfl rfl rfl;exact(cy (L':=[]) (by kernel_rfl) rfl rfl (fK (H:=⟨2,[(1,vE 0 [])]⟩) d [] .rfl trivial rfl [] rfl) (.inl rfl));exact(bn ai rfl rfl);exact gHR 2 (List.map V.str a) rfl (om _ V.str (λ_=>rfl) a) rfl<|qDr [(9,2),(10,0),(11,1)] rfl rfl<|qDe<|qJ G (h K G) [1,3,2];refine qDC 8 d [] rfl ?_;exact gHR 3 (List.map V.str a) rfl (om _ V.str (λ_=>rfl) a) rfl<|qDr [(9,0),(11,1)] rfl rfl<|qDe<|qJ G (h K G) [1,2,3];refine bz 7 c (by kernel_rfl) rfl (by kernel_rfl) rfl rfl .rfl rfl rfl ?_;obtain⟨a,e,h⟩:=h;refine qDC 8 e [] rfl ?_;exact gHR 3 (List.map V.str a) rfl (om _ V.str (λ_=>rfl) a) rfl<|qDr [(9,0),(11,1)] rfl rfl<|qDe<|qJ G (h K G) [1,2,3]
theorem vx(m:Nat)(p0:Tree)(p1:List UInt8)(a:(List (List UInt8)))(r0:Tree)(h:p0.kids.length≤1000000000∧eX m p0 p1 a (List.replicate p0.kids.length (Tree.node 0 [] [] [])) 0 r0):pZ (m+1) p0 p1 a r0:=by
 intro K hK;refine gR 4 rfl ?_;obtain⟨hb,h⟩:=h;exact gDo (.new (.row 29 4 (List.replicate p0.kids.length (.agg [qi 0,.str [],.nils,.nils])))) (dMk ai rfl rfl rfl rfl rfl rfl rfl (by kernel_rfl) hb) trivial rfl rfl rfl<|gHW 3 (List.replicate p0.kids.length (.agg [qi 0,.str [],.row 1 [],.row 4 (kidsV [])])) rfl rfl (aK.rep (.agg (.cons .rfl (.cons .rfl (.cons (.nil 1) (.cons (.nil 4) .nil))))) _) rfl<|gHR 3 (kidsV (List.replicate p0.kids.length (Tree.node 0 [] [] []))) rfl (by first|(simp only[wf,List.map_replicate];done)|(simp only[wf,List.map_replicate];rfl)) rfl<|gR 10 rfl<|go_loop m<|qW hK h [0,1,3,2]
theorem gI(m:Nat)(G:Tree)(p1:List UInt8)(b:(List (List UInt8)))(c:List Tree)(a:Nat)(O:Tree)(h:((a<G.kids.length)→∃i,G.kids[a]?=some i∧∃j,mK G (a:Int) p1 j∧∃d,iA i j d∧∃l,c[a]?=some l∧a+1≤9223372036854775807∧eX m G p1 b (c.set a d) (a+1) O)∧((¬a<G.kids.length)→((G.kind≠17)→((G.kind≠21)→∃n,b[0]?=some n∧fb m G (b.set 0 p1) c O)∧((G.kind=21)→fb m G b c O))∧((G.kind=17)→fb m G b c O))):eX (m+1) G p1 b c a O:=by
 refine qj λK Z J q=>?_;refine gR 8 rfl<|qXh 28 rfl rfl rfl h bX bY ?_ ?_<;>intro U h;refine gR 5 rfl<|qDs [] 13 14<|qDr (qR 0 5 2 []) rfl rfl ?_;obtain⟨i,k,h⟩:=h;refine gYd 5 rfl (by kernel_rfl) (aC (aq k) ai rfl rfl rfl rfl) rfl rfl<|qDr (qR 6 3 2 [(9,0)]) rfl rfl ?_;obtain⟨j,o,h⟩:=h;refine bz 10 o (by kernel_rfl) rfl (by kernel_rfl) rfl rfl .rfl rfl rfl ?_;obtain⟨d,p,h⟩:=h;refine bz 11 p (by kernel_rfl) rfl (by kernel_rfl) rfl rfl .rfl rfl rfl ?_;obtain⟨l,e,h⟩:=h;refine bD 12 rfl (by kernel_rfl) (yIO ai rfl rfl rfl rfl (by have :=(aq e);exact(List.getElem?_eq_some_iff.1 this).1)) rfl rfl ?_;refine bh 13 (.set 2 (.row 29 4 (kidsV (c.set a d)))) rfl (by kernel_rfl) (dSe ai rfl rfl rfl rfl (aq e) rfl (MV c a d)) (okS rfl) rfl (by kernel_rfl) rfl rfl ?_;refine qDe<|gR 4 rfl ?_;obtain⟨hb,h⟩:=h;exact gR 1 rfl<|gV 30 (qi ((a+1:Nat):Int)) rfl (ao (by omega) (by omega)) rfl<|gR 2 rfl<|go_xloop<|qW J h [0,1,2,3];refine gR 3 rfl<|go_xloopE<|gR 9 rfl<|qXhZ 47 46 rfl rfl rfl rfl h dy cv ?_ ?_<;>intro U h;refine gR 6 rfl<|qXh 51 rfl rfl rfl h dy cv ?_ ?_<;>intro U h;refine gR 5 rfl ?_;obtain⟨n,g,h⟩:=h;refine gY (yIO ai rfl rfl rfl rfl (qG (ar (f:=V.str) g))) rfl rfl ?_;exact gDo (.set 3 (.row 9 1 (List.map V.str (b.set 0 p1)))) (dSe ai rfl rfl rfl rfl (ar (f:=V.str) g) rfl (ln V.str b 0 p1)) (okS rfl) rfl rfl rfl<|gR 2 rfl<|qJ J (h K J) [0,1,2,3];exact gR 3 rfl<|qJ J (h K J) [0,1,2,3];exact gR 9 rfl<|qJ J (h K J) [0,1,2,3]
theorem cq(m:Nat)(p0:Tree)(a:(List (List UInt8)))(b:List Tree)(r0:Tree)(h:((p0.kind=1)→∃l,a[2]?=some l∧(Tree.node p0.kind p0.text (a.set 2 [10]) b)=r0)∧((p0.kind≠1)→((p0.kind=2)→∃n,a[2]?=some n∧∃o,(a.set 2 [])[3]?=some o∧∃p,((a.set 2 []).set 3 [])[4]?=some p∧ib m p0 (((a.set 2 []).set 3 []).set 4 []) 6 b r0)∧((p0.kind≠2)→((p0.kind=4)→∃q,a[1]?=some q∧(Tree.node p0.kind p0.text (a.set 1 []) b)=r0)∧((p0.kind≠4)→((p0.kind=8)→∃r,a[1]?=some r∧(Tree.node p0.kind p0.text (a.set 1 []) b)=r0)∧((p0.kind≠8)→((p0.kind=22)→∃s,a[1]?=some s∧(Tree.node p0.kind p0.text (a.set 1 []) b)=r0)∧((p0.kind≠22)→((p0.kind=16)→ff m p0 a 1 b r0)∧((p0.kind≠16)→((p0.kind=18)→ff m p0 a 1 b r0)∧((p0.kind≠18)→(Tree.node p0.kind p0.text a b)=r0)))))))):fb (m+1) p0 a b r0:=by
 intro K hK;refine gR 14 rfl<|qXeZ 58 59 rfl rfl rfl rfl h ?_ ?_<;>intro hd h;refine gR 4 rfl ?_;obtain⟨l,c,h⟩:=h;refine gY (yIO ai rfl rfl rfl rfl (qG (ar (f:=V.str) c))) rfl rfl ?_;refine gDo (.set 3 (.row 9 1 (List.map V.str (a.set 2 [10])))) (dSe ai rfl rfl rfl rfl (ar (f:=V.str) c) rfl (ln V.str a 2 [10])) (okS rfl) rfl rfl rfl<|gR 17 rfl<|gFR 3 rfl (fR _ (λ_=>rfl) _) rfl rfl<|gFR 2 rfl (dn _) rfl rfl ?_;subst h;exact go_sub (F':=(mkF 109 0 [(4,.ptr 0 0)])) (H':=⟨1,[(0,vD ((Tree.node p0.kind p0.text (a.set 2 [10]) b).kind) ((Tree.node p0.kind p0.text (a.set 2 [10]) b).text) ((Tree.node p0.kind p0.text (a.set 2 [10]) b).leads) ((Tree.node p0.kind p0.text (a.set 2 [10]) b).kids))]⟩) [0] [] rfl hK pq1 (pqo1 rfl rfl) rfl<|qN [.cell 4 29];refine gR 7 rfl<|qXeZ 63 64 rfl rfl rfl rfl h ?_ ?_<;>intro hd h;refine gR 2 rfl<|qDs [1] 11 12<|qDr [(0,2),(1,3),(2,2),(3,3),(4,2),(5,3)] rfl rfl ?_;obtain⟨n,d,h⟩:=h;refine bD 6 rfl (by kernel_rfl) (yIO ai rfl rfl rfl rfl (qG (ar (f:=V.str) d))) rfl rfl ?_;refine bh 7 (.set 3 (.row 9 1 (List.map V.str (a.set 2 [])))) rfl (by kernel_rfl) (dSe ai rfl rfl rfl rfl (ar (f:=V.str) d) rfl (ln V.str a 2 [])) (okS rfl) rfl (by kernel_rfl) rfl rfl ?_;obtain⟨o,e,h⟩:=h;refine bD 8 rfl (by kernel_rfl) (yIO ai rfl rfl rfl rfl (qG (ar (f:=V.str) e))) rfl rfl ?_;refine bh 9 (.set 3 (.row 9 1 (List.map V.str ((a.set 2 []).set 3 [])))) rfl (by kernel_rfl) (dSe ai rfl rfl rfl rfl (ar (f:=V.str) e) rfl (ln V.str (a.set 2 []) 3 [])) (okS rfl) rfl (by kernel_rfl) rfl rfl ?_;obtain⟨p,g,h⟩:=h;refine bD 10 rfl (by kernel_rfl) (yIO ai rfl rfl rfl rfl (qG (ar (f:=V.str) g))) rfl rfl ?_;refine bh 11 (.set 3 (.row 9 1 (List.map V.str (((a.set 2 []).set 3 []).set 4 [])))) rfl (by kernel_rfl) (dSe ai rfl rfl rfl rfl (ar (f:=V.str) g) rfl (ln V.str ((a.set 2 []).set 3 []) 4 [])) (okS rfl) rfl (by kernel_rfl) rfl rfl ?_;exact qDe<|gR 7 rfl<|go_loop m<|qW hK h [0,1,2,3];refine gR 8 rfl<|qXeZ 85 86 rfl rfl rfl rfl h ?_ ?_<;>intro hd h;refine gR 7 rfl ?_;obtain⟨q,i,h⟩:=h;refine gY (yIO ai rfl rfl rfl rfl (qG (ar (f:=V.str) i))) rfl rfl ?_;refine gDo (.set 3 (.row 9 1 (List.map V.str (a.set 1 [])))) (dSe ai rfl rfl rfl rfl (ar (f:=V.str) i) rfl (ln V.str a 1 [])) (okS rfl) rfl rfl rfl<|gR 17 rfl<|gFR 3 rfl (fR _ (λ_=>rfl) _) rfl rfl<|gFR 2 rfl (dn _) rfl rfl ?_;subst h;exact go_sub (F':=(mkF 109 0 [(4,.ptr 0 0)])) (H':=⟨1,[(0,vD ((Tree.node p0.kind p0.text (a.set 1 []) b).kind) ((Tree.node p0.kind p0.text (a.set 1 []) b).text) ((Tree.node p0.kind p0.text (a.set 1 []) b).leads) ((Tree.node p0.kind p0.text (a.set 1 []) b).kids))]⟩) [0] [] rfl hK pq1 (pqo1 rfl rfl) rfl<|qN [.cell 4 29];refine gR 7 rfl<|qXeZ 85 87 rfl rfl rfl rfl h ?_ ?_<;>intro hd h;refine gR 7 rfl ?_;obtain⟨r,j,h⟩:=h;refine gY (yIO ai rfl rfl rfl rfl (qG (ar (f:=V.str) j))) rfl rfl ?_;refine gDo (.set 3 (.row 9 1 (List.map V.str (a.set 1 [])))) (dSe ai rfl rfl rfl rfl (ar (f:=V.str) j) rfl (ln V.str a 1 [])) (okS rfl) rfl rfl rfl<|gR 17 rfl<|gFR 3 rfl (fR _ (λ_=>rfl) _) rfl rfl<|gFR 2 rfl (dn _) rfl rfl ?_;subst h;exact go_sub (F':=(mkF 109 0 [(4,.ptr 0 0)])) (H':=⟨1,[(0,vD ((Tree.node p0.kind p0.text (a.set 1 []) b).kind) ((Tree.node p0.kind p0.text (a.set 1 []) b).text) ((Tree.node p0.kind p0.text (a.set 1 []) b).leads) ((Tree.node p0.kind p0.text (a.set 1 []) b).kids))]⟩) [0] [] rfl hK pq1 (pqo1 rfl rfl) rfl<|qN [.cell 4 29];refine gR 6 rfl<|qXeZ 85 88 rfl rfl rfl rfl h ?_ ?_<;>intro hd h;refine gR 4 rfl ?_;obtain⟨s,k,h⟩:=h;refine gY (yIO ai rfl rfl rfl rfl (qG (ar (f:=V.str) k))) rfl rfl ?_;refine gDo (.set 3 (.row 9 1 (List.map V.str (a.set 1 [])))) (dSe ai rfl rfl rfl rfl (ar (f:=V.str) k) rfl (ln V.str a 1 [])) (okS rfl) rfl rfl rfl<|gR 17 rfl<|gFR 3 rfl (fR _ (λ_=>rfl) _) rfl rfl<|gFR 2 rfl (dn _) rfl rfl ?_;subst h;exact go_sub (F':=(mkF 109 0 [(4,.ptr 0 0)])) (H':=⟨1,[(0,vD ((Tree.node p0.kind p0.text (a.set 1 []) b).kind) ((Tree.node p0.kind p0.text (a.set 1 []) b).text) ((Tree.node p0.kind p0.text (a.set 1 []) b).leads) ((Tree.node p0.kind p0.text (a.set 1 []) b).kids))]⟩) [0] [] rfl hK pq1 (pqo1 rfl rfl) rfl<|qN [.cell 4 29];refine gR 8 rfl<|qXeZ 92 93 rfl rfl rfl rfl h ?_ ?_<;>intro hd h;exact gR 10 rfl<|go_loop m<|qW hK h [0,1,2,3];refine gR 6 rfl<|qXeZ 92 94 rfl rfl rfl rfl h ?_ ?_<;>intro hd h;exact gR 7 rfl<|go_loop m<|qW hK h [0,1,2,3];refine gR 18 rfl<|gFR 3 rfl (fR _ (λ_=>rfl) _) rfl rfl<|gFR 2 rfl (dn _) rfl rfl ?_;subst h;exact go_sub (F':=(mkF 109 0 [(4,.ptr 0 0)])) (H':=⟨1,[(0,vD ((Tree.node p0.kind p0.text a b).kind) ((Tree.node p0.kind p0.text a b).text) ((Tree.node p0.kind p0.text a b).leads) ((Tree.node p0.kind p0.text a b).kids))]⟩) [0] [] rfl hK pq1 (pqo1 rfl rfl) rfl<|qN [.cell 4 29]
theorem kc(m:Nat)(G:Tree)(a:(List (List UInt8)))(b:Nat)(c:List Tree)(J:Tree)(h:((b<a.length)→∃e,a[b]?=some e∧ib m G (a.set b []) (b+1) c J)∧((¬b<a.length)→(Tree.node G.kind G.text a c)=J)):ib (m+1) G a b c J:=by
 refine qj λK U O i=>?_;refine gR 7 rfl<|gV 77 (qi (a.length:Int)) rfl (aJ (aB V.str _)) rfl<|gLO 3 rfl (aB V.str _) λg=>gR 3 rfl<|qXh 78 rfl rfl rfl h bX bY ?_ ?_<;>intro Z h;refine gR 9 rfl ?_;obtain⟨e,d,h⟩:=h;refine gY (yIO ai rfl rfl rfl rfl (qG (ar (f:=V.str) d))) rfl rfl ?_;exact gDo (.set 3 (.row 9 1 (List.map V.str (a.set b [])))) (dSe ai rfl rfl rfl rfl (ar (f:=V.str) d) rfl (ln V.str a b [])) (okS rfl) rfl rfl rfl<|gR 6 rfl<|gV 80 (qi ((b+1:Nat):Int)) rfl (ao (by have :=g;omega) (by omega)) rfl<|gR 2 rfl<|go_xloop<|qW O h [0,1,2,3];refine gR 3 rfl<|go_xloopE<|gR 17 rfl<|gFR 3 rfl (fR _ (λ_=>rfl) _) rfl rfl<|gFR 2 rfl (dn _) rfl rfl ?_;subst h;exact go_sub (F':=(mkF 109 0 [(4,.ptr 0 0)])) (H':=⟨1,[(0,vD ((Tree.node G.kind G.text a c).kind) ((Tree.node G.kind G.text a c).text) ((Tree.node G.kind G.text a c).leads) ((Tree.node G.kind G.text a c).kids))]⟩) [0] [] rfl O pq1 (pqo1 rfl rfl) rfl<|qN [.cell 4 29]
theorem km(m:Nat)(G:Tree)(a:(List (List UInt8)))(b:Nat)(c:List Tree)(J:Tree)(h:((b<a.length)→∃e,a[b]?=some e∧ff m G (a.set b []) (b+1) c J)∧((¬b<a.length)→(Tree.node G.kind G.text a c)=J)):ff (m+1) G a b c J:=by
 refine qj λK U O i=>?_;refine gR 7 rfl<|gV 98 (qi (a.length:Int)) rfl (aJ (aB V.str _)) rfl<|gLO 3 rfl (aB V.str _) λg=>gR 3 rfl<|qXh 99 rfl rfl rfl h bX bY ?_ ?_<;>intro Z h;refine gR 9 rfl ?_;obtain⟨e,d,h⟩:=h;refine gY (yIO ai rfl rfl rfl rfl (qG (ar (f:=V.str) d))) rfl rfl ?_;exact gDo (.set 3 (.row 9 1 (List.map V.str (a.set b [])))) (dSe ai rfl rfl rfl rfl (ar (f:=V.str) d) rfl (ln V.str a b [])) (okS rfl) rfl rfl rfl<|gR 6 rfl<|gV 101 (qi ((b+1:Nat):Int)) rfl (ao (by have :=g;omega) (by omega)) rfl<|gR 2 rfl<|go_xloop<|qW O h [0,1,2,3];refine gR 3 rfl<|go_xloopE<|gR 17 rfl<|gFR 3 rfl (fR _ (λ_=>rfl) _) rfl rfl<|gFR 2 rfl (dn _) rfl rfl ?_;subst h;exact go_sub (F':=(mkF 109 0 [(4,.ptr 0 0)])) (H':=⟨1,[(0,vD ((Tree.node G.kind G.text a c).kind) ((Tree.node G.kind G.text a c).text) ((Tree.node G.kind G.text a c).leads) ((Tree.node G.kind G.text a c).kids))]⟩) [0] [] rfl O pq1 (pqo1 rfl rfl) rfl<|qN [.cell 4 29]
theorem pP(m:Nat)(G J:Tree)(h:∃b,eh G b∧((b=false)→(Tree.node 0 [] [] [])=J)∧((b=true)→∃a,iA G [] a∧a=J)):lT G J:=by
 refine⟨rfl,rfl,?_⟩;refine qA 9 [] func71 λK O=>?_;refine gR 3 rfl<|gFP 0 rfl rfl rfl rfl<|gR 7 rfl ?_;obtain⟨b,c,h⟩:=h;refine qC0 c rfl<|gR 3 rfl<|qBh 5 rfl rfl rfl h bF bG ?_ ?_<;>intro h;refine gR 9 rfl ?_;subst h;exact go_sub (F':=(mkF 9 0 [(2,.ptr 0 0)])) (H':=⟨1,[(0,vD ((Tree.node 0 [] [] []).kind) ((Tree.node 0 [] [] []).text) ((Tree.node 0 [] [] []).leads) ((Tree.node 0 [] [] []).kids))]⟩) [1] [] rfl O pq1 ⟨⟨_,rfl,rfl,(.cons .rfl (.cons .rfl (.cons (.nil 1) (.cons (.nil 4) .nil))))⟩,trivial⟩ rfl<|qN [.cell 2 29];refine gR 6 rfl ?_;obtain⟨a,d,h⟩:=h;refine qC0 d rfl<|gR 4 rfl ?_;subst h;exact go_sub (F':=(mkF 9 0 [(2,.ptr 0 0)])) (H':=⟨1,[(0,vD a.kind a.text a.leads a.kids)]⟩) [1] [] rfl O pq1 (pqo1 rfl rfl) rfl<|qN [.cell 2 29]
theorem jq(m:Nat)(G:Tree)(J:Bool)(h:∃a,gH G a∧((a=true)→∃b,je G b∧((b=true)→∃c,jR G c∧((c≤40)→∃d,nG G d∧decide ((d.length:Int)≤4096)=J)∧((¬c≤40)→false=J))∧((b=false)→false=J))∧((a=false)→false=J)):gP G J:=by
 refine⟨rfl,rfl,?_⟩;refine qA 20 [] func44 λK O=>?_;refine gR 3 rfl<|gFP 0 rfl rfl rfl rfl<|gR 6 rfl ?_;obtain⟨a,e,h⟩:=h;refine qC0 e rfl<|gR 1 rfl<|qBiZ 5 4 rfl rfl rfl rfl h ?_ ?_<;>intro h;refine gR 1 rfl ?_;obtain⟨b,f,h⟩:=h;refine qC0 f rfl<|gR 2 rfl<|qBiZ 9 8 rfl rfl rfl rfl h ?_ ?_<;>intro h;refine gR 1 rfl ?_;obtain⟨c,g,h⟩:=h;refine qC0 g rfl<|gR 3 rfl<|qBdZ 14 13 rfl rfl rfl rfl h ?_ ?_<;>intro h;refine gR 1 rfl ?_;obtain⟨d,i,h⟩:=h;refine qC0 i rfl<|gR 7 rfl ?_;subst h;exact qN [.tmp 2];refine gR 9 rfl ?_;subst h;exact qN [.tmp 2];refine gR 14 rfl ?_;subst h;exact qN [.tmp 2];refine gR 18 rfl ?_;subst h;exact qN [.tmp 2]
theorem oc(m:Nat)(G:Tree)(J:Bool)(h:∃a,eh G a∧((a=true)→∃b,jW G b∧b=J)∧((a=false)→false=J)):gH G J:=by
 refine⟨rfl,rfl,?_⟩;refine qA 9 [] func73 λK O=>?_;refine gR 3 rfl<|gFP 0 rfl rfl rfl rfl<|gR 6 rfl ?_;obtain⟨a,c,h⟩:=h;refine qC0 c rfl<|gR 1 rfl<|qBiZ 5 4 rfl rfl rfl rfl h ?_ ?_<;>intro h;refine gR 1 rfl ?_;obtain⟨b,d,h⟩:=h;refine qC0 d rfl<|gR 5 rfl ?_;subst h;exact qN [.tmp 2];refine gR 7 rfl ?_;subst h;exact qN [.tmp 2]
def ee(m:Nat)(J:Tree)(a:Nat)(O:Bool):Prop:=∀(K:Ctx) (G:Nat),aw K []→m≤G→qLG K f112 (λu _=>u=.bool O) (xL (aj f112)) [.loop (xL (aj f112)) G,.blk 0,.seq (xF (aj f112))] 50 (mkF 50 0 [(1,.box (al J) 0),(3,qi (a:Int))]) ⟨0,[]⟩
def jv(m:Nat)(J:Tree)(a:Nat)(O:Bool):Prop:=∀(K:Ctx) (G:Nat),aw K []→m≤G→qLG K f112 (λu _=>u=.bool O) (xK (aj f112)) [.loop (xK (aj f112)) G,.blk 2,.seq (xH (aj f112))] 50 (mkF 50 0 [(1,.box (al J) 0),(4,qi (a:Int))]) ⟨0,[]⟩
theorem rI(m:Nat)(p0:Tree)(r0:Bool)(h:∃a,gX p0.kind (p0.kids.length:Int) a∧(((p0.leads.length:Int)≠a)→false=r0)∧(((p0.leads.length:Int)=a)→ee m p0 0 r0)):jW p0 r0:=by
 refine⟨rfl,rfl,?_⟩;refine qA 50 [] func112 λK hK=>?_;refine gR 3 rfl<|gFP 0 rfl rfl rfl rfl<|gR 5 rfl<|qDs [] 10 10<|qDr (qR 0 3 2 []) rfl rfl<|gV 7 (qi (p0.leads.length:Int)) rfl (aJ (aB V.str _)) rfl<|gLB 6 rfl (aB V.str _) λc=>qDr ((3,2)::(4,2)::(qR 5 3 0 [])) rfl rfl<|gV 12 (qi (p0.kids.length:Int)) rfl (aJ (aD _)) rfl<|gLB 11 rfl (aD _) λd=>?_;obtain⟨a,b,h⟩:=h;refine bz 8 b (by kernel_rfl) rfl (by kernel_rfl) rfl rfl .rfl rfl rfl ?_;refine qDr [(9,0)] rfl rfl<|qDe<|gR 1 rfl<|qXh 14 rfl rfl rfl h dy cv ?_ ?_<;>intro hd h;refine gR 8 rfl ?_;subst h;exact qN [.tmp 2];exact gR 10 rfl<|go_loop m<|qW hK h []
theorem fu(m:Nat)(p0:Tree)(a:Nat)(r0:Bool)(h:((a<p0.leads.length)→∃b,p0.leads[a]?=some b∧((p0.kind=1)→∃c,mR b ((a:Int)==2) c∧((c=false)→false=r0)∧((c=true)→ee m p0 (a+1) r0))∧((p0.kind≠1)→∃d,mR b false d∧((d=false)→false=r0)∧((d=true)→ee m p0 (a+1) r0)))∧((¬a<p0.leads.length)→jv m p0 0 r0)):ee (m+1) p0 a r0:=by
 refine qj λK j1 hK k=>?_;refine gR 7 rfl<|gV 18 (qi (p0.leads.length:Int)) rfl (aJ (aB V.str _)) rfl<|gLB 17 rfl (aB V.str _) λg=>gR 3 rfl<|qXh 19 rfl rfl rfl h bX bY ?_ ?_<;>intro hd h;refine gR 6 rfl<|qDs [] 14 14<|qDr (qR 0 3 2 []) rfl rfl ?_;obtain⟨b,e,h⟩:=h;refine gYd 3 rfl (by kernel_rfl) (aC (ar (f:=V.str) e) ai rfl rfl rfl rfl) rfl rfl<|qDr ((4,2)::(qR 5 4 0 [])) rfl rfl<|qXeZ 30 29 rfl rfl rfl rfl h ?_ ?_<;>intro hd h;refine qDr (qR 9 3 0 []) rfl rfl ?_;obtain⟨c,i,h⟩:=h;refine bz 12 i (by kernel_rfl) rfl (by kernel_rfl) rfl rfl .rfl rfl rfl ?_;refine qDr [(13,0)] rfl rfl<|qDe<|gR 1 rfl<|qXh 35 rfl rfl rfl h bF bG ?_ ?_<;>intro hd h;refine gR 9 rfl<|go_xloopR<|gR 2 rfl ?_;subst h;exact qN [.tmp 2];exact gR 7 rfl<|gV 21 (qi ((a+1:Nat):Int)) rfl (ao (by have :=g;omega) (by omega)) rfl<|gR 2 rfl<|go_xloop<|qW hK h [];refine qDr (qR 9 3 0 []) rfl rfl ?_;obtain⟨d,j,h⟩:=h;refine bz 12 j (by kernel_rfl) rfl (by kernel_rfl) rfl rfl .rfl rfl rfl ?_;refine qDr [(13,0)] rfl rfl<|qDe<|gR 1 rfl<|qXh 35 rfl rfl rfl h bF bG ?_ ?_<;>intro hd h;refine gR 9 rfl<|go_xloopR<|gR 2 rfl ?_;subst h;exact qN [.tmp 2];exact gR 7 rfl<|gV 21 (qi ((a+1:Nat):Int)) rfl (ao (by have :=g;omega) (by omega)) rfl<|gR 2 rfl<|go_xloop<|qW hK h [];exact gR 3 rfl<|go_xloopE<|gR 9 rfl<|go_loop m<|qW hK h []
theorem iE(m:Nat)(G:Tree)(a:Nat)(J:Bool)(h:((a<G.kids.length)→∃c,G.kids[a]?=some c∧∃b,jW c b∧((b=false)→false=J)∧((b=true)→jv m G (a+1) J))∧((¬a<G.kids.length)→true=J)):jv (m+1) G a J:=by
 refine qj λK Z O g=>?_;refine gR 7 rfl<|gV 39 (qi (G.kids.length:Int)) rfl (aJ (aD _)) rfl<|gLB 38 rfl (aD _) λe=>gR 3 rfl<|qXh 40 rfl rfl rfl h bX bY ?_ ?_<;>intro U h;refine gR 10 rfl ?_;obtain⟨c,d,h⟩:=h;refine gY (aC (aq d) ai rfl rfl rfl rfl) rfl rfl<|gR 1 rfl ?_;obtain⟨b,f,h⟩:=h;refine qC0 f rfl<|gR 3 rfl<|qXh 49 rfl rfl rfl h bF bG ?_ ?_<;>intro U h;refine gR 9 rfl<|go_xloopR<|gR 2 rfl ?_;subst h;exact qN [.tmp 2];exact gR 7 rfl<|gV 42 (qi ((a+1:Nat):Int)) rfl (ao (by have :=e;omega) (by omega)) rfl<|gR 2 rfl<|go_xloop<|qW O h [];refine gR 3 rfl<|go_xloopE<|gR 8 rfl ?_;subst h;exact qN [.tmp 2]
def aN(m:Nat)(G:Tree)(a:Nat)(O:Bool):Prop:=∀(K:Ctx) (J:Nat),aw K []→m≤J→qLG K f74 (λu _=>u=.bool O) (xK (aj f74)) [.loop (xK (aj f74)) J,.blk 0,.seq (xH (aj f74))] 54 (mkF 54 0 [(1,.box (al G) 0),(3,qi (G.kids.length:Int)),(4,qi (a:Int))]) ⟨0,[]⟩
theorem rb(m:Nat)(p0:Tree)(r0:Bool)(h:((p0.kind=1)→((40<(p0.kids.length:Int))→false=r0)∧((¬40<(p0.kids.length:Int))→((p0.kind=2)→((10<(p0.kids.length:Int))→false=r0)∧((¬10<(p0.kids.length:Int))→((p0.kind=16)→((8<(p0.kids.length:Int))→false=r0)∧((¬8<(p0.kids.length:Int))→((p0.kind=18)→((16<(p0.kids.length:Int))→false=r0)∧((¬16<(p0.kids.length:Int))→aN m p0 0 r0))∧((p0.kind≠18)→aN m p0 0 r0)))∧((p0.kind≠16)→((p0.kind=18)→((16<(p0.kids.length:Int))→false=r0)∧((¬16<(p0.kids.length:Int))→aN m p0 0 r0))∧((p0.kind≠18)→aN m p0 0 r0))))∧((p0.kind≠2)→((p0.kind=16)→((8<(p0.kids.length:Int))→false=r0)∧((¬8<(p0.kids.length:Int))→((p0.kind=18)→((16<(p0.kids.length:Int))→false=r0)∧((¬16<(p0.kids.length:Int))→aN m p0 0 r0))∧((p0.kind≠18)→aN m p0 0 r0)))∧((p0.kind≠16)→((p0.kind=18)→((16<(p0.kids.length:Int))→false=r0)∧((¬16<(p0.kids.length:Int))→aN m p0 0 r0))∧((p0.kind≠18)→aN m p0 0 r0)))))∧((p0.kind≠1)→((p0.kind=2)→((10<(p0.kids.length:Int))→false=r0)∧((¬10<(p0.kids.length:Int))→((p0.kind=16)→((8<(p0.kids.length:Int))→false=r0)∧((¬8<(p0.kids.length:Int))→((p0.kind=18)→((16<(p0.kids.length:Int))→false=r0)∧((¬16<(p0.kids.length:Int))→aN m p0 0 r0))∧((p0.kind≠18)→aN m p0 0 r0)))∧((p0.kind≠16)→((p0.kind=18)→((16<(p0.kids.length:Int))→false=r0)∧((¬16<(p0.kids.length:Int))→aN m p0 0 r0))∧((p0.kind≠18)→aN m p0 0 r0))))∧((p0.kind≠2)→((p0.kind=16)→((8<(p0.kids.length:Int))→false=r0)∧((¬8<(p0.kids.length:Int))→((p0.kind=18)→((16<(p0.kids.length:Int))→false=r0)∧((¬16<(p0.kids.length:Int))→aN m p0 0 r0))∧((p0.kind≠18)→aN m p0 0 r0)))∧((p0.kind≠16)→((p0.kind=18)→((16<(p0.kids.length:Int))→false=r0)∧((¬16<(p0.kids.length:Int))→aN m p0 0 r0))∧((p0.kind≠18)→aN m p0 0 r0))))):je p0 r0:=by
 refine⟨rfl,rfl,?_⟩;refine qA 54 [] func74 λK hK=>?_;refine gR 3 rfl<|gFP 0 rfl rfl rfl rfl<|gR 8 rfl<|gV 7 (qi (p0.kids.length:Int)) rfl (aJ (aD _)) rfl<|gLB 6 rfl (aD _) λa=>gR 10 rfl<|qXeZ 11 10 rfl rfl rfl rfl h ?_ ?_<;>intro hd h;refine gR 4 rfl<|qXdZ 15 14 rfl rfl rfl rfl h ?_ ?_<;>intro hd h;refine gR 36 rfl ?_;subst h;exact qN [.tmp 2];refine gR 4 rfl<|qXeZ 19 18 rfl rfl rfl rfl h ?_ ?_<;>intro hd h;refine gR 5 rfl<|qXdZ 24 23 rfl rfl rfl rfl h ?_ ?_<;>intro hd h;refine gR 27 rfl ?_;subst h;exact qN [.tmp 2];refine gR 4 rfl<|qXeZ 28 27 rfl rfl rfl rfl h ?_ ?_<;>intro hd h;refine gR 5 rfl<|qXdZ 33 32 rfl rfl rfl rfl h ?_ ?_<;>intro hd h;refine gR 18 rfl ?_;subst h;exact qN [.tmp 2];refine gR 4 rfl<|qXeZ 37 36 rfl rfl rfl rfl h ?_ ?_<;>intro hd h;refine gR 6 rfl<|qXd 41 rfl rfl rfl h ?_ ?_<;>intro hd h;refine gR 8 rfl ?_;subst h;exact qN [.tmp 2];exact gR 10 rfl<|go_loop m<|qW hK h [];exact gR 16 rfl<|go_loop m<|qW hK h [];refine gR 9 rfl<|qXeZ 37 36 rfl rfl rfl rfl h ?_ ?_<;>intro hd h;refine gR 6 rfl<|qXd 41 rfl rfl rfl h ?_ ?_<;>intro hd h;refine gR 8 rfl ?_;subst h;exact qN [.tmp 2];exact gR 10 rfl<|go_loop m<|qW hK h [];exact gR 16 rfl<|go_loop m<|qW hK h [];refine gR 9 rfl<|qXeZ 28 27 rfl rfl rfl rfl h ?_ ?_<;>intro hd h;refine gR 5 rfl<|qXdZ 33 32 rfl rfl rfl rfl h ?_ ?_<;>intro hd h;refine gR 18 rfl ?_;subst h;exact qN [.tmp 2];refine gR 4 rfl<|qXeZ 37 36 rfl rfl rfl rfl h ?_ ?_<;>intro hd h;refine gR 6 rfl<|qXd 41 rfl rfl rfl h ?_ ?_<;>intro hd h;refine gR 8 rfl ?_;subst h;exact qN [.tmp 2];exact gR 10 rfl<|go_loop m<|qW hK h [];exact gR 16 rfl<|go_loop m<|qW hK h [];refine gR 9 rfl<|qXeZ 37 36 rfl rfl rfl rfl h ?_ ?_<;>intro hd h;refine gR 6 rfl<|qXd 41 rfl rfl rfl h ?_ ?_<;>intro hd h;refine gR 8 rfl ?_;subst h;exact qN [.tmp 2];exact gR 10 rfl<|go_loop m<|qW hK h [];exact gR 16 rfl<|go_loop m<|qW hK h [];refine gR 8 rfl<|qXeZ 19 18 rfl rfl rfl rfl h ?_ ?_<;>intro hd h;refine gR 5 rfl<|qXdZ 24 23 rfl rfl rfl rfl h ?_ ?_<;>intro hd h;refine gR 27 rfl ?_;subst h;exact qN [.tmp 2];refine gR 4 rfl<|qXeZ 28 27 rfl rfl rfl rfl h ?_ ?_<;>intro hd h;refine gR 5 rfl<|qXdZ 33 32 rfl rfl rfl rfl h ?_ ?_<;>intro hd h;refine gR 18 rfl ?_;subst h;exact qN [.tmp 2];refine gR 4 rfl<|qXeZ 37 36 rfl rfl rfl rfl h ?_ ?_<;>intro hd h;refine gR 6 rfl<|qXd 41 rfl rfl rfl h ?_ ?_<;>intro hd h;refine gR 8 rfl ?_;subst h;exact qN [.tmp 2];exact gR 10 rfl<|go_loop m<|qW hK h [];exact gR 16 rfl<|go_loop m<|qW hK h [];refine gR 9 rfl<|qXeZ 37 36 rfl rfl rfl rfl h ?_ ?_<;>intro hd h;refine gR 6 rfl<|qXd 41 rfl rfl rfl h ?_ ?_<;>intro hd h;refine gR 8 rfl ?_;subst h;exact qN [.tmp 2];exact gR 10 rfl<|go_loop m<|qW hK h [];exact gR 16 rfl<|go_loop m<|qW hK h [];refine gR 9 rfl<|qXeZ 28 27 rfl rfl rfl rfl h ?_ ?_<;>intro hd h;refine gR 5 rfl<|qXdZ 33 32 rfl rfl rfl rfl h ?_ ?_<;>intro hd h;refine gR 18 rfl ?_;subst h;exact qN [.tmp 2];refine gR 4 rfl<|qXeZ 37 36 rfl rfl rfl rfl h ?_ ?_<;>intro hd h;refine gR 6 rfl<|qXd 41 rfl rfl rfl h ?_ ?_<;>intro hd h;refine gR 8 rfl ?_;subst h;exact qN [.tmp 2];exact gR 10 rfl<|go_loop m<|qW hK h [];exact gR 16 rfl<|go_loop m<|qW hK h [];refine gR 9 rfl<|qXeZ 37 36 rfl rfl rfl rfl h ?_ ?_<;>intro hd h;refine gR 6 rfl<|qXd 41 rfl rfl rfl h ?_ ?_<;>intro hd h;refine gR 8 rfl ?_;subst h;exact qN [.tmp 2];exact gR 10 rfl<|go_loop m<|qW hK h [];exact gR 16 rfl<|go_loop m<|qW hK h []
theorem ig(m:Nat)(G:Tree)(a:Nat)(J:Bool)(h:((a<G.kids.length)→∃c,G.kids[a]?=some c∧∃b,je c b∧((b=false)→false=J)∧((b=true)→a+1≤9223372036854775807∧aN m G (a+1) J))∧((¬a<G.kids.length)→true=J)):aN (m+1) G a J:=by
 refine qj λK Z O f=>?_;refine gR 8 rfl<|qXh 44 rfl rfl rfl h bX bY ?_ ?_<;>intro U h;refine gR 10 rfl ?_;obtain⟨c,d,h⟩:=h;refine gY (aC (aq d) ai rfl rfl rfl rfl) rfl rfl<|gR 1 rfl ?_;obtain⟨b,e,h⟩:=h;refine qC0 e rfl<|gR 3 rfl<|qXh 53 rfl rfl rfl h bF bG ?_ ?_<;>intro U h;refine gR 9 rfl<|go_xloopR<|gR 2 rfl ?_;subst h;exact qN [.tmp 2];refine gR 6 rfl ?_;obtain⟨hb,h⟩:=h;exact gR 1 rfl<|gV 46 (qi ((a+1:Nat):Int)) rfl (ao (by omega) (by omega)) rfl<|gR 2 rfl<|go_xloop<|qW O h [];refine gR 3 rfl<|go_xloopE<|gR 8 rfl ?_;subst h;exact qN [.tmp 2]
def jk(m:Nat)(J:Tree)(a:Int)(b:Nat)(O:Int):Prop:=∀(K:Ctx) (G:Nat),aw K []→m≤G→qLG K f75 (λu _=>u=qi O) (xL (aj f75)) [.loop (xL (aj f75)) G,.blk 0,.seq (xF (aj f75))] 22 (mkF 22 0 [(1,.box (al J) 0),(3,qi a),(4,qi (b:Int))]) ⟨0,[]⟩
theorem xX(m:Nat)(p0:Tree)(r0:Int)(h:jk m p0 0 0 r0):jR p0 r0:=by
 refine⟨rfl,rfl,?_⟩;refine qA 22 [] func75 λK hK=>?_;exact gR 3 rfl<|gFP 0 rfl rfl rfl rfl<|gR 15 rfl<|go_loop m<|qW hK h []
theorem mg(m:Nat)(G:Tree)(b:Int)(a:Nat)(J:Int)(h:((a<G.kids.length)→∃c,G.kids[a]?=some c∧∃d,jR c d∧jk m G (max b d) (a+1) J)∧((¬a<G.kids.length)→InI (b+1)∧(b+1)=J)):jk (m+1) G b a J:=by
 refine qj λK U O i=>?_;refine gR 7 rfl<|gV 8 (qi (G.kids.length:Int)) rfl (aJ (aD _)) rfl<|gLB 7 rfl (aD _) λf=>gR 3 rfl<|qXh 9 rfl rfl rfl h bX bY ?_ ?_<;>intro Z h;refine gR 10 rfl ?_;obtain⟨c,e,h⟩:=h;refine gY (aC (aq e) ai rfl rfl rfl rfl) rfl rfl<|gR 1 rfl ?_;obtain⟨d,g,h⟩:=h;exact qC0 g rfl<|gR 8 rfl<|gV 11 (qi ((a+1:Nat):Int)) rfl (ao (by have :=f;omega) (by omega)) rfl<|gR 2 rfl<|go_xloop<|qW O h [];refine gR 3 rfl<|go_xloopE<|gR 5 rfl ?_;obtain⟨hb,h⟩:=h;refine gR 1 rfl<|gV 21 (qi (b+1)) rfl (ao hb rfl) rfl<|gR 4 rfl ?_;subst h;exact qN [.tmp 2]
def cY(m:Nat)(a:List aa)(b:List UInt8)(c:Nat)(J:List UInt8):Prop:=∀(K:Ctx) (G:Nat),aw K []→m≤G→qLG K f76 (λu _=>u=.str J) (xG (xH (aj f76))) [.loop (xG (xH (aj f76))) G,.blk 0,.seq (xA (xF (aj f76)))] 57 (mkF 57 0 [(3,.row 2 (List.map aa.w a)),(4,.str b),(5,qi (c:Int))]) ⟨0,[]⟩
theorem rq(m:Nat)(p0:Tree)(r0:List UInt8)(h:∃a,gH p0 a∧((a=false)→[]=r0)∧((a=true)→∃b,ru p0 b∧cY m b [] 0 r0)):nG p0 r0:=by
 refine⟨rfl,rfl,?_⟩;refine qA 57 [] func76 λK hK=>?_;refine gR 3 rfl<|gFP 0 rfl rfl rfl rfl<|gR 7 rfl ?_;obtain⟨a,c,h⟩:=h;refine qC0 c rfl<|gR 3 rfl<|qXh 8 rfl rfl rfl h bF bG ?_ ?_<;>intro hd h;refine gR 8 rfl ?_;subst h;exact qN [.tmp 2];refine gR 6 rfl ?_;obtain⟨b,d,h⟩:=h;exact qC0 d rfl<|gR 15 rfl<|go_loop m<|qW hK h []
theorem dR(m:Nat)(b:List aa)(c:List UInt8)(a:Nat)(G:List UInt8)(h:((a<b.length)→((0<(a:Int))→∃l,b[a]?=some l∧((l.Lead=[])→InI ((a:Int)-1)∧∃n,((a:Int)-1)=((n:Nat):Int)∧∃s,b[n]?=some s∧∃t,b[a]?=some t∧∃o,sk s.Text t.Text o∧((o=true)→c.length+[32].length≤9223372036854775807∧∃j,b[a]?=some j∧(c++[32]).length+j.Lead.length≤9223372036854775807∧∃p,b[a]?=some p∧((c++[32])++j.Lead).length+p.Text.length≤9223372036854775807∧cY m b (((c++[32])++j.Lead)++p.Text) (a+1) G)∧((o=false)→∃k,b[a]?=some k∧c.length+k.Lead.length≤9223372036854775807∧∃q,b[a]?=some q∧(c++k.Lead).length+q.Text.length≤9223372036854775807∧cY m b ((c++k.Lead)++q.Text) (a+1) G))∧((l.Lead≠[])→∃d,b[a]?=some d∧c.length+d.Lead.length≤9223372036854775807∧∃g,b[a]?=some g∧(c++d.Lead).length+g.Text.length≤9223372036854775807∧cY m b ((c++d.Lead)++g.Text) (a+1) G))∧((¬0<(a:Int))→∃e,b[a]?=some e∧c.length+e.Lead.length≤9223372036854775807∧∃i,b[a]?=some i∧(c++e.Lead).length+i.Text.length≤9223372036854775807∧cY m b ((c++e.Lead)++i.Text) (a+1) G))∧((¬a<b.length)→c=G)):cY (m+1) b c a G:=by
 refine qj λK U J κ=>?_;refine gR 6 rfl<|gV 13 (qi (b.length:Int)) rfl (aJ (aB aa.w _)) rfl<|gLB 12 rfl (aB aa.w _) λr=>gR 3 rfl<|qXh 14 rfl rfl rfl h bX bY ?_ ?_<;>intro O h;refine gR 7 rfl<|qDs [] 24 24<|qDr (qR 0 3 0 []) rfl rfl<|qXdZ 19 18 rfl rfl rfl rfl h ?_ ?_<;>intro O h;refine qDr [(3,2),(4,0)] rfl rfl ?_;obtain⟨l,α,h⟩:=h;refine bD 5 rfl (by kernel_rfl) (aC (ar (f:=aa.w) α) ai rfl rfl rfl rfl) rfl rfl ?_;refine qDr (qR 6 5 0 []) rfl rfl<|qXeZ 27 26 rfl rfl rfl rfl h ?_ ?_<;>intro O h;refine qDr [(11,2),(12,2)] rfl rfl ?_;obtain⟨hb,h⟩:=h;refine qDr [(13,2)] rfl rfl<|gV 30 (qi ((a:Int)-1)) rfl (ao hb rfl) rfl ?_;obtain⟨n,θ,h⟩:=h;refine gV 30 (qi ((n:Nat):Int)) rfl (aL θ) rfl ?_;obtain⟨s,β,h⟩:=h;refine gYd 14 rfl (by kernel_rfl) (aC (ar (f:=aa.w) β) ai rfl rfl rfl rfl) rfl rfl<|qDr (qR 15 3 2 [(18,0)]) rfl rfl ?_;obtain⟨t,γ,h⟩:=h;refine bD 19 rfl (by kernel_rfl) (aC (ar (f:=aa.w) γ) ai rfl rfl rfl rfl) rfl rfl ?_;refine qDr [(20,0),(21,0)] rfl rfl ?_;obtain⟨o,ι,h⟩:=h;refine bz 22 ι (by kernel_rfl) rfl (by kernel_rfl) rfl rfl .rfl rfl rfl ?_;refine qDr [(23,0)] rfl rfl<|qDe<|gR 1 rfl<|qXi 40 rfl rfl rfl h ?_ ?_<;>intro O h;refine gR 3 rfl ?_;obtain⟨hb,h⟩:=h;refine gY (ya rfl rfl hb) rfl rfl<|gR 3 rfl<|qDs [] 14 14<|qDr (qR 0 3 2 []) rfl rfl ?_;obtain⟨j,δ,h⟩:=h;refine gYd 3 rfl (by kernel_rfl) (aC (ar (f:=aa.w) δ) ai rfl rfl rfl rfl) rfl rfl<|qDr [(4,2),(5,2)] rfl rfl ?_;obtain⟨hb,h⟩:=h;refine gYd 6 rfl (by kernel_rfl) (ya rfl rfl hb) rfl rfl<|qDr [(7,2),(8,0)] rfl rfl ?_;obtain⟨p,ε,h⟩:=h;refine bD 9 rfl (by kernel_rfl) (aC (ar (f:=aa.w) ε) ai rfl rfl rfl rfl) rfl rfl ?_;refine qDr [(10,0),(11,0)] rfl rfl ?_;obtain⟨hb,h⟩:=h;refine bD 12 rfl (by kernel_rfl) (ya rfl rfl hb) rfl rfl ?_;exact qDr [(13,0)] rfl rfl<|qDe<|gR 5 rfl<|gV 16 (qi ((a+1:Nat):Int)) rfl (ao (by have :=r;omega) (by omega)) rfl<|gR 2 rfl<|go_xloop<|qW J h [];refine gR 3 rfl<|qDs [] 14 14<|qDr (qR 0 3 2 []) rfl rfl ?_;obtain⟨k,ζ,h⟩:=h;refine gYd 3 rfl (by kernel_rfl) (aC (ar (f:=aa.w) ζ) ai rfl rfl rfl rfl) rfl rfl<|qDr [(4,2),(5,2)] rfl rfl ?_;obtain⟨hb,h⟩:=h;refine gYd 6 rfl (by kernel_rfl) (ya rfl rfl hb) rfl rfl<|qDr [(7,2),(8,0)] rfl rfl ?_;obtain⟨q,η,h⟩:=h;refine bD 9 rfl (by kernel_rfl) (aC (ar (f:=aa.w) η) ai rfl rfl rfl rfl) rfl rfl ?_;refine qDr [(10,0),(11,0)] rfl rfl ?_;obtain⟨hb,h⟩:=h;refine bD 12 rfl (by kernel_rfl) (ya rfl rfl hb) rfl rfl ?_;exact qDr [(13,0)] rfl rfl<|qDe<|gR 5 rfl<|gV 16 (qi ((a+1:Nat):Int)) rfl (ao (by have :=r;omega) (by omega)) rfl<|gR 2 rfl<|go_xloop<|qW J h [];refine qDr (qR 11 7 2 (qR 18 6 0 [])) rfl rfl<|qDe<|gR 4 rfl<|qDs [] 14 14<|qDr (qR 0 3 2 []) rfl rfl ?_;obtain⟨d,v,h⟩:=h;refine gYd 3 rfl (by kernel_rfl) (aC (ar (f:=aa.w) v) ai rfl rfl rfl rfl) rfl rfl<|qDr [(4,2),(5,2)] rfl rfl ?_;obtain⟨hb,h⟩:=h;refine gYd 6 rfl (by kernel_rfl) (ya rfl rfl hb) rfl rfl<|qDr [(7,2),(8,0)] rfl rfl ?_;obtain⟨g,x,h⟩:=h;refine bD 9 rfl (by kernel_rfl) (aC (ar (f:=aa.w) x) ai rfl rfl rfl rfl) rfl rfl ?_;refine qDr [(10,0),(11,0)] rfl rfl ?_;obtain⟨hb,h⟩:=h;refine bD 12 rfl (by kernel_rfl) (ya rfl rfl hb) rfl rfl ?_;exact qDr [(13,0)] rfl rfl<|qDe<|gR 5 rfl<|gV 16 (qi ((a+1:Nat):Int)) rfl (ao (by have :=r;omega) (by omega)) rfl<|gR 2 rfl<|go_xloop<|qW J h [];refine qDr ((3,2)::(qR 4 7 0 (qR 11 7 2 (qR 18 6 0 [])))) rfl rfl<|qDe<|gR 4 rfl<|qDs [] 14 14<|qDr (qR 0 3 2 []) rfl rfl ?_;obtain⟨e,y,h⟩:=h;refine gYd 3 rfl (by kernel_rfl) (aC (ar (f:=aa.w) y) ai rfl rfl rfl rfl) rfl rfl<|qDr [(4,2),(5,2)] rfl rfl ?_;obtain⟨hb,h⟩:=h;refine gYd 6 rfl (by kernel_rfl) (ya rfl rfl hb) rfl rfl<|qDr [(7,2),(8,0)] rfl rfl ?_;obtain⟨i,z,h⟩:=h;refine bD 9 rfl (by kernel_rfl) (aC (ar (f:=aa.w) z) ai rfl rfl rfl rfl) rfl rfl ?_;refine qDr [(10,0),(11,0)] rfl rfl ?_;obtain⟨hb,h⟩:=h;refine bD 12 rfl (by kernel_rfl) (ya rfl rfl hb) rfl rfl ?_;exact qDr [(13,0)] rfl rfl<|qDe<|gR 5 rfl<|gV 16 (qi ((a+1:Nat):Int)) rfl (ao (by have :=r;omega) (by omega)) rfl<|gR 2 rfl<|go_xloop<|qW J h [];refine gR 3 rfl<|go_xloopE<|gR 9 rfl ?_;subst h;exact qN [.tmp 2]
theorem xc(m:Nat)(G:Tree)(J:List aa)(h:∃a,ax ([]:List aa) G a∧a=J):ru G J:=by
 refine⟨rfl,rfl,?_⟩;refine qA 5 [] func113 λK O=>?_;refine gR 3 rfl<|gFP 0 rfl rfl rfl rfl<|gR 6 rfl ?_;obtain⟨a,b,h⟩:=h;refine gCn 0 164 2 b [1] (by kernel_rfl) rfl rfl rfl rfl .rfl ⟨⟨_,rfl,⟨rfl,rfl,rfl⟩⟩,trivial⟩ rfl ?_;rintro _ _ ⟨rfl,rfl⟩;refine gHR 3 (List.map aa.w a) rfl (vI _ a) rfl<|gR 4 rfl<|gFR 3 rfl (fR _ (λ_=>rfl) _) rfl rfl ?_;subst h;exact qN [.tmp 2]
def qM(m:Nat)(J:List aa)(p1:Tree)(O:List aa):Prop:=∀(K:Ctx),aw K []→qLG K f153 (λu G=>u=.sl 1∧G=⟨2,[(1,.row 164 2 (List.map aa.w O))]⟩) (xJ (xE (xA (aj f153)))) [.blk 0,.seq (xF (aj f153))] 365 (mkF 365 0 [(0,.sl 0),(3,.box (al p1) 0),(5,qi (p1.kids.length:Int))]) ⟨1,[(0,.row 164 2 (List.map aa.w J))]⟩
def lL(m:Nat)(J:List aa)(p1:Tree)(O:List aa):Prop:=∀(K:Ctx),aw K []→qLG K f153 (λu G=>u=.sl 1∧G=⟨2,[(1,.row 164 2 (List.map aa.w O))]⟩) (xN (xA (aj f153))) [.blk 0,.seq (xF (aj f153))] 365 (mkF 365 0 [(0,.sl 0),(3,.box (al p1) 0),(5,qi (p1.kids.length:Int)),(11,qi p1.kind)]) ⟨1,[(0,.row 164 2 (List.map aa.w J))]⟩
def fB(m:Nat)(p1:Tree)(a:List aa)(b:Nat)(O:List aa):Prop:=∀(K:Ctx) (J:Nat),aw K []→m≤J→qLG K f153 (λu G=>u=.sl 1∧G=⟨2,[(1,.row 164 2 (List.map aa.w O))]⟩) (xG (cB (xJ (xE (xA (aj f153)))))) [.loop (xG (cB (xJ (xE (xA (aj f153)))))) J,.blk 1,.seq (xA (xJ (xE (xA (aj f153))))),.blk 0,.seq (xF (aj f153))] 365 (mkF 365 0 [(0,.sl 0),(3,.box (al p1) 0),(5,qi (p1.kids.length:Int)),(6,qi (b:Int))]) ⟨1,[(0,.row 164 2 (List.map aa.w a))]⟩
def qX(m:Nat)(J:List aa)(p1:Tree)(O:List aa):Prop:=∀(K:Ctx),aw K []→qLG K f153 (λu G=>u=.sl 1∧G=⟨2,[(1,.row 164 2 (List.map aa.w O))]⟩) (xJ (xN (xA (aj f153)))) [.blk 0,.seq (xF (aj f153))] 365 (mkF 365 0 [(0,.sl 0),(3,.box (al p1) 0),(5,qi (p1.kids.length:Int))]) ⟨1,[(0,.row 164 2 (List.map aa.w J))]⟩
def mc(m:Nat)(J:List aa)(p1:Tree)(O:List aa):Prop:=∀(K:Ctx),aw K []→qLG K f153 (λu G=>u=.sl 1∧G=⟨2,[(1,.row 164 2 (List.map aa.w O))]⟩) (xC (xE (xA (aj f153)))) [.blk 0,.seq (xF (aj f153))] 365 (mkF 365 0 [(0,.sl 0),(3,.box (al p1) 0),(5,qi (p1.kids.length:Int)),(11,qi p1.kind)]) ⟨1,[(0,.row 164 2 (List.map aa.w J))]⟩
def rc(m:Nat)(J:List aa)(p1:Tree)(O:List aa):Prop:=∀(K:Ctx),aw K []→qLG K f153 (λu G=>u=.sl 1∧G=⟨2,[(1,.row 164 2 (List.map aa.w O))]⟩) (xJ (xC (xE (xA (aj f153))))) [.blk 0,.seq (xF (aj f153))] 365 (mkF 365 0 [(0,.sl 0),(3,.box (al p1) 0)]) ⟨1,[(0,.row 164 2 (List.map aa.w J))]⟩
def lI(m:Nat)(J:List aa)(p1:Tree)(O:List aa):Prop:=∀(K:Ctx),aw K []→qLG K f153 (λu G=>u=.sl 1∧G=⟨2,[(1,.row 164 2 (List.map aa.w O))]⟩) (xC (xN (xA (aj f153)))) [.blk 0,.seq (xF (aj f153))] 365 (mkF 365 0 [(0,.sl 0),(3,.box (al p1) 0),(5,qi (p1.kids.length:Int)),(11,qi p1.kind)]) ⟨1,[(0,.row 164 2 (List.map aa.w J))]⟩
def qZ(m:Nat)(J:List aa)(p1:Tree)(O:List aa):Prop:=∀(K:Ctx),aw K []→qLG K f153 (λu G=>u=.sl 1∧G=⟨2,[(1,.row 164 2 (List.map aa.w O))]⟩) (xJ (xC (xN (xA (aj f153))))) [.blk 0,.seq (xF (aj f153))] 365 (mkF 365 0 [(0,.sl 0),(3,.box (al p1) 0)]) ⟨1,[(0,.row 164 2 (List.map aa.w J))]⟩
def lN(m:Nat)(J:List aa)(p1:Tree)(O:List aa):Prop:=∀(K:Ctx),aw K []→qLG K f153 (λu G=>u=.sl 1∧G=⟨2,[(1,.row 164 2 (List.map aa.w O))]⟩) (xI (xE (xA (aj f153)))) [.blk 0,.seq (xF (aj f153))] 365 (mkF 365 0 [(0,.sl 0),(3,.box (al p1) 0),(5,qi (p1.kids.length:Int)),(11,qi p1.kind)]) ⟨1,[(0,.row 164 2 (List.map aa.w J))]⟩
def mh(m:Nat)(J:List aa)(p1:Tree)(O:List aa):Prop:=∀(K:Ctx),aw K []→qLG K f153 (λu G=>u=.sl 1∧G=⟨2,[(1,.row 164 2 (List.map aa.w O))]⟩) (xI (xN (xA (aj f153)))) [.blk 0,.seq (xF (aj f153))] 365 (mkF 365 0 [(0,.sl 0),(3,.box (al p1) 0),(5,qi (p1.kids.length:Int)),(11,qi p1.kind)]) ⟨1,[(0,.row 164 2 (List.map aa.w J))]⟩
def kY(m:Nat)(J:List aa)(p1:Tree)(O:List aa):Prop:=∀(K:Ctx),aw K []→qLG K f153 (λu G=>u=.sl 1∧G=⟨2,[(1,.row 164 2 (List.map aa.w O))]⟩) (xI (xC (xE (xA (aj f153))))) [.blk 0,.seq (xF (aj f153))] 365 (mkF 365 0 [(0,.sl 0),(3,.box (al p1) 0),(5,qi (p1.kids.length:Int)),(11,qi p1.kind)]) ⟨1,[(0,.row 164 2 (List.map aa.w J))]⟩
def lm(m:Nat)(J:List aa)(p1:Tree)(O:List aa):Prop:=∀(K:Ctx),aw K []→qLG K f153 (λu G=>u=.sl 1∧G=⟨2,[(1,.row 164 2 (List.map aa.w O))]⟩) (xI (xC (xN (xA (aj f153))))) [.blk 0,.seq (xF (aj f153))] 365 (mkF 365 0 [(0,.sl 0),(3,.box (al p1) 0),(5,qi (p1.kids.length:Int)),(11,qi p1.kind)]) ⟨1,[(0,.row 164 2 (List.map aa.w J))]⟩
def lj(m:Nat)(J:List aa)(p1:Tree)(O:List aa):Prop:=∀(K:Ctx),aw K []→qLG K f153 (λu G=>u=.sl 1∧G=⟨2,[(1,.row 164 2 (List.map aa.w O))]⟩) (xI (xI (xE (xA (aj f153))))) [.blk 0,.seq (xF (aj f153))] 365 (mkF 365 0 [(0,.sl 0),(3,.box (al p1) 0),(5,qi (p1.kids.length:Int)),(11,qi p1.kind)]) ⟨1,[(0,.row 164 2 (List.map aa.w J))]⟩
def lq(m:Nat)(J:List aa)(p1:Tree)(O:List aa):Prop:=∀(K:Ctx),aw K []→qLG K f153 (λu G=>u=.sl 1∧G=⟨2,[(1,.row 164 2 (List.map aa.w O))]⟩) (xI (xI (xN (xA (aj f153))))) [.blk 0,.seq (xF (aj f153))] 365 (mkF 365 0 [(0,.sl 0),(3,.box (al p1) 0),(5,qi (p1.kids.length:Int)),(11,qi p1.kind)]) ⟨1,[(0,.row 164 2 (List.map aa.w J))]⟩
def kU(m:Nat)(J:List aa)(p1:Tree)(O:List aa):Prop:=∀(K:Ctx),aw K []→qLG K f153 (λu G=>u=.sl 1∧G=⟨2,[(1,.row 164 2 (List.map aa.w O))]⟩) (xI (xI (xC (xE (xA (aj f153)))))) [.blk 0,.seq (xF (aj f153))] 365 (mkF 365 0 [(0,.sl 0),(3,.box (al p1) 0),(5,qi (p1.kids.length:Int)),(11,qi p1.kind)]) ⟨1,[(0,.row 164 2 (List.map aa.w J))]⟩
def pS(m:Nat)(J:List aa)(p1:Tree)(O:List aa):Prop:=∀(K:Ctx),aw K []→qLG K f153 (λu G=>u=.sl 1∧G=⟨2,[(1,.row 164 2 (List.map aa.w O))]⟩) (xJ (xI (xI (xC (xE (xA (aj f153))))))) [.blk 0,.seq (xF (aj f153))] 365 (mkF 365 0 [(0,.sl 0),(3,.box (al p1) 0)]) ⟨1,[(0,.row 164 2 (List.map aa.w J))]⟩
def lp(m:Nat)(J:List aa)(p1:Tree)(O:List aa):Prop:=∀(K:Ctx),aw K []→qLG K f153 (λu G=>u=.sl 1∧G=⟨2,[(1,.row 164 2 (List.map aa.w O))]⟩) (xI (xI (xC (xN (xA (aj f153)))))) [.blk 0,.seq (xF (aj f153))] 365 (mkF 365 0 [(0,.sl 0),(3,.box (al p1) 0),(5,qi (p1.kids.length:Int)),(11,qi p1.kind)]) ⟨1,[(0,.row 164 2 (List.map aa.w J))]⟩
def pU(m:Nat)(J:List aa)(p1:Tree)(O:List aa):Prop:=∀(K:Ctx),aw K []→qLG K f153 (λu G=>u=.sl 1∧G=⟨2,[(1,.row 164 2 (List.map aa.w O))]⟩) (xJ (xI (xI (xC (xN (xA (aj f153))))))) [.blk 0,.seq (xF (aj f153))] 365 (mkF 365 0 [(0,.sl 0),(3,.box (al p1) 0),(5,qi (p1.kids.length:Int))]) ⟨1,[(0,.row 164 2 (List.map aa.w J))]⟩
def lg(m:Nat)(J:List aa)(p1:Tree)(O:List aa):Prop:=∀(K:Ctx),aw K []→qLG K f153 (λu G=>u=.sl 1∧G=⟨2,[(1,.row 164 2 (List.map aa.w O))]⟩) (xI (xI (xI (xE (xA (aj f153)))))) [.blk 0,.seq (xF (aj f153))] 365 (mkF 365 0 [(0,.sl 0),(3,.box (al p1) 0),(5,qi (p1.kids.length:Int)),(11,qi p1.kind)]) ⟨1,[(0,.row 164 2 (List.map aa.w J))]⟩
def lv(m:Nat)(J:List aa)(p1:Tree)(O:List aa):Prop:=∀(K:Ctx),aw K []→qLG K f153 (λu G=>u=.sl 1∧G=⟨2,[(1,.row 164 2 (List.map aa.w O))]⟩) (xI (xI (xI (xN (xA (aj f153)))))) [.blk 0,.seq (xF (aj f153))] 365 (mkF 365 0 [(0,.sl 0),(3,.box (al p1) 0),(5,qi (p1.kids.length:Int)),(11,qi p1.kind)]) ⟨1,[(0,.row 164 2 (List.map aa.w J))]⟩
def pR(m:Nat)(J:List aa)(p1:Tree)(O:List aa):Prop:=∀(K:Ctx),aw K []→qLG K f153 (λu G=>u=.sl 1∧G=⟨2,[(1,.row 164 2 (List.map aa.w O))]⟩) (xJ (xI (xI (xI (xN (xA (aj f153))))))) [.blk 0,.seq (xF (aj f153))] 365 (mkF 365 0 [(0,.sl 0),(3,.box (al p1) 0),(5,qi (p1.kids.length:Int))]) ⟨1,[(0,.row 164 2 (List.map aa.w J))]⟩
def kS(m:Nat)(J:List aa)(p1:Tree)(O:List aa):Prop:=∀(K:Ctx),aw K []→qLG K f153 (λu G=>u=.sl 1∧G=⟨2,[(1,.row 164 2 (List.map aa.w O))]⟩) (xI (xI (xI (xC (xE (xA (aj f153))))))) [.blk 0,.seq (xF (aj f153))] 365 (mkF 365 0 [(0,.sl 0),(3,.box (al p1) 0),(11,qi p1.kind)]) ⟨1,[(0,.row 164 2 (List.map aa.w J))]⟩
def qh(m:Nat)(J:List aa)(p1:Tree)(O:List aa):Prop:=∀(K:Ctx),aw K []→qLG K f153 (λu G=>u=.sl 1∧G=⟨2,[(1,.row 164 2 (List.map aa.w O))]⟩) (xJ (xI (xI (xI (xC (xE (xA (aj f153)))))))) [.blk 0,.seq (xF (aj f153))] 365 (mkF 365 0 [(0,.sl 0),(3,.box (al p1) 0)]) ⟨1,[(0,.row 164 2 (List.map aa.w J))]⟩
def la(m:Nat)(J:List aa)(p1:Tree)(O:List aa):Prop:=∀(K:Ctx),aw K []→qLG K f153 (λu G=>u=.sl 1∧G=⟨2,[(1,.row 164 2 (List.map aa.w O))]⟩) (xI (xI (xI (xC (xN (xA (aj f153))))))) [.blk 0,.seq (xF (aj f153))] 365 (mkF 365 0 [(0,.sl 0),(3,.box (al p1) 0),(11,qi p1.kind)]) ⟨1,[(0,.row 164 2 (List.map aa.w J))]⟩
def pM(m:Nat)(J:List aa)(p1:Tree)(O:List aa):Prop:=∀(K:Ctx),aw K []→qLG K f153 (λu G=>u=.sl 1∧G=⟨2,[(1,.row 164 2 (List.map aa.w O))]⟩) (xJ (xI (xI (xI (xC (xN (xA (aj f153)))))))) [.blk 0,.seq (xF (aj f153))] 365 (mkF 365 0 [(0,.sl 0),(3,.box (al p1) 0)]) ⟨1,[(0,.row 164 2 (List.map aa.w J))]⟩
def kW(m:Nat)(J:List aa)(p1:Tree)(O:List aa):Prop:=∀(K:Ctx),aw K []→qLG K f153 (λu G=>u=.sl 1∧G=⟨2,[(1,.row 164 2 (List.map aa.w O))]⟩) (xI (xI (xI (xI (xE (xA (aj f153))))))) [.blk 0,.seq (xF (aj f153))] 365 (mkF 365 0 [(0,.sl 0),(3,.box (al p1) 0),(11,qi p1.kind)]) ⟨1,[(0,.row 164 2 (List.map aa.w J))]⟩
def pO(m:Nat)(J:List aa)(p1:Tree)(O:List aa):Prop:=∀(K:Ctx),aw K []→qLG K f153 (λu G=>u=.sl 1∧G=⟨2,[(1,.row 164 2 (List.map aa.w O))]⟩) (xJ (xI (xI (xI (xI (xE (xA (aj f153)))))))) [.blk 0,.seq (xF (aj f153))] 365 (mkF 365 0 [(0,.sl 0),(3,.box (al p1) 0)]) ⟨1,[(0,.row 164 2 (List.map aa.w J))]⟩
def lw(m:Nat)(J:List aa)(p1:Tree)(O:List aa):Prop:=∀(K:Ctx),aw K []→qLG K f153 (λu G=>u=.sl 1∧G=⟨2,[(1,.row 164 2 (List.map aa.w O))]⟩) (xI (xI (xI (xI (xN (xA (aj f153))))))) [.blk 0,.seq (xF (aj f153))] 365 (mkF 365 0 [(0,.sl 0),(3,.box (al p1) 0),(11,qi p1.kind)]) ⟨1,[(0,.row 164 2 (List.map aa.w J))]⟩
def qb(m:Nat)(J:List aa)(p1:Tree)(O:List aa):Prop:=∀(K:Ctx),aw K []→qLG K f153 (λu G=>u=.sl 1∧G=⟨2,[(1,.row 164 2 (List.map aa.w O))]⟩) (xJ (xI (xI (xI (xI (xN (xA (aj f153)))))))) [.blk 0,.seq (xF (aj f153))] 365 (mkF 365 0 [(0,.sl 0),(3,.box (al p1) 0)]) ⟨1,[(0,.row 164 2 (List.map aa.w J))]⟩
theorem qP(m:Nat)(J:List aa)(p1:Tree)(O:List aa)(h:((p1.kind=1)→qM m J p1 O)∧((p1.kind≠1)→lL m J p1 O)):ax J p1 O:=by
 refine qA 365 [] func153 λK G=>?_;refine gR 3 rfl<|gFP 1 rfl rfl rfl rfl<|gR 8 rfl<|gV 9 (qi (p1.kids.length:Int)) rfl (aJ (aD _)) rfl<|gLB 8 rfl (aD _) λa=>gR 17 rfl<|qBeZ 12 13 rfl rfl rfl rfl h ?_ ?_<;>intro h;exact gR 1 rfl<|qJ G (h K G) [0];exact gR 1 rfl<|qJ G (h K G) [0]
theorem wk(m:Nat)(p0:List aa)(p1:Tree)(r0:List aa)(h:∃a,av p1 0 a∧∃b,av p1 1 b∧(p0++[(aa.mk a [109,111,100,117,108,101]),(aa.mk b p1.text)]).length≤1000000000∧fB m p1 (p0++[(aa.mk a [109,111,100,117,108,101]),(aa.mk b p1.text)]) 0 r0):qM (m+1) p0 p1 r0:=by
 intro K hK;refine gR 1 rfl<|qDs [] 12 12<|qDr [(0,2),(1,2),(4,2),(6,2),(7,2)] rfl rfl ?_;obtain⟨a,c,h⟩:=h;refine bz 2 c (by kernel_rfl) rfl (by kernel_rfl) rfl rfl .rfl rfl rfl ?_;refine qDr [(3,2)] rfl rfl ?_;obtain⟨b,d,h⟩:=h;refine bz 5 d (by kernel_rfl) rfl (by kernel_rfl) rfl rfl .rfl rfl rfl ?_;refine qDr [(8,0),(9,0)] rfl rfl ?_;obtain⟨hb,h⟩:=h;refine bh 10 (.repl 0 (.row 164 2 (List.map aa.w (p0++[(aa.mk a [109,111,100,117,108,101]),(aa.mk b p1.text)])))) rfl (by kernel_rfl) (bI ai rfl rfl rfl rfl rfl (List.map_append (f:=aa.w) (l₁:=p0) (l₂:=[(aa.mk a [109,111,100,117,108,101]),(aa.mk b p1.text)])).symm (by rw[aB];exact hb)) (okR rfl) rfl (by kernel_rfl) rfl rfl ?_;exact qDr [(11,0)] rfl rfl<|qDe<|gR 8 rfl<|go_loop m<|qW hK h [2]
theorem qd(m:Nat)(J:List aa)(p1:Tree)(O:List aa)(h:((p1.kind=2)→qX m J p1 O)∧((p1.kind≠2)→mc m J p1 O)):lL (m+1) J p1 O:=by
 intro K G;refine gR 6 rfl<|qBeZ 43 44 rfl rfl rfl rfl h ?_ ?_<;>intro h;exact gR 1 rfl<|qJ G (h K G) [0];exact gR 1 rfl<|qJ G (h K G) [0]
theorem pX(m:Nat)(p1:Tree)(b:List aa)(a:Nat)(G:List aa)(h:((a<p1.kids.length)→∃e,p1.kids[a]?=some e∧∃d,ax b e d∧a+1≤9223372036854775807∧fB m p1 d (a+1) G)∧((¬a<p1.kids.length)→∃c,av p1 2 c∧(b++[(aa.mk c [])]).length≤1000000000∧(b++[(aa.mk c [])])=G)):fB (m+1) p1 b a G:=by
 refine qj λK O J j=>?_;refine gR 8 rfl<|qXh 27 rfl rfl rfl h bX bY ?_ ?_<;>intro U h;refine gR 10 rfl ?_;obtain⟨e,f,h⟩:=h;refine gY (aC (aq f) ai rfl rfl rfl rfl) rfl rfl<|gR 1 rfl ?_;obtain⟨d,g,h⟩:=h;refine qC g [0] ?_;refine gHR 2 (List.map aa.w d) rfl (vI _ d) rfl<|gR 6 rfl ?_;obtain⟨hb,h⟩:=h;exact gR 1 rfl<|gV 29 (qi ((a+1:Nat):Int)) rfl (ao (by omega) (by omega)) rfl<|gR 2 rfl<|go_xloop<|qW J h [2];refine gR 3 rfl<|go_xloopE<|gR 6 rfl ?_;obtain⟨c,i,h⟩:=h;refine qC0 i rfl<|gR 2 rfl ?_;obtain⟨hb,h⟩:=h;refine gDo (.repl 0 (.row 164 2 (List.map aa.w (b++[(aa.mk c [])])))) (bI ai rfl rfl rfl rfl rfl (apM aa.w b (aa.mk c [])) (by rw[aB];exact hb)) (okR rfl) rfl rfl rfl<|gR 6 rfl ?_;subst h;exact gE J [] [(4,.sl 1)] [1000,2] [.tmp 4]
theorem wu(m:Nat)(G:List aa)(p1:Tree)(J:List aa)(h:∃e,av p1 0 e∧∃g,av p1 1 g∧∃i,av p1 2 i∧(G++[(aa.mk e [100,101,102]),(aa.mk g p1.text),(aa.mk i [40])]).length≤1000000000∧InI ((p1.kids.length:Int)-2)∧∃c,gu (G++[(aa.mk e [100,101,102]),(aa.mk g p1.text),(aa.mk i [40])]) p1 0 ((p1.kids.length:Int)-2) 6 c∧∃j,av p1 3 j∧∃k,av p1 4 k∧(c++[(aa.mk j [41]),(aa.mk k [58])]).length≤1000000000∧InI ((p1.kids.length:Int)-2)∧∃o,((p1.kids.length:Int)-2)=((o:Nat):Int)∧∃p,p1.kids[o]?=some p∧∃b,ax (c++[(aa.mk j [41]),(aa.mk k [58])]) p b∧∃a,av p1 5 a∧(b++[(aa.mk a [61])]).length≤1000000000∧InI ((p1.kids.length:Int)-1)∧∃l,((p1.kids.length:Int)-1)=((l:Nat):Int)∧∃n,p1.kids[l]?=some n∧∃d,ax (b++[(aa.mk a [61])]) n d∧d=J):qX (m+1) G p1 J:=by
 intro K O;refine gR 1 rfl<|qDs [] 15 15<|qDr [(0,2),(1,2),(4,2),(6,2),(7,2),(9,2)] rfl rfl ?_;obtain⟨e,t,h⟩:=h;refine bz 2 t (by kernel_rfl) rfl (by kernel_rfl) rfl rfl .rfl rfl rfl ?_;refine qDr [(3,2)] rfl rfl ?_;obtain⟨g,v,h⟩:=h;refine bz 5 v (by kernel_rfl) rfl (by kernel_rfl) rfl rfl .rfl rfl rfl ?_;refine qDr [(8,2)] rfl rfl ?_;obtain⟨i,x,h⟩:=h;refine bz 10 x (by kernel_rfl) rfl (by kernel_rfl) rfl rfl .rfl rfl rfl ?_;refine qDr [(11,0),(12,0)] rfl rfl ?_;obtain⟨hb,h⟩:=h;refine bh 13 (.repl 0 (.row 164 2 (List.map aa.w (G++[(aa.mk e [100,101,102]),(aa.mk g p1.text),(aa.mk i [40])])))) rfl (by kernel_rfl) (bI ai rfl rfl rfl rfl rfl (List.map_append (f:=aa.w) (l₁:=G) (l₂:=[(aa.mk e [100,101,102]),(aa.mk g p1.text),(aa.mk i [40])])).symm (by rw[aB];exact hb)) (okR rfl) rfl (by kernel_rfl) rfl rfl ?_;refine qDr [(14,0)] rfl rfl<|qDe<|gR 6 rfl ?_;obtain⟨hb,h⟩:=h;refine gR 1 rfl<|gV 62 (qi ((p1.kids.length:Int)-2)) rfl (ao hb rfl) rfl ?_;obtain⟨c,y,h⟩:=h;refine qC y [2] ?_;refine gHR 4 (List.map aa.w c) rfl (vI _ c) rfl<|gR 4 rfl<|qDs [] 10 10<|qDr [(0,2),(1,2),(4,2)] rfl rfl ?_;obtain⟨j,z,h⟩:=h;refine bz 2 z (by kernel_rfl) rfl (by kernel_rfl) rfl rfl .rfl rfl rfl ?_;refine qDr [(3,2)] rfl rfl ?_;obtain⟨k,α,h⟩:=h;refine bz 5 α (by kernel_rfl) rfl (by kernel_rfl) rfl rfl .rfl rfl rfl ?_;refine qDr [(6,0),(7,0)] rfl rfl ?_;obtain⟨hb,h⟩:=h;refine bh 8 (.repl 4 (.row 164 2 (List.map aa.w (c++[(aa.mk j [41]),(aa.mk k [58])])))) rfl (by kernel_rfl) (bI ai rfl rfl rfl rfl rfl (List.map_append (f:=aa.w) (l₁:=c) (l₂:=[(aa.mk j [41]),(aa.mk k [58])])).symm (by rw[aB];exact hb)) (okR rfl) rfl (by kernel_rfl) rfl rfl ?_;refine qDr [(9,0)] rfl rfl<|qDe<|gR 2 rfl<|qDs [] 14 14<|qDr (qR 0 4 2 []) rfl rfl ?_;obtain⟨hb,h⟩:=h;refine qDr [(4,2)] rfl rfl<|gV 77 (qi ((p1.kids.length:Int)-2)) rfl (ao hb rfl) rfl ?_;obtain⟨o,β,h⟩:=h;refine gV 77 (qi ((o:Nat):Int)) rfl (aL β) rfl ?_;obtain⟨p,r,h⟩:=h;refine gYd 5 rfl (by kernel_rfl) (aC (aq r) ai rfl rfl rfl rfl) rfl rfl<|qDr [(6,2),(8,2)] rfl rfl ?_;obtain⟨b,γ,h⟩:=h;refine qDC 7 γ [6] rfl ?_;refine gHR 8 (List.map aa.w b) rfl (vI _ b) rfl ?_;obtain⟨a,δ,h⟩:=h;refine bz 9 δ (by kernel_rfl) rfl (by kernel_rfl) rfl rfl .rfl rfl rfl ?_;refine qDr [(10,0),(11,0)] rfl rfl ?_;obtain⟨hb,h⟩:=h;refine bh 12 (.repl 8 (.row 164 2 (List.map aa.w (b++[(aa.mk a [61])])))) rfl (by kernel_rfl) (bI ai rfl rfl rfl rfl rfl (apM aa.w b (aa.mk a [61])) (by rw[aB];exact hb)) (okR rfl) rfl (by kernel_rfl) rfl rfl ?_;refine qDr [(13,0)] rfl rfl<|qDe<|gR 1 rfl<|go_sub (F':=(mkF 365 0 [(0,.sl 0),(3,.box (al p1) 0),(5,qi (p1.kids.length:Int))])) (H':=⟨1,[(0,.row 164 2 (List.map aa.w (b++[(aa.mk a [61])])))]⟩) [10] [] rfl O pq3 ⟨⟨_,rfl,rfl,rfl,(vI _ (b++[(aa.mk a [61])])).symm⟩,trivial⟩ rfl<|gR 6 rfl ?_;obtain⟨hb,h⟩:=h;refine gR 1 rfl<|gV 90 (qi ((p1.kids.length:Int)-1)) rfl (ao hb rfl) rfl ?_;obtain⟨l,s,h⟩:=h;refine gV 90 (qi ((l:Nat):Int)) rfl (aL s) rfl ?_;obtain⟨n,q,h⟩:=h;refine gY (aC (aq q) ai rfl rfl rfl rfl) rfl rfl<|gR 1 rfl ?_;obtain⟨d,ε,h⟩:=h;refine qC ε [0] ?_;refine gHR 2 (List.map aa.w d) rfl (vI _ d) rfl<|gR 6 rfl ?_;subst h;exact gE O [] [(4,.sl 1)] [1000,2] [.tmp 4]
theorem qa(m:Nat)(J:List aa)(p1:Tree)(O:List aa)(h:((p1.kind=3)→rc m J p1 O)∧((p1.kind≠3)→lI m J p1 O)):mc (m+1) J p1 O:=by
 intro K G;refine gR 6 rfl<|qBeZ 94 95 rfl rfl rfl rfl h ?_ ?_<;>intro h;exact gR 1 rfl<|qJ G (h K G) [0];exact gR 1 rfl<|qJ G (h K G) [0]
theorem wJ(m:Nat)(G:List aa)(p1:Tree)(J:List aa)(h:∃a,av p1 0 a∧∃b,av p1 1 b∧∃c,av p1 2 c∧(G++[(aa.mk a [116,121,112,101]),(aa.mk b p1.text),(aa.mk c [61])]).length≤1000000000∧∃e,p1.kids[0]?=some e∧∃d,ax (G++[(aa.mk a [116,121,112,101]),(aa.mk b p1.text),(aa.mk c [61])]) e d∧d=J):rc (m+1) G p1 J:=by
 intro K O;refine gR 1 rfl<|qDs [] 15 15<|qDr [(0,2),(1,2),(4,2),(6,2),(7,2),(9,2)] rfl rfl ?_;obtain⟨a,i,h⟩:=h;refine bz 2 i (by kernel_rfl) rfl (by kernel_rfl) rfl rfl .rfl rfl rfl ?_;refine qDr [(3,2)] rfl rfl ?_;obtain⟨b,j,h⟩:=h;refine bz 5 j (by kernel_rfl) rfl (by kernel_rfl) rfl rfl .rfl rfl rfl ?_;refine qDr [(8,2)] rfl rfl ?_;obtain⟨c,k,h⟩:=h;refine bz 10 k (by kernel_rfl) rfl (by kernel_rfl) rfl rfl .rfl rfl rfl ?_;refine qDr [(11,0),(12,0)] rfl rfl ?_;obtain⟨hb,h⟩:=h;refine bh 13 (.repl 0 (.row 164 2 (List.map aa.w (G++[(aa.mk a [116,121,112,101]),(aa.mk b p1.text),(aa.mk c [61])])))) rfl (by kernel_rfl) (bI ai rfl rfl rfl rfl rfl (List.map_append (f:=aa.w) (l₁:=G) (l₂:=[(aa.mk a [116,121,112,101]),(aa.mk b p1.text),(aa.mk c [61])])).symm (by rw[aB];exact hb)) (okR rfl) rfl (by kernel_rfl) rfl rfl ?_;refine qDr [(14,0)] rfl rfl<|qDe<|gR 6 rfl ?_;obtain⟨e,g,h⟩:=h;refine gY (aC (aq g) ai rfl rfl rfl rfl) rfl rfl<|gR 1 rfl ?_;obtain⟨d,l,h⟩:=h;refine qC l [2] ?_;refine gHR 4 (List.map aa.w d) rfl (vI _ d) rfl<|gR 6 rfl ?_;subst h;exact gE O [] [(4,.sl 1)] [1000,4] [.tmp 4]
theorem pQ(m:Nat)(J:List aa)(p1:Tree)(O:List aa)(h:((p1.kind=4)→qZ m J p1 O)∧((p1.kind≠4)→lN m J p1 O)):lI (m+1) J p1 O:=by
 intro K G;refine gR 6 rfl<|qBeZ 116 117 rfl rfl rfl rfl h ?_ ?_<;>intro h;exact gR 1 rfl<|qJ G (h K G) [0];exact gR 1 rfl<|qJ G (h K G) [0]
theorem ws(m:Nat)(G:List aa)(p1:Tree)(J:List aa)(h:∃a,av p1 0 a∧∃b,av p1 1 b∧(G++[(aa.mk a p1.text),(aa.mk b [58])]).length≤1000000000∧∃d,p1.kids[0]?=some d∧∃c,ax (G++[(aa.mk a p1.text),(aa.mk b [58])]) d c∧c=J):qZ (m+1) G p1 J:=by
 intro K O;refine gR 1 rfl<|qDs [] 12 12<|qDr [(0,2),(1,2),(3,2),(4,2),(6,2)] rfl rfl ?_;obtain⟨a,g,h⟩:=h;refine bz 2 g (by kernel_rfl) rfl (by kernel_rfl) rfl rfl .rfl rfl rfl ?_;refine qDr [(5,2)] rfl rfl ?_;obtain⟨b,i,h⟩:=h;refine bz 7 i (by kernel_rfl) rfl (by kernel_rfl) rfl rfl .rfl rfl rfl ?_;refine qDr [(8,0),(9,0)] rfl rfl ?_;obtain⟨hb,h⟩:=h;refine bh 10 (.repl 0 (.row 164 2 (List.map aa.w (G++[(aa.mk a p1.text),(aa.mk b [58])])))) rfl (by kernel_rfl) (bI ai rfl rfl rfl rfl rfl (List.map_append (f:=aa.w) (l₁:=G) (l₂:=[(aa.mk a p1.text),(aa.mk b [58])])).symm (by rw[aB];exact hb)) (okR rfl) rfl (by kernel_rfl) rfl rfl ?_;refine qDr [(11,0)] rfl rfl<|qDe<|gR 6 rfl ?_;obtain⟨d,e,h⟩:=h;refine gY (aC (aq e) ai rfl rfl rfl rfl) rfl rfl<|gR 1 rfl ?_;obtain⟨c,j,h⟩:=h;refine qC j [2] ?_;refine gHR 4 (List.map aa.w c) rfl (vI _ c) rfl<|gR 6 rfl ?_;subst h;exact gE O [] [(4,.sl 1)] [1000,4] [.tmp 4]
theorem qe(m:Nat)(G:List aa)(p1:Tree)(J:List aa)(h:((p1.kind=5)→∃a,av p1 0 a∧(G++[(aa.mk a [73,110,116])]).length≤1000000000∧(G++[(aa.mk a [73,110,116])])=J)∧((p1.kind≠5)→mh m G p1 J)):lN (m+1) G p1 J:=by
 intro K O;refine gR 6 rfl<|qBeZ 135 136 rfl rfl rfl rfl h ?_ ?_<;>intro h;refine gR 5 rfl ?_;obtain⟨a,b,h⟩:=h;refine qC0 b rfl<|gR 2 rfl ?_;obtain⟨hb,h⟩:=h;refine gDo (.repl 0 (.row 164 2 (List.map aa.w (G++[(aa.mk a [73,110,116])])))) (bI ai rfl rfl rfl rfl rfl (apM aa.w G (aa.mk a [73,110,116])) (by rw[aB];exact hb)) (okR rfl) rfl rfl rfl<|gR 6 rfl ?_;subst h;exact gE O [] [(4,.sl 1)] [1000,2] [.tmp 4];exact gR 1 rfl<|qJ O (h K O) [0]
theorem qc(m:Nat)(G:List aa)(p1:Tree)(J:List aa)(h:((p1.kind=6)→∃a,av p1 0 a∧(G++[(aa.mk a [84,101,120,116])]).length≤1000000000∧(G++[(aa.mk a [84,101,120,116])])=J)∧((p1.kind≠6)→kY m G p1 J)):mh (m+1) G p1 J:=by
 intro K O;refine gR 6 rfl<|qBeZ 143 144 rfl rfl rfl rfl h ?_ ?_<;>intro h;refine gR 5 rfl ?_;obtain⟨a,b,h⟩:=h;refine qC0 b rfl<|gR 2 rfl ?_;obtain⟨hb,h⟩:=h;refine gDo (.repl 0 (.row 164 2 (List.map aa.w (G++[(aa.mk a [84,101,120,116])])))) (bI ai rfl rfl rfl rfl rfl (apM aa.w G (aa.mk a [84,101,120,116])) (by rw[aB];exact hb)) (okR rfl) rfl rfl rfl<|gR 6 rfl ?_;subst h;exact gE O [] [(4,.sl 1)] [1000,2] [.tmp 4];exact gR 1 rfl<|qJ O (h K O) [0]
theorem pr(m:Nat)(G:List aa)(p1:Tree)(J:List aa)(h:((p1.kind=7)→∃a,av p1 0 a∧(G++[(aa.mk a [66,111,111,108])]).length≤1000000000∧(G++[(aa.mk a [66,111,111,108])])=J)∧((p1.kind≠7)→lm m G p1 J)):kY (m+1) G p1 J:=by
 intro K O;refine gR 6 rfl<|qBeZ 151 152 rfl rfl rfl rfl h ?_ ?_<;>intro h;refine gR 5 rfl ?_;obtain⟨a,b,h⟩:=h;refine qC0 b rfl<|gR 2 rfl ?_;obtain⟨hb,h⟩:=h;refine gDo (.repl 0 (.row 164 2 (List.map aa.w (G++[(aa.mk a [66,111,111,108])])))) (bI ai rfl rfl rfl rfl rfl (apM aa.w G (aa.mk a [66,111,111,108])) (by rw[aB];exact hb)) (okR rfl) rfl rfl rfl<|gR 6 rfl ?_;subst h;exact gE O [] [(4,.sl 1)] [1000,2] [.tmp 4];exact gR 1 rfl<|qJ O (h K O) [0]
theorem pm(m:Nat)(G:List aa)(p1:Tree)(J:List aa)(h:((p1.kind=13)→∃a,av p1 0 a∧(G++[(aa.mk a [116,114,117,101])]).length≤1000000000∧(G++[(aa.mk a [116,114,117,101])])=J)∧((p1.kind≠13)→lj m G p1 J)):lm (m+1) G p1 J:=by
 intro K O;refine gR 6 rfl<|qBeZ 159 160 rfl rfl rfl rfl h ?_ ?_<;>intro h;refine gR 5 rfl ?_;obtain⟨a,b,h⟩:=h;refine qC0 b rfl<|gR 2 rfl ?_;obtain⟨hb,h⟩:=h;refine gDo (.repl 0 (.row 164 2 (List.map aa.w (G++[(aa.mk a [116,114,117,101])])))) (bI ai rfl rfl rfl rfl rfl (apM aa.w G (aa.mk a [116,114,117,101])) (by rw[aB];exact hb)) (okR rfl) rfl rfl rfl<|gR 6 rfl ?_;subst h;exact gE O [] [(4,.sl 1)] [1000,2] [.tmp 4];exact gR 1 rfl<|qJ O (h K O) [0]
theorem pf(m:Nat)(G:List aa)(p1:Tree)(J:List aa)(h:((p1.kind=14)→∃a,av p1 0 a∧(G++[(aa.mk a [102,97,108,115,101])]).length≤1000000000∧(G++[(aa.mk a [102,97,108,115,101])])=J)∧((p1.kind≠14)→lq m G p1 J)):lj (m+1) G p1 J:=by
 intro K O;refine gR 6 rfl<|qBeZ 167 168 rfl rfl rfl rfl h ?_ ?_<;>intro h;refine gR 5 rfl ?_;obtain⟨a,b,h⟩:=h;refine qC0 b rfl<|gR 2 rfl ?_;obtain⟨hb,h⟩:=h;refine gDo (.repl 0 (.row 164 2 (List.map aa.w (G++[(aa.mk a [102,97,108,115,101])])))) (bI ai rfl rfl rfl rfl rfl (apM aa.w G (aa.mk a [102,97,108,115,101])) (by rw[aB];exact hb)) (okR rfl) rfl rfl rfl<|gR 6 rfl ?_;subst h;exact gE O [] [(4,.sl 1)] [1000,2] [.tmp 4];exact gR 1 rfl<|qJ O (h K O) [0]
theorem pw(m:Nat)(G:List aa)(p1:Tree)(J:List aa)(h:((p1.kind=15)→∃a,av p1 0 a∧(G++[(aa.mk a [63])]).length≤1000000000∧(G++[(aa.mk a [63])])=J)∧((p1.kind≠15)→kU m G p1 J)):lq (m+1) G p1 J:=by
 intro K O;refine gR 6 rfl<|qBeZ 175 176 rfl rfl rfl rfl h ?_ ?_<;>intro h;refine gR 5 rfl ?_;obtain⟨a,b,h⟩:=h;refine qC0 b rfl<|gR 2 rfl ?_;obtain⟨hb,h⟩:=h;refine gDo (.repl 0 (.row 164 2 (List.map aa.w (G++[(aa.mk a [63])])))) (bI ai rfl rfl rfl rfl rfl (apM aa.w G (aa.mk a [63])) (by rw[aB];exact hb)) (okR rfl) rfl rfl rfl<|gR 6 rfl ?_;subst h;exact gE O [] [(4,.sl 1)] [1000,2] [.tmp 4];exact gR 1 rfl<|qJ O (h K O) [0]
theorem pn(m:Nat)(J:List aa)(p1:Tree)(O:List aa)(h:((p1.kind=8)→pS m J p1 O)∧((p1.kind≠8)→lp m J p1 O)):kU (m+1) J p1 O:=by
 intro K G;refine gR 6 rfl<|qBeZ 183 184 rfl rfl rfl rfl h ?_ ?_<;>intro h;exact gR 1 rfl<|qJ G (h K G) [0];exact gR 1 rfl<|qJ G (h K G) [0]
theorem vq(m:Nat)(G:List aa)(p1:Tree)(J:List aa)(h:∃b,av p1 0 b∧(G++[(aa.mk b [91])]).length≤1000000000∧∃d,p1.kids[0]?=some d∧∃a,ax (G++[(aa.mk b [91])]) d a∧∃c,av p1 1 c∧(a++[(aa.mk c [93])]).length≤1000000000∧(a++[(aa.mk c [93])])=J):pS (m+1) G p1 J:=by
 intro K O;refine gR 4 rfl ?_;obtain⟨b,f,h⟩:=h;refine qC0 f rfl<|gR 2 rfl ?_;obtain⟨hb,h⟩:=h;refine gDo (.repl 0 (.row 164 2 (List.map aa.w (G++[(aa.mk b [91])])))) (bI ai rfl rfl rfl rfl rfl (apM aa.w G (aa.mk b [91])) (by rw[aB];exact hb)) (okR rfl) rfl rfl rfl<|gR 4 rfl<|qDs [] 12 12<|qDr (qR 0 3 2 []) rfl rfl ?_;obtain⟨d,e,h⟩:=h;refine gYd 3 rfl (by kernel_rfl) (aC (aq e) ai rfl rfl rfl rfl) rfl rfl<|qDr [(4,2),(6,2)] rfl rfl ?_;obtain⟨a,g,h⟩:=h;refine qDC 5 g [2] rfl ?_;refine gHR 4 (List.map aa.w a) rfl (vI _ a) rfl ?_;obtain⟨c,i,h⟩:=h;refine bz 7 i (by kernel_rfl) rfl (by kernel_rfl) rfl rfl .rfl rfl rfl ?_;refine qDr [(8,0),(9,0)] rfl rfl ?_;obtain⟨hb,h⟩:=h;refine bh 10 (.repl 4 (.row 164 2 (List.map aa.w (a++[(aa.mk c [93])])))) rfl (by kernel_rfl) (bI ai rfl rfl rfl rfl rfl (apM aa.w a (aa.mk c [93])) (by rw[aB];exact hb)) (okR rfl) rfl (by kernel_rfl) rfl rfl ?_;refine qDr [(11,0)] rfl rfl<|qDe<|gR 4 rfl ?_;subst h;exact gE O [] [(4,.sl 1)] [1000,6] [.tmp 4]
theorem oZ(m:Nat)(J:List aa)(p1:Tree)(O:List aa)(h:((p1.kind=16)→pU m J p1 O)∧((p1.kind≠16)→lg m J p1 O)):lp (m+1) J p1 O:=by
 intro K G;refine gR 6 rfl<|qBeZ 202 203 rfl rfl rfl rfl h ?_ ?_<;>intro h;exact gR 1 rfl<|qJ G (h K G) [0];exact gR 1 rfl<|qJ G (h K G) [0]
theorem vJ(m:Nat)(G:List aa)(p1:Tree)(J:List aa)(h:∃b,av p1 0 b∧∃c,av p1 1 c∧(G++[(aa.mk b p1.text),(aa.mk c [40])]).length≤1000000000∧∃a,gu (G++[(aa.mk b p1.text),(aa.mk c [40])]) p1 0 (p1.kids.length:Int) 3 a∧∃d,av p1 2 d∧(a++[(aa.mk d [41])]).length≤1000000000∧(a++[(aa.mk d [41])])=J):pU (m+1) G p1 J:=by
 intro K O;refine gR 1 rfl<|qDs [] 12 12<|qDr [(0,2),(1,2),(3,2),(4,2),(6,2)] rfl rfl ?_;obtain⟨b,e,h⟩:=h;refine bz 2 e (by kernel_rfl) rfl (by kernel_rfl) rfl rfl .rfl rfl rfl ?_;refine qDr [(5,2)] rfl rfl ?_;obtain⟨c,g,h⟩:=h;refine bz 7 g (by kernel_rfl) rfl (by kernel_rfl) rfl rfl .rfl rfl rfl ?_;refine qDr [(8,0),(9,0)] rfl rfl ?_;obtain⟨hb,h⟩:=h;refine bh 10 (.repl 0 (.row 164 2 (List.map aa.w (G++[(aa.mk b p1.text),(aa.mk c [40])])))) rfl (by kernel_rfl) (bI ai rfl rfl rfl rfl rfl (List.map_append (f:=aa.w) (l₁:=G) (l₂:=[(aa.mk b p1.text),(aa.mk c [40])])).symm (by rw[aB];exact hb)) (okR rfl) rfl (by kernel_rfl) rfl rfl ?_;refine qDr [(11,0)] rfl rfl<|qDe<|gR 2 rfl<|qDs [] 10 10<|qDr (qR 0 3 2 [(4,2)]) rfl rfl ?_;obtain⟨a,i,h⟩:=h;refine qDC 3 i [2] rfl ?_;refine gHR 4 (List.map aa.w a) rfl (vI _ a) rfl ?_;obtain⟨d,j,h⟩:=h;refine bz 5 j (by kernel_rfl) rfl (by kernel_rfl) rfl rfl .rfl rfl rfl ?_;refine qDr [(6,0),(7,0)] rfl rfl ?_;obtain⟨hb,h⟩:=h;refine bh 8 (.repl 4 (.row 164 2 (List.map aa.w (a++[(aa.mk d [41])])))) rfl (by kernel_rfl) (bI ai rfl rfl rfl rfl rfl (apM aa.w a (aa.mk d [41])) (by rw[aB];exact hb)) (okR rfl) rfl (by kernel_rfl) rfl rfl ?_;refine qDr [(9,0)] rfl rfl<|qDe<|gR 4 rfl ?_;subst h;exact gE O [] [(4,.sl 1)] [1000,6] [.tmp 4]
theorem oX(m:Nat)(G:List aa)(p1:Tree)(J:List aa)(h:((p1.kind=17)→∃b,p1.kids[0]?=some b∧∃a,ax G b a∧a=J)∧((p1.kind≠17)→lv m G p1 J)):lg (m+1) G p1 J:=by
 intro K O;refine gR 6 rfl<|qBeZ 224 225 rfl rfl rfl rfl h ?_ ?_<;>intro h;refine gR 6 rfl ?_;obtain⟨b,c,h⟩:=h;refine gY (aC (aq c) ai rfl rfl rfl rfl) rfl rfl<|gR 1 rfl ?_;obtain⟨a,d,h⟩:=h;refine qC d [0] ?_;refine gHR 2 (List.map aa.w a) rfl (vI _ a) rfl<|gR 6 rfl ?_;subst h;exact gE O [] [(4,.sl 1)] [1000,2] [.tmp 4];exact gR 1 rfl<|qJ O (h K O) [0]
theorem pg(m:Nat)(J:List aa)(p1:Tree)(O:List aa)(h:((p1.kind=18)→pR m J p1 O)∧((p1.kind≠18)→kS m J p1 O)):lv (m+1) J p1 O:=by
 intro K G;refine gR 6 rfl<|qBeZ 232 233 rfl rfl rfl rfl h ?_ ?_<;>intro h;exact gR 1 rfl<|qJ G (h K G) [0];exact gR 1 rfl<|qJ G (h K G) [0]
theorem vv(m:Nat)(G:List aa)(p1:Tree)(J:List aa)(h:∃b,av p1 0 b∧(G++[(aa.mk b [91])]).length≤1000000000∧∃a,gu (G++[(aa.mk b [91])]) p1 0 (p1.kids.length:Int) 2 a∧∃c,av p1 1 c∧(a++[(aa.mk c [93])]).length≤1000000000∧(a++[(aa.mk c [93])])=J):pR (m+1) G p1 J:=by
 intro K O;refine gR 4 rfl ?_;obtain⟨b,d,h⟩:=h;refine qC0 d rfl<|gR 2 rfl ?_;obtain⟨hb,h⟩:=h;refine gDo (.repl 0 (.row 164 2 (List.map aa.w (G++[(aa.mk b [91])])))) (bI ai rfl rfl rfl rfl rfl (apM aa.w G (aa.mk b [91])) (by rw[aB];exact hb)) (okR rfl) rfl rfl rfl<|gR 4 rfl<|qDs [] 10 10<|qDr (qR 0 3 2 [(4,2)]) rfl rfl ?_;obtain⟨a,e,h⟩:=h;refine qDC 3 e [2] rfl ?_;refine gHR 4 (List.map aa.w a) rfl (vI _ a) rfl ?_;obtain⟨c,f,h⟩:=h;refine bz 5 f (by kernel_rfl) rfl (by kernel_rfl) rfl rfl .rfl rfl rfl ?_;refine qDr [(6,0),(7,0)] rfl rfl ?_;obtain⟨hb,h⟩:=h;refine bh 8 (.repl 4 (.row 164 2 (List.map aa.w (a++[(aa.mk c [93])])))) rfl (by kernel_rfl) (bI ai rfl rfl rfl rfl rfl (apM aa.w a (aa.mk c [93])) (by rw[aB];exact hb)) (okR rfl) rfl (by kernel_rfl) rfl rfl ?_;refine qDr [(9,0)] rfl rfl<|qDe<|gR 4 rfl ?_;subst h;exact gE O [] [(4,.sl 1)] [1000,6] [.tmp 4]
theorem pc(m:Nat)(J:List aa)(p1:Tree)(O:List aa)(h:((p1.kind=19)→qh m J p1 O)∧((p1.kind≠19)→la m J p1 O)):kS (m+1) J p1 O:=by
 intro K G;refine gR 6 rfl<|qBeZ 249 250 rfl rfl rfl rfl h ?_ ?_<;>intro h;exact gR 1 rfl<|qJ G (h K G) [0];exact gR 1 rfl<|qJ G (h K G) [0]
theorem vn(m:Nat)(G:List aa)(p1:Tree)(J:List aa)(h:∃g,p1.kids[0]?=some g∧∃c,av p1 0 c∧(G++[(aa.mk c [105,102])]).length≤1000000000∧∃a,ax (G++[(aa.mk c [105,102])]) g a∧∃i,p1.kids[1]?=some i∧∃d,av p1 1 d∧(a++[(aa.mk d [116,104,101,110])]).length≤1000000000∧∃b,ax (a++[(aa.mk d [116,104,101,110])]) i b∧∃j,p1.kids[2]?=some j∧∃e,av p1 2 e∧(b++[(aa.mk e [101,108,115,101])]).length≤1000000000∧∃f,ax (b++[(aa.mk e [101,108,115,101])]) j f∧f=J):qh (m+1) G p1 J:=by
 intro K O;refine gR 1 rfl<|qDs [] 12 12<|qDr [(0,2),(1,2),(6,2),(7,2)] rfl rfl ?_;obtain⟨g,k,h⟩:=h;refine gYd 8 rfl (by kernel_rfl) (aC (aq k) ai rfl rfl rfl rfl) rfl rfl<|qDr [(9,2)] rfl rfl ?_;obtain⟨c,o,h⟩:=h;refine bz 2 o (by kernel_rfl) rfl (by kernel_rfl) rfl rfl .rfl rfl rfl ?_;refine qDr [(3,0),(4,0)] rfl rfl ?_;obtain⟨hb,h⟩:=h;refine bh 5 (.repl 0 (.row 164 2 (List.map aa.w (G++[(aa.mk c [105,102])])))) rfl (by kernel_rfl) (bI ai rfl rfl rfl rfl rfl (apM aa.w G (aa.mk c [105,102])) (by rw[aB];exact hb)) (okR rfl) rfl (by kernel_rfl) rfl rfl ?_;obtain⟨a,p,h⟩:=h;refine qDC 10 p [2] rfl ?_;refine gHR 4 (List.map aa.w a) rfl (vI _ a) rfl<|qDr [(11,0)] rfl rfl<|qDe<|gR 2 rfl<|qDs [] 12 12<|qDr [(0,2),(1,2),(6,2),(7,2)] rfl rfl ?_;obtain⟨i,l,h⟩:=h;refine gYd 8 rfl (by kernel_rfl) (aC (aq l) ai rfl rfl rfl rfl) rfl rfl<|qDr [(9,2)] rfl rfl ?_;obtain⟨d,q,h⟩:=h;refine bz 2 q (by kernel_rfl) rfl (by kernel_rfl) rfl rfl .rfl rfl rfl ?_;refine qDr [(3,0),(4,0)] rfl rfl ?_;obtain⟨hb,h⟩:=h;refine bh 5 (.repl 4 (.row 164 2 (List.map aa.w (a++[(aa.mk d [116,104,101,110])])))) rfl (by kernel_rfl) (bI ai rfl rfl rfl rfl rfl (apM aa.w a (aa.mk d [116,104,101,110])) (by rw[aB];exact hb)) (okR rfl) rfl (by kernel_rfl) rfl rfl ?_;obtain⟨b,r,h⟩:=h;refine qDC 10 r [6] rfl ?_;refine gHR 8 (List.map aa.w b) rfl (vI _ b) rfl<|qDr [(11,0)] rfl rfl<|qDe<|gR 2 rfl<|qDs [] 12 12<|qDr [(0,2),(1,2),(6,2),(7,2)] rfl rfl ?_;obtain⟨j,n,h⟩:=h;refine gYd 8 rfl (by kernel_rfl) (aC (aq n) ai rfl rfl rfl rfl) rfl rfl<|qDr [(9,2)] rfl rfl ?_;obtain⟨e,s,h⟩:=h;refine bz 2 s (by kernel_rfl) rfl (by kernel_rfl) rfl rfl .rfl rfl rfl ?_;refine qDr [(3,0),(4,0)] rfl rfl ?_;obtain⟨hb,h⟩:=h;refine bh 5 (.repl 8 (.row 164 2 (List.map aa.w (b++[(aa.mk e [101,108,115,101])])))) rfl (by kernel_rfl) (bI ai rfl rfl rfl rfl rfl (apM aa.w b (aa.mk e [101,108,115,101])) (by rw[aB];exact hb)) (okR rfl) rfl (by kernel_rfl) rfl rfl ?_;obtain⟨f,t,h⟩:=h;refine qDC 10 t [10] rfl ?_;refine gHR 12 (List.map aa.w f) rfl (vI _ f) rfl<|qDr [(11,0)] rfl rfl<|qDe<|gR 4 rfl ?_;subst h;exact gE O [] [(4,.sl 1)] [1000,12] [.tmp 4]
theorem pj(m:Nat)(J:List aa)(p1:Tree)(O:List aa)(h:((p1.kind=20)→pM m J p1 O)∧((p1.kind≠20)→kW m J p1 O)):la (m+1) J p1 O:=by
 intro K G;refine gR 6 rfl<|qBeZ 284 285 rfl rfl rfl rfl h ?_ ?_<;>intro h;exact gR 1 rfl<|qJ G (h K G) [0];exact gR 1 rfl<|qJ G (h K G) [0]
theorem vp(m:Nat)(G:List aa)(p1:Tree)(J:List aa)(h:∃b,av p1 0 b∧∃c,av p1 1 c∧∃d,av p1 2 d∧(G++[(aa.mk b [108,101,116]),(aa.mk c p1.text),(aa.mk d [61])]).length≤1000000000∧∃i,p1.kids[0]?=some i∧∃a,ax (G++[(aa.mk b [108,101,116]),(aa.mk c p1.text),(aa.mk d [61])]) i a∧∃e,av p1 3 e∧(a++[(aa.mk e [105,110])]).length≤1000000000∧∃j,p1.kids[1]?=some j∧∃g,ax (a++[(aa.mk e [105,110])]) j g∧g=J):pM (m+1) G p1 J:=by
 intro K O;refine gR 1 rfl<|qDs [] 15 15<|qDr [(0,2),(1,2),(4,2),(6,2),(7,2),(9,2)] rfl rfl ?_;obtain⟨b,n,h⟩:=h;refine bz 2 n (by kernel_rfl) rfl (by kernel_rfl) rfl rfl .rfl rfl rfl ?_;refine qDr [(3,2)] rfl rfl ?_;obtain⟨c,o,h⟩:=h;refine bz 5 o (by kernel_rfl) rfl (by kernel_rfl) rfl rfl .rfl rfl rfl ?_;refine qDr [(8,2)] rfl rfl ?_;obtain⟨d,p,h⟩:=h;refine bz 10 p (by kernel_rfl) rfl (by kernel_rfl) rfl rfl .rfl rfl rfl ?_;refine qDr [(11,0),(12,0)] rfl rfl ?_;obtain⟨hb,h⟩:=h;refine bh 13 (.repl 0 (.row 164 2 (List.map aa.w (G++[(aa.mk b [108,101,116]),(aa.mk c p1.text),(aa.mk d [61])])))) rfl (by kernel_rfl) (bI ai rfl rfl rfl rfl rfl (List.map_append (f:=aa.w) (l₁:=G) (l₂:=[(aa.mk b [108,101,116]),(aa.mk c p1.text),(aa.mk d [61])])).symm (by rw[aB];exact hb)) (okR rfl) rfl (by kernel_rfl) rfl rfl ?_;refine qDr [(14,0)] rfl rfl<|qDe<|gR 2 rfl<|qDs [] 12 12<|qDr (qR 0 3 2 []) rfl rfl ?_;obtain⟨i,k,h⟩:=h;refine gYd 3 rfl (by kernel_rfl) (aC (aq k) ai rfl rfl rfl rfl) rfl rfl<|qDr [(4,2),(6,2)] rfl rfl ?_;obtain⟨a,q,h⟩:=h;refine qDC 5 q [2] rfl ?_;refine gHR 4 (List.map aa.w a) rfl (vI _ a) rfl ?_;obtain⟨e,r,h⟩:=h;refine bz 7 r (by kernel_rfl) rfl (by kernel_rfl) rfl rfl .rfl rfl rfl ?_;refine qDr [(8,0),(9,0)] rfl rfl ?_;obtain⟨hb,h⟩:=h;refine bh 10 (.repl 4 (.row 164 2 (List.map aa.w (a++[(aa.mk e [105,110])])))) rfl (by kernel_rfl) (bI ai rfl rfl rfl rfl rfl (apM aa.w a (aa.mk e [105,110])) (by rw[aB];exact hb)) (okR rfl) rfl (by kernel_rfl) rfl rfl ?_;refine qDr [(11,0)] rfl rfl<|qDe<|gR 6 rfl ?_;obtain⟨j,l,h⟩:=h;refine gY (aC (aq l) ai rfl rfl rfl rfl) rfl rfl<|gR 1 rfl ?_;obtain⟨g,s,h⟩:=h;refine qC s [6] ?_;refine gHR 8 (List.map aa.w g) rfl (vI _ g) rfl<|gR 6 rfl ?_;subst h;exact gE O [] [(4,.sl 1)] [1000,8] [.tmp 4]
theorem po(m:Nat)(J:List aa)(p1:Tree)(O:List aa)(h:((p1.kind=21)→pO m J p1 O)∧((p1.kind≠21)→lw m J p1 O)):kW (m+1) J p1 O:=by
 intro K G;refine gR 6 rfl<|qBeZ 317 318 rfl rfl rfl rfl h ?_ ?_<;>intro h;exact gR 1 rfl<|qJ G (h K G) [0];exact gR 1 rfl<|qJ G (h K G) [0]
theorem vw(m:Nat)(G:List aa)(p1:Tree)(J:List aa)(h:∃d,p1.kids[0]?=some d∧∃a,ax G d a∧∃b,av p1 0 b∧(a++[(aa.mk b p1.text)]).length≤1000000000∧∃e,p1.kids[1]?=some e∧∃c,ax (a++[(aa.mk b p1.text)]) e c∧c=J):pO (m+1) G p1 J:=by
 intro K O;refine gR 1 rfl<|qDs [] 14 14<|qDr (qR 0 3 2 []) rfl rfl ?_;obtain⟨d,f,h⟩:=h;refine gYd 3 rfl (by kernel_rfl) (aC (aq f) ai rfl rfl rfl rfl) rfl rfl<|qDr [(4,2),(6,2),(8,2),(9,2)] rfl rfl ?_;obtain⟨a,i,h⟩:=h;refine qDC 5 i [0] rfl ?_;refine gHR 2 (List.map aa.w a) rfl (vI _ a) rfl ?_;obtain⟨b,j,h⟩:=h;refine bz 7 j (by kernel_rfl) rfl (by kernel_rfl) rfl rfl .rfl rfl rfl ?_;refine qDr [(10,0),(11,0)] rfl rfl ?_;obtain⟨hb,h⟩:=h;refine bh 12 (.repl 2 (.row 164 2 (List.map aa.w (a++[(aa.mk b p1.text)])))) rfl (by kernel_rfl) (bI ai rfl rfl rfl rfl rfl (apM aa.w a (aa.mk b p1.text)) (by rw[aB];exact hb)) (okR rfl) rfl (by kernel_rfl) rfl rfl ?_;refine qDr [(13,0)] rfl rfl<|qDe<|gR 6 rfl ?_;obtain⟨e,g,h⟩:=h;refine gY (aC (aq g) ai rfl rfl rfl rfl) rfl rfl<|gR 1 rfl ?_;obtain⟨c,k,h⟩:=h;refine qC k [4] ?_;refine gHR 6 (List.map aa.w c) rfl (vI _ c) rfl<|gR 6 rfl ?_;subst h;exact gE O [] [(4,.sl 1)] [1000,6] [.tmp 4]
theorem py(m:Nat)(G:List aa)(p1:Tree)(J:List aa)(h:((p1.kind=22)→qb m G p1 J)∧((p1.kind≠22)→∃a,av p1 0 a∧(G++[(aa.mk a p1.text)]).length≤1000000000∧(G++[(aa.mk a p1.text)])=J)):lw (m+1) G p1 J:=by
 intro K O;refine gR 6 rfl<|qBeZ 338 339 rfl rfl rfl rfl h ?_ ?_<;>intro h;exact gR 1 rfl<|qJ O (h K O) [0];refine gR 5 rfl<|qDs [] 9 9<|qDr [(0,2),(1,2),(3,2),(4,2)] rfl rfl ?_;obtain⟨a,b,h⟩:=h;refine bz 2 b (by kernel_rfl) rfl (by kernel_rfl) rfl rfl .rfl rfl rfl ?_;refine qDr [(5,0),(6,0)] rfl rfl ?_;obtain⟨hb,h⟩:=h;refine bh 7 (.repl 0 (.row 164 2 (List.map aa.w (G++[(aa.mk a p1.text)])))) rfl (by kernel_rfl) (bI ai rfl rfl rfl rfl rfl (apM aa.w G (aa.mk a p1.text)) (by rw[aB];exact hb)) (okR rfl) rfl (by kernel_rfl) rfl rfl ?_;refine qDr [(8,0)] rfl rfl<|qDe<|gR 2 rfl ?_;subst h;exact gE O [] [(4,.sl 1)] [1000,2] [.tmp 4]
theorem vr(m:Nat)(G:List aa)(p1:Tree)(J:List aa)(h:∃b,av p1 0 b∧(G++[(aa.mk b [40])]).length≤1000000000∧∃d,p1.kids[0]?=some d∧∃a,ax (G++[(aa.mk b [40])]) d a∧∃c,av p1 1 c∧(a++[(aa.mk c [41])]).length≤1000000000∧(a++[(aa.mk c [41])])=J):qb (m+1) G p1 J:=by
 intro K O;refine gR 4 rfl ?_;obtain⟨b,f,h⟩:=h;refine qC0 f rfl<|gR 2 rfl ?_;obtain⟨hb,h⟩:=h;refine gDo (.repl 0 (.row 164 2 (List.map aa.w (G++[(aa.mk b [40])])))) (bI ai rfl rfl rfl rfl rfl (apM aa.w G (aa.mk b [40])) (by rw[aB];exact hb)) (okR rfl) rfl rfl rfl<|gR 4 rfl<|qDs [] 12 12<|qDr (qR 0 3 2 []) rfl rfl ?_;obtain⟨d,e,h⟩:=h;refine gYd 3 rfl (by kernel_rfl) (aC (aq e) ai rfl rfl rfl rfl) rfl rfl<|qDr [(4,2),(6,2)] rfl rfl ?_;obtain⟨a,g,h⟩:=h;refine qDC 5 g [2] rfl ?_;refine gHR 4 (List.map aa.w a) rfl (vI _ a) rfl ?_;obtain⟨c,i,h⟩:=h;refine bz 7 i (by kernel_rfl) rfl (by kernel_rfl) rfl rfl .rfl rfl rfl ?_;refine qDr [(8,0),(9,0)] rfl rfl ?_;obtain⟨hb,h⟩:=h;refine bh 10 (.repl 4 (.row 164 2 (List.map aa.w (a++[(aa.mk c [41])])))) rfl (by kernel_rfl) (bI ai rfl rfl rfl rfl rfl (apM aa.w a (aa.mk c [41])) (by rw[aB];exact hb)) (okR rfl) rfl (by kernel_rfl) rfl rfl ?_;refine qDr [(11,0)] rfl rfl<|qDe<|gR 4 rfl ?_;subst h;exact gE O [] [(4,.sl 1)] [1000,6] [.tmp 4]
def im(m:Nat)(p1:Tree)(p2 p3 O:Int)(a:List aa)(b:Int)(U:List aa):Prop:=∀(K:Ctx) (J:Nat),aw K []→m≤J→qLG K f176 (λu G=>u=.sl 1∧G=⟨2,[(1,.row 164 2 (List.map aa.w U))]⟩) (xG (cB (aj f176))) [.loop (xG (cB (aj f176))) J,.blk 0,.seq (xA (aj f176))] 41 (mkF 41 0 [(0,.sl 0),(2,qi p2),(3,qi p3),(4,qi O),(6,.box (al p1) 0),(11,qi b)]) ⟨1,[(0,.row 164 2 (List.map aa.w a))]⟩
theorem zd(m:Nat)(p0:List aa)(p1:Tree)(p2 p3 p4:Int)(r0:List aa)(h:im m p1 p2 p3 p4 p0 p2 r0):gu p0 p1 p2 p3 p4 r0:=by
 refine qA 41 [] func176 λK hK=>?_;exact gR 3 rfl<|gFP 1 rfl rfl rfl rfl<|gR 11 rfl<|go_loop m<|qW hK h [0]
theorem jT(m:Nat)(p1:Tree)(p2 p3 G:Int)(b:List aa)(a:Int)(J:List aa)(h:((a<p3)→((p2<a)→InI (G+a)∧InI ((G+a)-p2)∧InI (((G+a)-p2)-1)∧∃c,av p1 (((G+a)-p2)-1) c∧(b++[(aa.mk c [44])]).length≤1000000000∧∃f,a=((f:Nat):Int)∧∃i,p1.kids[f]?=some i∧∃d,ax (b++[(aa.mk c [44])]) i d∧InI (a+1)∧im m p1 p2 p3 G d (a+1) J)∧((¬p2<a)→∃g,a=((g:Nat):Int)∧∃j,p1.kids[g]?=some j∧∃e,ax b j e∧InI (a+1)∧im m p1 p2 p3 G e (a+1) J))∧((¬a<p3)→b=J)):im (m+1) p1 p2 p3 G b a J:=by
 refine qj λK Z O s=>?_;refine gR 8 rfl<|qXd 15 rfl rfl rfl h ?_ ?_<;>intro U h;refine gR 13 rfl<|qXd 20 rfl rfl rfl h ?_ ?_<;>intro U h;refine gR 6 rfl ?_;obtain⟨hb,h⟩:=h;refine gR 1 rfl<|gV 25 (qi (G+a)) rfl (ao hb rfl) rfl<|gR 1 rfl ?_;obtain⟨hb,h⟩:=h;refine gR 1 rfl<|gV 27 (qi ((G+a)-p2)) rfl (ao hb rfl) rfl ?_;obtain⟨hb,h⟩:=h;refine gR 1 rfl<|gV 28 (qi (((G+a)-p2)-1)) rfl (ao hb rfl) rfl ?_;obtain⟨c,p,h⟩:=h;refine qC0 p rfl<|gR 2 rfl ?_;obtain⟨hb,h⟩:=h;refine gDo (.repl 0 (.row 164 2 (List.map aa.w (b++[(aa.mk c [44])])))) (bI ai rfl rfl rfl rfl rfl (apM aa.w b (aa.mk c [44])) (by rw[aB];exact hb)) (okR rfl) rfl rfl rfl<|gR 8 rfl ?_;obtain⟨f,n,h⟩:=h;refine gV 36 (qi ((f:Nat):Int)) rfl (aL n) rfl ?_;obtain⟨i,k,h⟩:=h;refine gY (aC (aq k) ai rfl rfl rfl rfl) rfl rfl<|gR 1 rfl ?_;obtain⟨d,q,h⟩:=h;refine qC q [2] ?_;refine gHR 4 (List.map aa.w d) rfl (vI _ d) rfl<|gR 6 rfl ?_;obtain⟨hb,h⟩:=h;exact gR 1 rfl<|gV 17 (qi (a+1)) rfl (ao hb rfl) rfl<|gR 2 rfl<|go_xloop<|qW O h [4];refine gR 8 rfl ?_;obtain⟨g,o,h⟩:=h;refine gV 36 (qi ((g:Nat):Int)) rfl (aL o) rfl ?_;obtain⟨j,l,h⟩:=h;refine gY (aC (aq l) ai rfl rfl rfl rfl) rfl rfl<|gR 1 rfl ?_;obtain⟨e,r,h⟩:=h;refine qC r [0] ?_;refine gHR 2 (List.map aa.w e) rfl (vI _ e) rfl<|gR 6 rfl ?_;obtain⟨hb,h⟩:=h;exact gR 1 rfl<|gV 17 (qi (a+1)) rfl (ao hb rfl) rfl<|gR 2 rfl<|go_xloop<|qW O h [2];refine gR 3 rfl<|go_xloopE<|gR 9 rfl ?_;subst h;exact gE O [] [(10,.sl 1)] [1000,0] [.tmp 10]
theorem sb(m:Nat)(G:Tree)(p1:Int)(J:List UInt8)(h:((p1<(G.leads.length:Int))→∃a,p1=((a:Nat):Int)∧∃b,G.leads[a]?=some b∧b=J)∧((¬p1<(G.leads.length:Int))→[]=J)):av G p1 J:=by
 refine⟨rfl,rfl,?_⟩;refine qA 15 [] func175 λK O=>?_;refine gR 3 rfl<|gFP 0 rfl rfl rfl rfl<|gR 10 rfl<|gV 8 (qi (G.leads.length:Int)) rfl (aJ (aB V.str _)) rfl<|gLB 7 rfl (aB V.str _) λe=>gR 3 rfl<|qBd 9 rfl rfl rfl h ?_ ?_<;>intro h;refine gR 6 rfl ?_;obtain⟨a,d,h⟩:=h;refine gV 12 (qi ((a:Nat):Int)) rfl (aL d) rfl ?_;obtain⟨b,c,h⟩:=h;refine gY (aC (ar (f:=V.str) c) ai rfl rfl rfl rfl) rfl rfl<|gR 6 rfl ?_;subst h;exact qN [.tmp 4];refine gR 9 rfl ?_;subst h;exact qN [.tmp 4]
def na(G:List Int)(J:Bool):Prop:=qS 4 [.row 1 (List.map (V.int .i64) G)] (.bool J)
theorem mi(m:Nat)(J:List Int)(G:Bool)(h:∃b,ox J b∧((b=false)→∃e,ny e∧e=G)∧((b=true)→∃c,mH J c∧∃d,ny d∧((d=true)→∃a,gm c a∧∃f,mt c f∧∃g,jJ a f g∧g=G)∧((d=false)→false=G))):na J G:=by
 refine⟨rfl,rfl,?_⟩;refine qA 18 [] func4 λK O=>?_;refine gR 9 rfl ?_;obtain⟨b,o,h⟩:=h;refine qC0 o rfl<|gR 3 rfl<|qBh 6 rfl rfl rfl h bF bG ?_ ?_<;>intro h;refine gR 3 rfl ?_;obtain⟨e,p,h⟩:=h;refine qC0 p rfl<|gR 5 rfl ?_;subst h;exact qN [.tmp 2];refine gR 6 rfl ?_;obtain⟨c,i,h⟩:=h;refine qC0 i rfl<|gR 5 rfl ?_;obtain⟨d,j,h⟩:=h;refine qC0 j rfl<|gR 1 rfl<|qBiZ 11 10 rfl rfl rfl rfl h ?_ ?_<;>intro h;refine gR 1 rfl ?_;obtain⟨a,k,h⟩:=h;refine qC k [] ?_;refine gHR 0 (List.map ae.w a) rfl (vH _ a) rfl<|gR 1 rfl ?_;obtain⟨f,l,h⟩:=h;refine qC0 l rfl<|gFR 0 rfl (fR _ (λ_=>rfl) _) rfl rfl ?_;obtain⟨g,n,h⟩:=h;refine qC0 n rfl<|gR 5 rfl ?_;subst h;exact qN [.tmp 2];refine gR 10 rfl ?_;subst h;exact qN [.tmp 2]
open Go.RowKit
def fI(R:List Nat)(l:List (Nat×Ob)):List (Nat×Ob):=l.filter λp=>mv p.1 R
def ung:Ob→Ob
 |.free=>.gone
 |o=>o
def gZ(nx:Nat)(R:List Nat)(l:List (Nat×Ob)):List (Nat×Ob):=(l.filter λp=>!mv p.1 R&&Nat.blt p.1 nx).map λp=>(p.1,ung p.2)
theorem yg{α:Type}{R:List Nat}:∀(l:List (Nat×Ob)) (c:List (Nat×Ob)→α),zM R l c=c (fI R l)
 |[],c=>rfl
 |(i,o)::r,c=>by
  simp only[zM];cases h:mv i R
  ·simp only;rw[yg r];simp[fI,h]
  ·simp only;rw[yg r];simp[fI,h]
theorem yr{α:Type}{nx:Nat}{R:List Nat}:∀(l:List (Nat×Ob)) (c:List (Nat×Ob)→α),xQ nx R l c=c (gZ nx R l)
 |[],c=>rfl
 |(i,o)::r,c=>by
  simp only[xQ];cases h:(!mv i R&&Nat.blt i nx)
  ·simp only;rw[yr r];simp only[gZ,List.filter_cons,h];rfl
  ·cases o<;>(simp only;rw[yr r];simp only[gZ,List.filter_cons,h];rfl)
theorem vL{R:List Nat}{i:Nat}:∀{l:List (Nat×Ob)},aE (fI R l) i=aE l i∨(mv i R=false∧aE (fI R l) i=.gone)
 |[]=>.inl rfl
 | (j, o)::r=>by
  by_cases hj:j=i
  ·subst hj;cases h:mv j R
   ·right;refine⟨rfl,?_⟩;have ih:=vL (R:=R) (i:=j) (l:=r);simp only[fI,List.filter_cons,h]at ih⊢;simp only[Bool.false_eq_true,if_false];clear ih;have key:∀(l:List (Nat×Ob)),aE (l.filter λp=>mv p.1 R) j=.gone:=by
     intro l
     induction l with
     |nil=>rfl
     | cons q t ih=>
      obtain⟨k,o'⟩:=q;simp only[List.filter_cons];split
      ·rename_i hk;have :k≠j:=λe=>by subst e;simp[h]at hk
       simp only[aE,nbF this];exact ih
      ·exact ih
    exact key r
   ·left;simp only[fI,List.filter_cons,h,if_true,aE,nbT]
  ·have ih:=vL (R:=R) (i:=i) (l:=r);simp only[fI,List.filter_cons];split
   ·simp only[aE,nbF hj];exact ih
   ·simp only[aE,nbF hj];exact ih
theorem Dw{R:List Nat}{i:Nat}(h:mv i R=false)(l:List (Nat×Ob)):aE (fI R l) i=.gone:=by
 induction l with
 |nil=>rfl
 | cons q t ih=>
  obtain⟨k,o'⟩:=q;simp only[fI,List.filter_cons];split
  ·rename_i hk;have :k≠i:=λe=>by subst e;simp[h]at hk
   simp only[aE,nbF this];exact ih
  ·exact ih
theorem Ll{nx:Nat}{R:List Nat}{i:Nat}(l:List (Nat×Ob)):aE (gZ nx R l) i=if(!mv i R&&Nat.blt i nx)=true then ung (aE l i)else .gone:=by
 induction l with
 |nil=>simp[gZ,aE,ung]
 | cons q t ih=>
  obtain⟨k,o⟩:=q;by_cases hk:k=i
  ·subst hk;cases h:(!mv k R&&Nat.blt k nx)
   ·rw[h]at ih;simp only[gZ,List.filter_cons,h,Bool.false_eq_true,if_false]at ih⊢;exact ih
   ·simp only[gZ,List.filter_cons,h,if_true,List.map_cons,aE,nbT]
  ·have e:aE ((k,o)::t) i=aE t i:=by simp only[aE,nbF hk]
   rw[e,←ih];simp only[gZ,List.filter_cons];split
   ·simp only[List.map_cons,aE,nbF hk]
   ·rfl
variable{S:Nat→Prop}
variable{k:Nat}
section
variable{P:Program}{T:Tab}{K:Ctx}{Q:Exit→Act→World→Prop}{s:List EI}{n:Nat}{F:Fm}{H:Hp}
theorem If (lo:Nat) (H:Hp) (v:V):∃v' H',(∀(α:Type) (c:V→Hp→α),IF lo H v c=c v' H')∧H'.nx=H.nx∧(∀K S w ρ x,HRel S w ρ H.get→Inv K S w ρ H.get→VRel S w ρ v x→∃S',HRel S' w ρ H'.get∧Inv K S' w ρ H'.get∧Up S S' w w ρ ρ∧VRel S' w ρ v' x):=by
 have triv:∃v' H',(∀(α:Type) (c:V→Hp→α),c v H=c v' H')∧H'.nx=H.nx∧(∀K S w ρ x,HRel S w ρ H.get→Inv K S w ρ H.get→VRel S w ρ v x→∃S',HRel S' w ρ H'.get∧Inv K S' w ρ H'.get∧Up S S' w w ρ ρ∧VRel S' w ρ v' x):=⟨v,H,λ_ _=>rfl,rfl,λK S w ρ x h1 h2 h3=>⟨S,h1,h2,Up.refl,h3⟩⟩;cases v with
 | sl id=>
  simp only[IF];split
  ·split
   ·rename_i e sz els ho;split
    ·rename_i hpu;refine⟨.row sz els,⟨H.nx,sU id H.es⟩,λα c=>by rw[zz],rfl,λK S w ρ x hr hi hx=>?_⟩;have hg:(⟨H.nx,sU id H.es⟩:Hp).get=co H.get id .gone:=by
      funext i
      unfold Hp.get;by_cases hii:i=id
      ·subst hii;rw[bO];simp only[];have hlt:Nat.blt i H.nx=true:=by
        unfold Hp.get at ho;split at ho
        ·assumption
        ·cases ho
       rw[hlt];simp only[sJ,if_true]
      ·rw[dj _ _ hii];simp only[sJ,if_neg hii]
     refine⟨_,by rw[hg];exact(gx hr).1,by rw[hg];exact hi.frz hr id,(gx hr).2,uv hr ho hpu hx⟩
    ·exact triv
   ·exact triv
  ·exact triv
 |_=>exact triv
theorem Hb(lo:Nat):∀(vs:List V) (H:Hp),∃vs' H',(∀(α:Type) (c:List V→Hp→α),JP lo H vs c=c vs' H')∧H'.nx=H.nx∧(∀K S w ρ xs,HRel S w ρ H.get→Inv K S w ρ H.get→LRel S w ρ vs xs→∃S',HRel S' w ρ H'.get∧Inv K S' w ρ H'.get∧Up S S' w w ρ ρ∧LRel S' w ρ vs' xs)
 |[],H=>⟨[],H,λ_ _=>rfl,rfl,λK S w ρ x h1 h2 O=>⟨S,h1,h2,Up.refl,O⟩⟩
 |v::r,H=>by
  obtain⟨U,H1,Z,n1,k1⟩:=If lo H v;obtain⟨r',H2,e2,n2,k2⟩:=Hb lo r H1;refine⟨U::r',H2,λα c=>by simp only[JP,Z,e2],n2.trans n1,λK S w ρ xs hr hi hx=>?_⟩;simp only[LRel]at hx;obtain⟨x,ys,rfl,h1,h2⟩:=hx;obtain⟨S1,a1,a2,G,a4⟩:=k1 K S w ρ x hr hi h1;obtain⟨S2,b1,b2,J,b4⟩:=k2 K S1 w ρ ys a1 a2 (h2.up G);exact⟨S2,b1,b2,⟨λb hb=>J.s b (G.s b hb),λ_ _ _=>rfl,λ_ _ h=>h⟩,x,ys,rfl,a4.up J,b4⟩
theorem NS(lo:Nat)(H:Hp)(v:V):∃G H',(∀(α:Type) (c:V→Hp→α),MW lo H v c=c G H')∧H'.nx=H.nx∧(∀K S w ρ x,HRel S w ρ H.get→Inv K S w ρ H.get→VRel S w ρ v x→∃S',HRel S' w ρ H'.get∧Inv K S' w ρ H'.get∧Up S S' w w ρ ρ∧VRel S' w ρ G x):=by
 have J:=If lo H v;cases v
 case agg cs=>
  obtain⟨vs',H',e,O,k⟩:=Hb lo cs H;refine⟨.agg vs',H',λα c=>by simp only[MW,e],O,λK S w ρ x hr hi hx=>?_⟩;simp only[VRel]at hx;obtain⟨xs,rfl,h1⟩:=hx;obtain⟨S',a1,U,Z,a4⟩:=k K S w ρ xs hr hi h1;exact⟨S',a1,U,Z,by simp only[VRel];exact⟨xs,rfl,a4⟩⟩
 all_goals exact J
theorem CA(lo:Nat):∀(vs:List V) (H:Hp),∃vs' H',(∀(α:Type) (c:List V→Hp→α),ES lo H vs c=c vs' H')∧H'.nx=H.nx∧(∀K S w ρ xs,HRel S w ρ H.get→Inv K S w ρ H.get→LRel S w ρ vs xs→∃S',HRel S' w ρ H'.get∧Inv K S' w ρ H'.get∧Up S S' w w ρ ρ∧LRel S' w ρ vs' xs)
 |[],H=>⟨[],H,λ_ _=>rfl,rfl,λK S w ρ x h1 h2 O=>⟨S,h1,h2,Up.refl,O⟩⟩
 |v::r,H=>by
  obtain⟨U,H1,Z,n1,k1⟩:=NS lo H v;obtain⟨r',H2,e2,n2,k2⟩:=CA lo r H1;refine⟨U::r',H2,λα c=>by simp only[ES,Z,e2],n2.trans n1,λK S w ρ xs hr hi hx=>?_⟩;simp only[LRel]at hx;obtain⟨x,ys,rfl,h1,h2⟩:=hx;obtain⟨S1,a1,a2,G,a4⟩:=k1 K S w ρ x hr hi h1;obtain⟨S2,b1,b2,J,b4⟩:=k2 K S1 w ρ ys a1 a2 (h2.up G);exact⟨S2,b1,b2,⟨λb hb=>J.s b (G.s b hb),λ_ _ _=>rfl,λ_ _ h=>h⟩,x,ys,rfl,a4.up J,b4⟩
variable{all:Array Oper}{rest:List Oper}{o:Oper}{u:V}{H':Hp}
theorem QY{ok:Bool}(U:bA F all o.guard=some true)(hx:qr P K o [] ok n F H u H')(k:Go P K Q (.ops all rest) s n (F.seto o.dst (some u)) H'):Go P K Q (.ops all (o::rest)) s n F H:=λS w ρ a hr hi G=>by
 show wpList P all (eW P Q s) (o::rest) a w;unfold wpList;rw[if_pos (cD G U)];exact .inl (hx S w ρ a hr hi G _ _ λx S' w' ρ' J O Z _ _ hv=>k S' w' ρ' _ J O (df (G.up Z) o.dst hv))
variable{L:List Nat}{m left i:Nat}{listed:Array Bool}
theorem Qg(G:Region.ready .any all listed=[i])(hi:all[i]?=some o)(hw:bA F all o.guard=some true)(hx:qr P K o L ((listed.setIfInBounds i true).getD m false) n F H u H')(k:Go P K Q (.drw all L m left (listed.setIfInBounds i true)) s n (F.seto o.dst (some u)) H'):Go P K Q (.drw all L m (left+1) listed) s n F H:=λS w ρ a hr J O hs=>by
 refine rf (S:=S) G ?_;unfold wpOp;simp only[hi];rw[if_pos (cD O hw)];exact .inl (hx S w ρ a hr J O _ _ λx S' w' ρ' U Z hu hA hL hv=>lK hu hA hL (k S' w' ρ' _ U Z (df (O.up hu) o.dst hv) hs))
def nw(P:Program)(K:Ctx)(Q:Exit→Act→World→Prop)(n:Nat):Rs→Prop
 |.ok e F H=>∀S w ρ a,HRel S w ρ H.get→Inv K S w ρ H.get→FRel S w ρ a n F→Q (match e with|true=>.ret|false=>.normal) a w
 |.pt p s F H=>Go P K Q p s n F H
 |.er _ _=>False
variable{ih:EP→List EI→Fm→Hp→Rs}
theorem Hd{w:World}{ρ:Nat→Option Value}{x:Value}:∀{rs:List V},VRel S w ρ (mD rs) x→∃ys,LRel S w ρ rs ys∧x=yS ys
 |[],G=>by simp only[mD,VRel]at G;obtain⟨ys,rfl,h1⟩:=G;exact⟨ys,h1,by simp only[LRel]at h1;subst h1;rfl⟩
 |[v],G=>⟨[x],⟨x,[],rfl,G,rfl⟩,rfl⟩
 |v::u::r,G=>by
  simp only[mD,VRel]at G;obtain⟨ys,rfl,h1⟩:=G;refine⟨ys,h1,?_⟩;simp only[LRel]at h1;obtain⟨_,_,rfl,_,_,_,rfl,_⟩:=h1;rfl
theorem Mr (hT:TabOk P T) (IH:∀p s F H K Q n,nw P K Q n (ih p s F H)→Go P K Q p s n F H) {X:Rs→Prop} (hX:∀n m,¬X (.er n m)) {keep ok:Bool} {vs:List V} {fid:FuncId} {fn:Func} {b:Code} {c:V→Hp→Rs} (hf:P.funcs[fid]?=some fn) (hb:fn.body=some b) (hl:Nat.ble vs.length fn.ntmps=true)
  (h:X (Jv T ih keep vs fn b H L ok c)):∃u H' L',(L'=L∨ok=true)∧CallR P K fid vs H L' (λu' H''=>u'=u∧H''=H')∧X (c u H'):=by
 unfold Jv at h;simp only[]at h;generalize hR:tB H 40 (xR vs []) []=R at h;split at h
 ·rename_i hok;rw[yg]at h;split at h
  ·rename_i e F1 H1 hrun;split at h
   ·rename_i rs hres;split at h
    ·rename_i hnx;have hnx':H.nx≤H1.nx:=Nat.le_of_ble_eq_true hnx;have hin:∀i,(⟨H.nx,fI R H.es⟩:Hp).get i=H.get i∨(⟨H.nx,fI R H.es⟩:Hp).get i=.gone:=λi=>by
      unfold Hp.get;simp only[];split
      ·rcases vL (R:=R) (i:=i) (l:=H.es)with e|⟨_,e⟩
       ·exact .inl e
       ·exact .inr e
      ·exact .inl rfl
     have hout:∀i,mv i R=false→Nat.blt i H.nx=true→(⟨H.nx,fI R H.es⟩:Hp).get i=.gone:=λi hi hlt=>by
      unfold Hp.get;simp only[hlt];exact Dw hi _
     have key:∀(H2:Hp) (es3:List (Nat×Ob)),H2.nx=H1.nx→(∀i,aE es3 i=aE H2.es i∨aE es3 i=.gone)→∀i,((⟨H2.nx,es3++gZ H.nx R H.es⟩:Hp).get i=H2.get i∨(⟨H2.nx,es3++gZ H.nx R H.es⟩:Hp).get i=.gone)∨((⟨H2.nx,es3++gZ H.nx R H.es⟩:Hp).get i=H.get i∧(⟨H.nx,fI R H.es⟩:Hp).get i=.gone∧H.get i≠.free):=λH2 es3 hn h3 i=>by
      by_cases hlt2:Nat.blt i H2.nx=true
      ·have e0:(⟨H2.nx,es3++gZ H.nx R H.es⟩:Hp).get i=aE (es3++gZ H.nx R H.es) i:=by unfold Hp.get;simp only[hlt2]
       have e2:H2.get i=aE H2.es i:=by unfold Hp.get;rw[hlt2]
       rw[e0,e2];rcases FV es3 (gZ H.nx R H.es) i with e|⟨e',e⟩
       ·rw[e];rcases h3 i with h3|h3
        ·exact .inl (.inl h3)
        ·exact .inl (.inr h3)
       ·rw[e];rw[Ll];cases hm:(!mv i R&&Nat.blt i H.nx)
        ·exact .inl (.inr (by simp))
        ·have hm':=hm;simp only[Bool.and_eq_true,Bool.not_eq_true']at hm';have eH:H.get i=aE H.es i:=by unfold Hp.get;rw[hm'.2]
         rw[if_pos rfl];cases hf:aE H.es i
         case free=>exact .inl (.inr rfl)
         all_goals exact .inr ⟨by rw[eH,hf];rfl,hout i hm'.1 hm'.2,by rw[eH,hf];simp⟩
      ·have e0:(⟨H2.nx,es3++gZ H.nx R H.es⟩:Hp).get i=.free:=by
        unfold Hp.get;simp only[Bool.not_eq_true]at hlt2;simp only[hlt2]
       have e2:H2.get i=.free:=by unfold Hp.get;simp only[Bool.not_eq_true]at hlt2;rw[hlt2]
       exact .inl (.inl (by rw[e0,e2]))
     have fin:∀(H2:Hp) (es3:List (Nat×Ob)) (rs2:List V),H2.nx=H1.nx→(∀i,aE es3 i=aE H2.es i∨aE es3 i=.gone)→
       (∀K S w ρ xs,HRel S w ρ H1.get→Inv K S w ρ H1.get→LRel S w ρ rs xs→∃S',HRel S' w ρ H2.get∧Inv K S' w ρ H2.get∧Up S S' w w ρ ρ∧LRel S' w ρ rs2 xs)→
       ∃L',(L'=L∨ok=true)∧CallR P K fid vs H L' (λu' H''=>u'=mD rs2∧H''=⟨H2.nx,es3++gZ H.nx R H.es⟩):=λH2 es3 rs2 hn h3 hfz=>by
      have main:∀L',(∀(S:Nat→Prop) (w:World) (ρ:Nat→Option Value),HRel S w ρ H.get→L'=[]∨(dB H.get L'=true∧∀id,id∈L'→(⟨H.nx,fI R H.es⟩:Hp).get id=.gone))→CallR P K fid vs H L' (λu' H''=>u'=mD rs2∧H''=⟨H2.nx,es3++gZ H.nx R H.es⟩):=λL' hL' S w ρ xs hr hi hx=>by
       have hr1:=hr.drop (h':=(⟨H.nx,fI R H.es⟩:Hp).get) hin;have hi1:Inv ⟨w,S,λb=>∃id,own ρ id ((⟨H.nx,fI R H.es⟩:Hp).get id) b,ρ⟩ S w ρ (⟨H.nx,fI R H.es⟩:Hp).get:=⟨ChgP.refl _ _,λ_ h=>h,λ_ h=>.inl h,λid b hb=>.inl ⟨id,hb⟩,λ_ _ h=>h⟩;refine Ay hf hb hl hr1 hi1 hx (IH _ _ _ _ _ _ _ ?_);rw[hrun];intro S' w' ρ' a' hr' hi' hF';obtain⟨rl,hrl⟩:∃l:List ResultVar,fn.results=l.toArray:=⟨fn.results.toList,by simp⟩;rw[hrl]at hres;refine ret_go hT (rs:=rl) (by cases e<;>simp) hrl hr' hF' (by simpa using hres) λx hvx=>?_;have hLR:=Hd hvx;obtain⟨ys,hys,rfl⟩:=hLR;obtain⟨S2,a1,a2,a3,a4⟩:=hfz _ S' w' ρ' ys hr' hi' hys;obtain⟨m1,m2,m3,m4⟩:=ER (h1:=(⟨H.nx,fI R H.es⟩:Hp).get) (h2:=(⟨H2.nx,es3++gZ H.nx R H.es⟩:Hp).get) hr hi hin a1 a2 (key H2 es3 hn h3);refine⟨_,S2,ρ',_,_,rfl,⟨rfl,rfl⟩,m1,m2,m3,Cy a4,?_⟩;rcases hL' S w ρ hr with rfl|⟨g1,g2⟩
       ·intro id hid;simp at hid
       ·exact m4 L' g1 g2
      rcases zH hok with hok|hok
      ·simp only[Bool.and_eq_true]at hok;refine⟨L,.inl rfl,main L λS w ρ hr=>.inr ⟨hok.1,λid hid=>?_⟩⟩;have hmem:=List.all_eq_true.1 hok.2 id hid;simp only[Bool.not_eq_true']at hmem;by_cases hlt:Nat.blt id H.nx=true
       ·exact hout id hmem hlt
       ·exfalso;have hfree:H.get id=.free:=by unfold Hp.get;simp only[Bool.not_eq_true]at hlt;rw[hlt]
        have hnl:∀(l:List Nat),id∈l→dB H.get l=true→False:=by
         intro l
         induction l with
         |nil=>intro h;simp at h
         | cons j t ih=>
          intro hm hl;simp only[dB]at hl;rcases List.mem_cons.1 hm with e|e
          ·subst e;rw[hfree]at hl;cases hl
          ·split at hl
           ·exact ih e hl
           ·exact ih e hl
           ·cases hl
        exact hnl L hid hok.1
      ·exact⟨[],.inr hok,main [] λ_ _ _ _=>.inl rfl⟩
     split at h
     ·rw[yr]at h;obtain⟨L',g1,g2⟩:=fin H1 H1.es rs rfl (λi=>.inl rfl) (λK S w ρ xs h1 h2 h3=>⟨S,h1,h2,Up.refl,h3⟩);exact⟨_,_,L',g1,g2,h⟩
     ·obtain⟨rs2,H2,e1,e2,e3⟩:=CA H.nx rs H1;rw[e1]at h;rw[yg,yr]at h;obtain⟨L',g1,g2⟩:=fin H2 (fI _ H2.es) rs2 e2 (λi=>by
       rcases vL (R:=tB H2 60 (xR rs2 R) []) (i:=i) (l:=H2.es)with e|⟨_,e⟩
       ·exact .inl e
       ·exact .inr e) e3
      exact⟨_,_,L',g1,g2,h⟩
    ·exact absurd h (hX _ _)
   ·exact absurd h (hX _ _)
  ·exact absurd h (hX _ _)
  ·exact absurd h (hX _ _)
 ·exact absurd h (hX _ _)
theorem uM (hT:TabOk P T) (IH:∀p s F H K Q n,nw P K Q n (ih p s F H)→Go P K Q p s n F H) {X:Rs→Prop} (hX:∀n m,¬X (.er n m)) {ok:Bool} {c:Option V→Hp→Rs} (h:X (xO T ih F H L ok o c)):∃u H',qr P K o L ok n F H u H'∧X (c (some u) H'):=by
 unfold xO at h;split at h
 ·rename_i v hv;exact⟨v,H,KL hT hv,h⟩
 ·rw [eU]at h;split at h
  ·rename_i v ed hv;split at h
   ·rename_i hc;rw[Hp.ap_eq]at h;refine⟨_,_,bn hT hv hc,?_⟩;cases v with
    |none=>exact h
    |some v=>exact h
   ·exact absurd h (hX _ _)
  ·split at h
   ·rename_i fid args tys hop;split at h
    ·rename_i vs hvs;split at h
     ·rename_i v hn;obtain⟨he,hnat⟩:=hT.nat _ _ _ hn;refine⟨v,H,cy (L':=L) he (by rw[hop]) hvs (λS w ρ xs hr hi hx=>?_) (.inl rfl),h⟩;obtain⟨x,h1,h2⟩:=hnat S w ρ xs hx;refine h2.mono λe w' hR=>?_;obtain⟨rfl,rfl⟩:=hR;exact⟨x,S,ρ,v,H,rfl,⟨rfl,rfl⟩,hr,hi,Up.refl,h1,sG⟩
     ·split at h
      ·rename_i fn hfn;obtain⟨hf,he⟩:=hT.fn _ _ hfn;split at h
       ·rename_i b hb;split at h
        ·rename_i hl;obtain⟨u,H',L',g1,g2,g3⟩:=Mr (K:=K) hT IH hX hf hb hl h;exact⟨u,H',cy he (by rw[hop]) hvs g2 g1,g3⟩
        ·exact absurd h (hX _ _)
       ·exact absurd h (hX _ _)
      ·exact absurd h (hX _ _)
    ·exact absurd h (hX _ _)
   ·exact absurd h (hX _ _)
theorem KJ{l:List Nat}{j:Nat}(h:EZ l j=true):l=[j]:=by
 unfold EZ at h;split at h
 ·rw[Nat.eq_of_beq_eq_true h]
 ·cases h
theorem Gj (hT:TabOk P T) (IH:∀p s F H K Q n,nw P K Q n (ih p s F H)→Go P K Q p s n F H) {i:Nat} {ps:List (Nat×Operand)} {vs:List (Nat×V)} {v:V} (hp:vY T all i vs=some (o,ps,v)):∀(left:Nat) (listed:Array Bool) (F:Fm) (H:Hp),nw P K Q n (DG T ih all L m i o ps v s left listed F H)→GoP P K Q all L m left listed s n F H i o ps vs v
 | left, listed,F,H,h=>by
  unfold DG at h;split at h
  ·rename_i hl;split at h
   ·rename_i x hrd;split at h
    ·rename_i hb;have :=Nat.eq_of_beq_eq_true hb;subst this;rw[Fm.puto_eq]at h;exact Oj hT hp hrd hl (IH _ _ _ _ _ _ _ h)
    ·exact h.elim
   ·rename_i x y hrd;cases left with
    |zero=>exact h.elim
    | succ left=>
     simp only[eU]at h;generalize hj:IOx x y i=j at h;unfold IOx at hj;split at h
     ·exact h.elim
     ·rename_i hji;have hne:j≠i:=Nat.ne_of_beq_eq_false hji;split at h
      ·rename_i oj hoj;split at h
       ·rename_i hc;simp only[Bool.and_eq_true]at hc;obtain⟨⟨⟨hc1,hc2⟩,hc3⟩,hc4⟩:=hc;split at h
        ·rename_i hw;obtain⟨u,H',hx,hk⟩:=uM (K:=K) (n:=n) hT IH (X:=nw P K Q n) (λ_ _ h=>h) h;rw[Fm.puto_eq]at hk;have ih2:=Gj hT IH hp left _ _ _ hk;have hpair:(match Region.ready .any all listed with|[x,y]=>(Nat.beq x i&&Nat.beq y j)||(Nat.beq x j&&Nat.beq y i)|_=>false)=true:=by
          rw[hrd];simp only[];cases hx1:Nat.beq x i
          ·rw[hx1]at hj;cases hy1:Nat.beq y i
           ·rw[hy1]at hj;exact absurd hj.symm hne
           ·rw[hy1]at hj;simp only at hj;subst hj;simp
          ·rw[hx1]at hj;simp only at hj;subst hj;simp
         refine LP hT hp hoj hpair (KJ hc1) hl (λt ht=>?_) hc2 hc3 (Array.setIfInBounds_comm _ _ (Ne.symm hne)) (Post:=λu' H''=>u'=u∧H''=H') (λS w ρ a hr hi hF K2 hK2=>?_) (λu' H'' hP=>by obtain⟨rfl,rfl⟩:=hP;exact ih2)
         ·rw[ht]at hc4;simp only[Option.isNone_iff_eq_none]at hc4;exact hc4
         ·unfold wpOp;simp only[hoj];rw[if_pos (cD hF hw)];refine .inl (hx S w ρ a hr hi hF _ _ λx S' w' ρ' hr' hi' hu hA hL hv=>hK2 x S' w' ρ' u H' ⟨rfl,rfl⟩ hr' hi' hu hA (hL.imp id λh=>?_) hv);simpa only[Bool.and_eq_true]using h
        ·exact h.elim
       ·exact h.elim
      ·exact h.elim
   ·exact h.elim
  ·exact h.elim
theorem Ox (hT:TabOk P T) (IH:∀p s F H K Q n,nw P K Q n (ih p s F H)→Go P K Q p s n F H) {i j:Nat} {left:Nat} {listed:Array Bool} (hrd:Region.ready .any all listed=[i,j]) (h:nw P K Q n (MK T ih all L m left i j listed s F H)):Go P K Q (.drw all L m (left+1) listed) s n F H:=by
 unfold MK at h;split at h
 ·rename_i oi hoi;split at h
  ·rename_i oj hoj;split at h
   ·rename_i hwi;split at h
    ·rename_i hwj;obtain⟨ui,Hi,xi,hk⟩:=uM (K:=K) (n:=n) hT IH (X:=nw P K Q n) (λ_ _ h=>h) h;rw[Fm.puto_eq]at hk;split at hk
     ·rename_i F1 H1 e1;obtain⟨uj,Hj,xj,hk2⟩:=uM (K:=K) (n:=n) hT IH (X:=nw P K Q n) (λ_ _ h=>h) hk;rw[Fm.puto_eq]at hk2;split at hk2
      ·rename_i F2 H2 e2;split at hk2
       ·rename_i hal;have c:Go P K Q (.ex .normal) s n F1 H1:=IH _ _ _ _ _ _ _ hk2;intro S w ρ a hr hi hF;have hpin:∀id x,K.pin id=some x→id<H.nx:=λid x hx=>Decidable.byContradiction λhn=>by
         have h1:=hi.pin id x hx;have h2:=hr.ob id;have h3:H.get id=.free:=by
          unfold Hp.get;have :Nat.blt id H.nx=false:=by
           cases hb:Nat.blt id H.nx
           ·rfl
           ·exact absurd (by simpa[Nat.blt_eq]using hb) hn
          simp only[this]
         rw[h3]at h2;have h4:ρ id=none:=h2;rw[h4]at h1;cases h1
        have g1:Go P K (eW P Q s) (.drw all L m left (listed.setIfInBounds i true)) [] n (F.seto oi.dst (some ui)) Hi:=IH _ _ _ _ _ _ _ (by rw[e1];exact λS w ρ a hr hi hF=>c S w ρ a hr hi hF);have g2:Go P K (eW P Q s) (.drw all L m left (listed.setIfInBounds j true)) [] n (F.seto oj.dst (some uj)) Hj:=IH _ _ _ _ _ _ _ (by rw[e2];exact λS w ρ a hr hi hF=>go_alike hal hpin c S w ρ a hr hi hF);exact bR (by rw[hrd];simp) hoi hoj hwi hwj xi xj g1 g2 S w ρ a hr hi hF
       ·exact hk2.elim
      ·exact hk2.elim
      ·exact hk2.elim
     ·exact hk.elim
     ·exact hk.elim
    ·exact h.elim
   ·exact h.elim
  ·exact h.elim
 ·exact h.elim
theorem vV:∀{R:List Nat} {i:Nat} {ps:List (Nat×Operand)} {v:V},wS T F all R=some (i,o,ps,v)→∃vs,pY F ps=some vs∧vY T all i vs=some (o,ps,v)
 |[],_,_,_,h=>by cases h
 | j ::r,i,ps,v,h=>by
  unfold wS at h;split at h
  ·rename_i hj;split at h
   ·rename_i vs hvs;split at h
    ·rename_i o' ps' v' hpb;simp only[Option.some.injEq,Prod.mk.injEq]at h;obtain⟨rfl,rfl,rfl,rfl⟩:=h;refine⟨vs,?_,hpb⟩;have :=hpb;unfold vY at this;rw[hj]at this;simp only at this
     repeat' (split at this)
     all_goals first
      |(cases this;done)
      |(simp only[eU,Option.some.injEq,Prod.mk.injEq]at this;obtain⟨_,rfl,_⟩:=this;exact hvs)
    ·exact vV h
   ·exact vV h
  ·exact vV h
theorem NI (hT:TabOk P T) (hm:P.follows .mixedOrders=true) (IH:∀p s F H K Q n,nw P K Q n (ih p s F H)→Go P K Q p s n F H):∀(p:EP) (s:List EI) (F:Fm) (H:Hp),nw P K Q n (Kw T ih p s F H)→Go P K Q p s n F H
 | .code c,s,F,H,h=>by
  replace h:nw P K Q n (IL T ih c s F H):=h;unfold IL at h;split at h
  ·exact Kb (IH _ _ _ _ _ _ _ h)
  ·exact Ea (IH _ _ _ _ _ _ _ h)
  ·exact GX (IH _ _ _ _ _ _ _ h)
  ·exact go_ret (IH _ _ _ _ _ _ _ h)
  ·exact Hv (IH _ _ _ _ _ _ _ h)
  ·exact Mc (IH _ _ _ _ _ _ _ h)
  ·exact Mm (IH _ _ _ _ _ _ _ h)
  ·exact go_loop 1000000 (IH _ _ _ _ _ _ _ h)
  ·split at h
   ·exact Gn ‹_› (IH _ _ _ _ _ _ _ h)
   ·exact EU ‹_› (IH _ _ _ _ _ _ _ h)
   ·exact h.elim
  ·exact CM (IH _ _ _ _ _ _ _ h)
  ·split at h
   ·rename_i hs;simp only[dG,eU]at h;exact Ik _ _ _ rfl hm hs (IH _ _ _ _ _ _ _ h)
   ·exact h.elim
  ·exact h.elim
 | .ops all rest,s,F,H,h=>by
  replace h:nw P K Q n (EC T ih all rest s F H):=h;unfold EC at h;split at h
  ·exact Lb (IH _ _ _ _ _ _ _ h)
  ·split at h
   ·rw[Fm.puto_eq]at h;exact Li ‹_› (IH _ _ _ _ _ _ _ h)
   ·obtain⟨u,H',hx,hk⟩:=uM (K:=K) (n:=n) hT IH (X:=nw P K Q n) (λ_ _ h=>h) h;rw[Fm.puto_eq]at hk;exact QY ‹_› hx (IH _ _ _ _ _ _ _ hk)
   ·exact h.elim
 | .ex e,s,F,H,h=>by
  replace h:nw P K Q n (JR ih e s F H):=h;unfold JR at h;split at h
  ·split at h
   ·exact λS w ρ a hr hi hF=>h S w ρ a hr hi hF
   ·exact λS w ρ a hr hi hF=>h S w ρ a hr hi hF
   ·exact h.elim
  ·split at h
   ·exact Ie (IH _ _ _ _ _ _ _ h)
   ·exact FX (IH _ _ _ _ _ _ _ h)
   ·exact FP (IH _ _ _ _ _ _ _ h)
   ·exact h.elim
  ·split at h
   ·split at h
    ·exact h.elim
    ·exact go_xloop (IH _ _ _ _ _ _ _ h)
   ·exact go_xloopE (IH _ _ _ _ _ _ _ h)
   ·exact go_xloopR (IH _ _ _ _ _ _ _ h)
   ·exact h.elim
  ·split at h
   ·exact LO (IH _ _ _ _ _ _ _ h)
   ·exact LS (IH _ _ _ _ _ _ _ h)
   ·exact LW (IH _ _ _ _ _ _ _ h)
   ·exact h.elim
  ·split at h
   ·exact Fs (IH _ _ _ _ _ _ _ h)
   ·split at h
    ·exact Fp ‹_› (IH _ _ _ _ _ _ _ h)
    ·exact DZ ‹_› (IH _ _ _ _ _ _ _ h)
   ·exact Gl (IH _ _ _ _ _ _ _ h)
   ·exact h.elim
 | .drw all L m left listed,s,F,H,h=>by
  replace h:nw P K Q n (Jl T ih all L m left listed s F H):=h;unfold Jl at h;split at h
  ·exact Fy ‹_› (IH _ _ _ _ _ _ _ h)
  ·rename_i i R hrd;cases left with
   |zero=>exact h.elim
   | succ left=>
    simp only[]at h;split at h
    ·split at h
     ·rename_i o ho;split at h
      ·rw[Fm.puto_eq]at h;exact go_d1S hrd ho ‹_› (IH _ _ _ _ _ _ _ h)
      ·obtain⟨u,H',hx,hk⟩:=uM (K:=K) (n:=n) hT IH (X:=nw P K Q n) (λ_ _ h=>h) h;rw[Fm.puto_eq]at hk;exact Qg hrd ho ‹_› hx (IH _ _ _ _ _ _ _ hk)
      ·exact h.elim
     ·exact h.elim
    ·split at h
     ·split at h
      ·rename_i o ho;split at h
       ·rename_i hc;simp only[Bool.and_eq_true,Bool.not_eq_true']at hc;obtain⟨⟨hc1,hc2⟩,hc3⟩:=hc;split at h
        ·rw[Fm.puto_eq]at h;exact JU hc3 ho hc2 hc1 ‹_› (IH _ _ _ _ _ _ _ h)
        ·rename_i hw;split at h
         ·rename_i v hv;rw[Fm.puto_eq]at h;exact Nh hT hc3 ho hc2 hc1 hw hv (IH _ _ _ _ _ _ _ h)
         ·split at h
          ·rename_i id hid;split at h
           ·rename_i hL;simp only[Bool.and_eq_true,Bool.not_eq_true']at hL;obtain⟨⟨hL1,hL2⟩,hL3⟩:=hL;split at h
            ·rename_i v ed hv;rw[Fm.puto_eq]at h;exact IA hT hc3 hL2 hL3 ho hc2 hc1 hw hid hL1 hv (IH _ _ _ _ _ _ _ h)
            ·exact h.elim
           ·exact h.elim
          ·exact h.elim
        ·exact h.elim
       ·exact h.elim
      ·exact h.elim
     ·split at h
      ·rename_i i' o ps v hpo;rw[Fm.puto_eq]at h;obtain⟨vs,g1,g2⟩:=vV hpo;exact Lt g1 (Gj hT IH g2 left listed _ _ h)
      ·split at h
       ·exact Ox hT IH hrd h
       ·exact h.elim
theorem KT(G:TabOk P T)(J:P.follows .mixedOrders=true):∀(k:Nat) (p:EP) (s:List EI) (F:Fm) (H:Hp) (K:Ctx) (Q:Exit→Act→World→Prop) (n:Nat),nw P K Q n (run T k p s F H)→Go P K Q p s n F H
 |0,p,s,F,H,K,Q,n,h=>h
 |k+1,p,s,F,H,K,Q,n,h=>NI G J (λp s F H K Q n h=>KT G J k p s F H K Q n h) p s F H h
def FB (T:Tab) (k:Nat) (fid:FuncId) (vs:List V) (H:Hp):Option (List V×Hp):=match T.fn fid with
 |some fn=>match fn.body with
  |some b=>match Nat.ble vs.length fn.ntmps with
   |true=>match run T k (.code b) [] (pE fn.ntmps vs) H with
    |.ok _ F1 H1=>match uU T H1.get F1 fn.results.toList with
     |some rs=>some (rs,H1)
     |none=>none
    |_=>none
   |false=>none
  |none=>none
 |none=>none
theorem Ha(Z:TabOk P T)(hm:P.follows .mixedOrders=true){fid:FuncId}{vs rs:List V}{H H1:Hp}(h:FB T k fid vs H=some (rs,H1)){w:World}{ρ:Nat→Option Value}{xs:List Value}(hr:HRel S w ρ H.get)(hx:LRel S w ρ vs xs):dg P fid=true∧
  Calls P fid xs.toArray w λe w'=>∃S' ρ' ys,e=.returned (yS ys)∧HRel S' w' ρ' H1.get∧Inv ⟨w,S,λb=>∃id,own ρ id (H.get id) b,ρ⟩ S' w' ρ' H1.get∧LRel S' w' ρ' rs ys:=by
 unfold FB at h;split at h
 ·rename_i fn hfn;obtain⟨hf,he⟩:=Z.fn _ _ hfn;split at h
  ·rename_i b hb;split at h
   ·rename_i hl;split at h
    ·rename_i e F1 H1' J;split at h
     ·rename_i rs' G;simp only[Option.some.injEq,Prod.mk.injEq]at h;obtain⟨rfl,rfl⟩:=h;refine⟨he,?_⟩;have hi1:Inv ⟨w,S,λb=>∃id,own ρ id (H.get id) b,ρ⟩ S w ρ H.get:=⟨ChgP.refl _ _,λ_ h=>h,λ_ h=>.inl h,λid b hb=>.inl ⟨id,hb⟩,λ_ _ h=>h⟩;refine Ay hf hb hl hr hi1 hx (KT Z hm k _ _ _ _ _ _ _ ?_);rw[J];intro S' w' ρ' a' O hi' hF';obtain⟨rl,U⟩:∃l:List ResultVar,fn.results=l.toArray:=⟨fn.results.toList,by simp⟩;rw[U]at G;refine ret_go Z (rs:=rl) (by cases e<;>simp) U O hF' (by simpa using G) λx hvx=>?_;have hLR:=Hd hvx;obtain⟨ys,hys,rfl⟩:=hLR;exact⟨S',ρ',ys,rfl,O,hi',hys⟩
     ·cases h
    ·cases h
   ·cases h
  ·cases h
 ·cases h
end
def DN:List (List UInt8)→List V→Bool
 |[],[]=>true
 |s::r,.str l::q=>lEq s l&&DN r q
 |_,_=>false
def Ep(ls:List (List UInt8)):V→Bool
 |.nils=>ls.isEmpty
 |.row sz els=>Nat.beq sz 1&&DN ls els
 |_=>false
mutual
def treeB:Tree→V→Bool
 |.node k s ls ks,v=>match v with
  |.agg [.int .i64 k',.str s',l,r]=>iEq k k'&&lEq s s'&&Ep ls l&&(match r with
   |.nils=>ks.isEmpty
   |.row sz els=>Nat.beq sz 4&&kidsB ks els
   |_=>false)
  |_=>false
def kidsB:List Tree→List V→Bool
 |[],vs=>match vs with
  |[]=>true
  |_=>false
 |t::r,vs=>match vs with
  |v::q=>treeB t v&&kidsB r q
  |[]=>false
end
section
variable{S:Nat→Prop}{w:World}
theorem Eu{ρ:Nat→Option Value}:∀{ls:List (List UInt8)} {els:List V} {xs:List Value},DN ls els=true→CRel S w ρ 1 els xs→els.length=ls.length∧xs=ls.map tI
 |[],[],xs,_,G=>by simp only[CRel]at G;subst G;exact⟨rfl,rfl⟩
 |s::r,v::q,xs,hb,G=>by
  cases v<;>simp only[DN]at hb<;>first|(cases hb;done)|skip
  rename_i l;simp only[Bool.and_eq_true]at hb;have J:=hb.1;rw[xm]at J;simp only[beq_iff_eq]at J;subst J;simp only[CRel]at G;obtain⟨x,ys,rfl,_,O,U⟩:=G;simp only[VRel]at O;subst O;obtain⟨Z,h6⟩:=Eu hb.2 U;exact⟨by simp[Z],by simp[h6,Value.cells]⟩
 |[],_::_,_,hb,_=>by cases hb
 |_::_,[],_,hb,_=>by cases hb
theorem Lw{ρ:Nat→Option Value}{ls:List (List UInt8)}{v:V}{x:Value}(hb:Ep ls v=true)(hx:VRel S w ρ v x):∃A m,x=.slice A ls.length m∧ls.length≤m∧m≤maxLen∧RowIn S w 1 A ls.length (ls.map tI):=by
 cases v<;>simp only[Ep]at hb<;>first|(cases hb;done)|skip
 ·simp only[List.isEmpty_iff]at hb;subst hb;simp only[VRel]at hx;subst hx;exact⟨none,0,rfl,Nat.le_refl _,by decide,RowIn.none_⟩
 ·rename_i sz els;simp only[Bool.and_eq_true,Nat.beq_eq]at hb;obtain⟨rfl,hb⟩:=hb;simp only[VRel]at hx;obtain⟨A,c,xs,rfl,G,O,U,J⟩:=hx;obtain⟨Z,rfl⟩:=Eu hb U;rw[Z]at G J⊢;exact⟨A,c,rfl,G,O,J⟩
mutual
theorem treeB_ok{ρ:Nat→Option Value}:∀{t:Tree} {v:V} {x:Value},treeB t v=true→VRel S w ρ v x→∃c,x=.agg c.toArray∧TreeIs S w t c
 | .node k s ls ks,v,x,hb,hx=>by
  unfold treeB at hb;split at hb
  ·rename_i k' s' l r;simp only[Bool.and_eq_true]at hb;obtain⟨⟨⟨hb1,hb2⟩,hb3⟩,hb4⟩:=hb;rw[yN]at hb1;rw[xm]at hb2;simp only[beq_iff_eq]at hb1 hb2;subst hb1 hb2;simp only[VRel]at hx;obtain⟨xs,rfl,hl⟩:=hx;simp only[LRel]at hl;obtain⟨x0,_,rfl,h0,x1,_,rfl,h1,x2,_,rfl,h2,x3,_,rfl,h3,rfl⟩:=hl;simp only[VRel]at h0 h1;subst h0 h1;obtain⟨A,m,rfl,g1,g2,g3⟩:=Lw hb3 h2;have kk:∃B n,x3=.slice B ks.length n∧ks.length≤n∧n≤maxLen∧∃cs,KidsAre S w ks cs∧RowIn S w 4 B ks.length cs:=by
    split at hb4
    ·simp only[List.isEmpty_iff]at hb4;subst hb4;simp only[VRel]at h3;subst h3;exact⟨none,0,rfl,Nat.le_refl _,by decide,[],by simp only[KidsAre],RowIn.none_⟩
    ·rename_i sz els;simp only[Bool.and_eq_true,Nat.beq_eq]at hb4;obtain⟨rfl,hb4⟩:=hb4;simp only[VRel]at h3;obtain⟨B,c,ys,rfl,q3,q4,q5,q6⟩:=h3;obtain⟨q7,q8⟩:=kidsB_ok hb4 q5;rw[q7]at q3 q6⊢;exact⟨B,c,rfl,q3,q4,ys,q8,q6⟩
    ·cases hb4
   obtain⟨B,n,rfl,k1,k2,cs,k3,k4⟩:=kk;exact⟨_,rfl,OL g1 g2 k1 k2 g3 k3 k4⟩
  ·cases hb
theorem kidsB_ok{ρ:Nat→Option Value}:∀{ts:List Tree} {vs:List V} {xs:List Value},kidsB ts vs=true→CRel S w ρ 4 vs xs→vs.length=ts.length∧KidsAre S w ts xs
 |[],vs,xs,hb,hc=>by
  unfold kidsB at hb;split at hb
  ·simp only[CRel]at hc;subst hc;exact⟨rfl,by simp only[KidsAre]⟩
  ·cases hb
 | t::r,vs,xs,hb,hc=>by
  unfold kidsB at hb;split at hb
  ·rename_i v q;simp only[Bool.and_eq_true]at hb;simp only[CRel]at hc;obtain⟨x,ys,rfl,_,h3,h4⟩:=hc;obtain⟨c,rfl,hT⟩:=treeB_ok hb.1 h3;obtain⟨h5,h6⟩:=kidsB_ok hb.2 h4;exact⟨by simp[h5],by simp only[KidsAre];exact⟨c,ys,by simp[Value.cells],hT,h6⟩⟩
  ·cases hb
end
end
def EB(T:Tab)(k:Nat)(fid:FuncId)(vs:List V):Option (List V):=match FB T k fid vs ⟨0,[]⟩with
 |some (rs,H1)=>ES 0 H1 rs λrs' _=>some rs'
 |none=>none
theorem zr(i:Nat):(⟨0,[]⟩:Hp).get i=.free:=by
 unfold Hp.get;have :Nat.blt i 0=false:=by cases i<;>rfl
 simp only[this]
theorem Nn{w:World}(G:SOk S w):HRel S w (λ_=>none) (⟨0,[]⟩:Hp).get:=
 ⟨λi=>by rw[zr];rfl,λi b hb=>by rw[zr]at hb;exact hb.elim,λi j b hb _=>by rw[zr]at hb;exact hb.elim,G⟩
theorem OG{P:Program}{T:Tab}(Z:TabOk P T)(hm:P.follows .mixedOrders=true){fid:FuncId}{vs rs:List V}(h:EB T k fid vs=some rs){w:World}{xs:List Value}(hg:SOk S w)(hx:LRel S w (λ_=>none) vs xs):
  Calls P fid xs.toArray w λe w'=>∃S' ρ' ys,e=.returned (yS ys)∧SOk S' w'∧(∀b,S b→S' b)∧(∀b,S' b→S b∨w.heap.size≤b)∧Chg [] w w'∧LRel S' w' ρ' rs ys:=by
 unfold EB at h;split at h
 ·rename_i O H1 G;obtain⟨rs2,H2,e1,_,e3⟩:=CA 0 O H1;rw[e1]at h;injection h with h;subst h
  refine(Ha Z hm G (Nn hg) hx).2.mono λe w' hR=>?_;obtain⟨S',ρ',ys,rfl,hr,hi,hl⟩:=hR;obtain⟨S2,a1,U,a3,a4⟩:=e3 _ S' w' ρ' ys hr hi hl;have J:∀b,¬∃id,own (λ_=>none) id ((⟨0,[]⟩:Hp).get id) b:=λb ⟨id,hb⟩=>by rw[zr]at hb;exact hb
  refine⟨S2,ρ',ys,rfl,a1.slt,U.s0,λb hb=>?_,⟨hi.chg.os,hi.chg.tape,hi.chg.output,hi.chg.size,λb hb _=>hi.chg.block b hb (J b)⟩,a4⟩;rcases U.s1 b hb with h|h|h
  ·exact .inl h
  ·exact absurd h (J b)
  ·exact .inr h
 ·cases h
def JT(fid:FuncId)(vs:List V):Option V:=match Nat.beq fid 120 with
 |true=>match vs with
  |[.str s,.int .u8 (.ofNat c)]=>Jx (Lib.indexByte s c.toUInt8) λn=>some (.int .i64 n)
  |_=>none
 |false=>none
noncomputable def Jf:Tab:=⟨true,oV tyL,oV fnL,JT,λf=>Nat.beq f 47⟩
theorem Hs:TabOk prog Jf:=by
 refine⟨EX,PU,λi vs v hv=>?_⟩;replace hv:JT i vs=some v:=hv;unfold JT at hv;split at hv
 ·rename_i hb;have :=Nat.eq_of_beq_eq_true hb;subst this;split at hv
  ·rename_i s c;rw[Im]at hv;injection hv with hv;subst hv
   refine⟨by kernel_rfl,λS w ρ xs hx=>?_⟩;simp only[LRel]at hx;obtain⟨J,_,rfl,G,O,_,rfl,h1,rfl⟩:=hx;simp only[VRel]at G h1;subst G h1;exact⟨_,by simp only[VRel];rfl,JG _ _ _⟩
  ·cases hv
 ·cases hv
def zG(t:Tree):Option (List V)→Bool
 |some [v,.int .i64 a,.int .i64 e]=>treeB t v&&iEq a 0&&iEq e 0
 |_=>false
variable{l:List UInt8}{t:Tree}
theorem Lg(h:zG t (EB Jf k 20 [.str l])=true){w:World}(hg:SOk S w):Calls prog 20 [tI l].toArray w λe w'=>∃S' G J O U,e=.returned (.tuple #[.agg #[G,J,O,U],.int .i64 0,.int .i64 0])∧SOk S' w'∧(∀b,S b→S' b)∧(∀b,S' b→S b∨w.heap.size≤b)∧TreeIs S' w' t [G,J,O,U]∧Chg [] w w':=by
 unfold zG at h;split at h
 ·rename_i v a e hr;simp only[Bool.and_eq_true,yN,beq_iff_eq]at h;obtain⟨⟨h1,rfl⟩,rfl⟩:=h;refine(OG Hs (by kernel_rfl) hr hg (xs:=[tI l]) ⟨_,[],rfl,by simp only[VRel],rfl⟩).mono λe w' hR=>?_;obtain⟨S',ρ',ys,rfl,g0,g1,g2,g4,g3⟩:=hR;simp only[LRel]at g3;obtain⟨x0,_,rfl,h0,x1,_,rfl,h2,x2,_,rfl,h3,rfl⟩:=g3;simp only[VRel]at h2 h3;subst h2 h3;obtain⟨c,rfl,Z⟩:=treeB_ok h1 h0;have h4:=Z.four
  match c,h4,Z with
  |[G,J,O,U],_,Z=>exact⟨S',G,J,O,U,rfl,g0,g1,g2,Z,g4⟩
 ·cases h
section
variable{S:Nat→Prop}{w:World}{ρ:Nat→Option Value}
theorem Ei:∀ls:List (List UInt8),CRel S w ρ 1 (ls.map .str) (ls.map tI)
 |[]=>by simp[CRel]
 |s::r=>by
  simp only[List.map_cons,CRel];exact⟨tI s,r.map tI,by simp[Value.cells,tI],⟨rfl,rfl⟩,by unfold VRel;rfl,Ei r⟩
theorem FQ:∀ls:List Int,CRel S w ρ 1 (ls.map (V.int .i64)) (ls.map λz=>.int .i64 z)
 |[]=>by simp[CRel]
 |s::r=>by
  simp only[List.map_cons,CRel];exact⟨.int .i64 s,_,by simp[Value.cells],⟨rfl,rfl⟩,by unfold VRel;rfl,FQ r⟩
mutual
theorem TreeIs.vrel:∀{ρ:Nat→Option Value} {t:Tree} {c:List Value},TreeIs S w t c→LRel S w ρ (al t) c
 |ρ,.node k s ls ks,c,h=>by
  simp only[TreeIs]at h;obtain⟨A,m,B,n,rfl,h1,h2,h3,h4,h5,cs,h6,h7⟩:=h;simp only[al,Tree.kind,Tree.text,Tree.leads,Tree.kids,LRel,VRel];exact⟨_,_,rfl,rfl,_,_,rfl,rfl,_,_,rfl,⟨A,m,_,by simp,by simpa using h1,h2,Ei ls,by simpa using h5⟩,_,_,rfl,⟨B,n,cs,by simp[tj],by simpa[tj]using h3,h4,KidsAre.crel h6,by simpa[tj]using h7⟩,rfl⟩
theorem KidsAre.crel:∀{ρ:Nat→Option Value} {ts:List Tree} {cs:List Value},KidsAre S w ts cs→CRel S w ρ 4 (kidsV ts) cs
 |ρ,[],cs,h=>by simp only[KidsAre]at h;simp only[kidsV,CRel];exact h
 |ρ,t::r,cs,h=>by
  simp only[KidsAre]at h;obtain⟨c,d,rfl,h1,h2⟩:=h;simp only[kidsV,CRel,oh];exact⟨.agg c.toArray,d,by simp[Value.cells],⟨by simp[Value.cells,h1.four],by simpa[Value.cells]using h1.one⟩,by simp only[VRel];exact⟨c,rfl,h1.vrel⟩,KidsAre.crel h2⟩
end
end
theorem OV(h:zG t (EB Jf k 20 [.str l])=true):sF prog 20 [.str l] (.tup [.agg (al t),.int .i64 0,.int .i64 0]):=by
 refine⟨rfl,rfl,λS w ρ xs hr hx=>?_⟩;simp only[LRel,VRel]at hx;obtain⟨x,ys,rfl,rfl,rfl⟩:=hx;refine(Lg h hr.slt).mono ?_;rintro e w' ⟨S',G,J,O,U,rfl,g0,g1,g2,hT,Z⟩;have g:=hr.chg0 Z;refine⟨_,S',ρ,_,⟨0,[]⟩,rfl,rfl,⟨λi=>?_,λi b hb=>?_,λi j b hb _=>?_,g0⟩,⟨ChgP.of0 Z,g1,λb hb=>(g2 b hb).elim .inl λh=>.inr (.inr h),λid b hb=>.inl ⟨id,hb⟩,λid x h=>?_⟩,?_⟩
 ·have :=g.ob i;rw[zr]at this⊢;exact this
 ·rw[zr]at hb;exact hb.elim
 ·rw[zr]at hb;exact hb.elim
 ·simp only[wi]at h;split at h
  ·exact h
  ·cases h
 ·have hk:=TreeIs.vrel (ρ:=ρ) hT;simp only[VRel];exact⟨[.agg #[G,J,O,U],.int .i64 0,.int .i64 0],rfl,.agg #[G,J,O,U],_,rfl,by simp only[VRel];exact⟨_,rfl,hk⟩,_,_,rfl,by simp only[VRel],_,_,rfl,by simp only[VRel],rfl⟩
def og(f:V→Option V):List V→Option (List V)
 |[]=>some []
 |v::r=>match f v with
  |some u=>match og f r with
   |some l=>some (u::l)
   |none=>none
  |none=>none
def um (h:Nat→Ob):Nat→V→Option V
 |0,_=>none
 |n +1,v=>match v with
  |.sl id=>match h id with
   |.row _ sz els=>match og (um h n) els with
    |some l=>some (.row sz l)
    |none=>none
   |_=>none
  |.agg cs=>match og (um h n) cs with
   |some l=>some (.agg l)
   |none=>none
  |v=>match v.pure with
   |true=>some v
   |false=>none
section
variable{S:Nat→Prop}{w:World}{ρ:Nat→Option Value}{h:Nat→Ob}
abbrev xv(S:Nat→Prop)(ρ:Nat→Option Value)(h:Nat→Ob):Nat→Prop:=λb=>S b∨∃id,own ρ id (h id) b
theorem Kq:Up S (xv S ρ h) w w ρ0 ρ0:=⟨λ_ h=>.inl h,λ_ _ _=>rfl,λ_ _ h=>h⟩
theorem Et{f:V→Option V}:∀{l u:List V},og f l=some u→u.length=l.length
 |[],u,e=>by simp only[og,Option.some.injEq]at e;subst e;rfl
 | v::r,u,e=>by
  simp only[og]at e;split at e
  ·split at e
   ·rename_i l hl;injection e with e;subst e
    simp[Et hl]
   ·cases e
  ·cases e
theorem CD(hr:HRel S w ρ h):∀(n:Nat) {v u:V} {x:Value},um h n v=some u→VRel S w ρ v x→VRel (xv S ρ h) w ρ0 u x
 |0,v,u,x,e,_=>by cases e
 | n +1,v,u,x,e,hx=>by
  have ihL:∀{l us:List V} {xs:List Value},og (um h n) l=some us→LRel S w ρ l xs→LRel (xv S ρ h) w ρ0 us xs:=λ{l}=>by
   induction l with
   |nil=>intro us xs e hx;simp only[og,Option.some.injEq]at e;subst e;simpa only[LRel]using hx
   | cons v r ih=>
    intro us xs e hx;simp only[og]at e;split at e
    ·rename_i u hu;split at e
     ·rename_i l hl;injection e with e;subst e
      simp only[LRel]at hx⊢;obtain⟨y,ys,rfl,h1,h2⟩:=hx;exact⟨y,ys,rfl,CD hr n hu h1,ih hl h2⟩
     ·cases e
    ·cases e
  have ihC:∀{sz:Nat} {l us:List V} {xs:List Value},og (um h n) l=some us→CRel S w ρ sz l xs→CRel (xv S ρ h) w ρ0 sz us xs:=λ{sz l}=>by
   induction l with
   |nil=>intro us xs e hx;simp only[og,Option.some.injEq]at e;subst e;simpa only[CRel]using hx
   | cons v r ih=>
    intro us xs e hx;simp only[og]at e;split at e
    ·rename_i u hu;split at e
     ·rename_i l hl;injection e with e;subst e
      simp only[CRel]at hx⊢;obtain⟨y,ys,rfl,h0,h1,h2⟩:=hx;exact⟨y,ys,rfl,h0,CD hr n hu h1,ih hl h2⟩
     ·cases e
    ·cases e
  have pur:∀v:V,v.pure=true→VRel S w ρ v x→VRel (xv S ρ h) w ρ0 v x:=λv hp hx=>VRel.up Kq (hx.pure (ρ':=ρ0) hp);simp only[um]at e;split at e
  ·rename_i id;split at e
   ·rename_i et sz els ho;split at e
    ·rename_i l hl;injection e with e;subst e
     simp only[VRel]at hx;obtain⟨v,xs,h1,h2,h3⟩:=kQ hr ho;rw[hx.1]at h1;cases h1;obtain⟨A,c,rfl,hc,hcm⟩:=gv h2;have hlen:=Et hl;simp only[VRel];refine⟨A,c,xs,by rw[hlen],by rw[hlen];exact hc,hcm,ihC hl h3,by rw[hlen];exact h3.length,λhn=>?_⟩;rw[hlen]at hn⊢;obtain⟨g,cap,hv,_,hlt⟩:=h2.form hn;injection hv with e1 e2 e3
     subst e1 e3;exact⟨g,0,rfl,.inr ⟨id,by rw[ho];exact⟨_,hx.1,rfl⟩⟩,hlt,λj hj=>by rw[Nat.zero_add];exact ve h2 hj⟩
    ·cases e
   ·cases e
  ·split at e
   ·rename_i l hl;injection e with e;subst e
    simp only[VRel]at hx⊢;obtain⟨xs,rfl,h1⟩:=hx;exact⟨xs,rfl,ihL hl h1⟩
   ·cases e
  ·split at e
   ·rename_i hp;injection e with e;subst e
    exact pur _ hp hx
   ·cases e
theorem Gd(hr:HRel S w ρ h){n:Nat}:∀{l us:List V} {xs:List Value},og (um h n) l=some us→LRel S w ρ l xs→LRel (xv S ρ h) w ρ0 us xs
 |[],us,xs,e,hx=>by simp only[og,Option.some.injEq]at e;subst e;simpa only[LRel]using hx
 | v::r,us,xs,e,hx=>by
  simp only[og]at e;split at e
  ·rename_i u hu;split at e
   ·rename_i l hl;injection e with e;subst e
    simp only[LRel]at hx⊢;obtain⟨y,ys,rfl,h1,h2⟩:=hx;exact⟨y,ys,rfl,CD hr n hu h1,Gd hr hl h2⟩
   ·cases e
  ·cases e
end
theorem Kd{P:Program}{T:Tab}(Z:TabOk P T)(hm:P.follows .mixedOrders=true){n:Nat}{fid:FuncId}{vs rs J us:List V}{H1:Hp}(hp:pureL vs=true)(hq:(mD us).pure=true)(h:FB T k fid vs ⟨0,[]⟩=some (rs,H1))(hd:og (um H1.get n) rs=some J)(hc:∀{S w ys},LRel S w ρ0 J ys→LRel S w ρ0 us ys):sF P fid vs (mD us):=⟨hp,hq,λS w ρ xs hr hx=>by
 refine(Ha Z hm h hr hx).2.mono λe w' hR=>?_;obtain⟨S',ρ',ys,rfl,G,hi,hl⟩:=hR;have O:∀b,¬∃id,own ρ id ((⟨0,[]⟩:Hp).get id) b:=λb ⟨id,hb⟩=>by rw[oO]at hb;exact hb
 have hk:∀b,xv S' ρ' H1.get b→S b∨w.heap.size≤b:=λb hb=>by
  rcases hb with hb|⟨id,hb⟩
  ·rcases hi.s1 b hb with h|h|h
   ·exact .inl h
   ·exact absurd h (O b)
   ·exact .inr h
  ·rcases hi.ow id b hb with h|h
   ·exact absurd h (O b)
   ·exact .inr h
 have U:Up S' (xv S' ρ' H1.get) w' w' ρ0 ρ0:=Kq;refine⟨_,xv S' ρ' H1.get,ρ,mD us,⟨0,[]⟩,rfl,rfl,⟨λi=>?_,λi b hb=>?_,λi j b hb _=>?_,G.slt.up U λb hb=>?_⟩,⟨hi.chg,λb hb=>.inl (hi.s0 b hb),λb hb=>(hk b hb).elim .inl λh=>.inr (.inr h),λid b hb=>?_,λid x h=>?_⟩,(Cy (hc (Gd G hd hl))).up up0⟩
 ·have :=hr.ob i;rw[oO]at this⊢;exact this
 ·rw[oO]at hb;exact hb.elim
 ·rw[oO]at hb;exact hb.elim
 ·rcases hb with hb|⟨id,hb⟩
  ·exact G.slt b hb
  ·exact gU (G.ob id) hb
 ·rw[oO]at hb;exact hb.elim
 ·simp only[wi]at h;split at h
  ·exact h
  ·cases h⟩
theorem Jp(t:Tree)(q:List Int):pureL [.agg (al t),.row 1 (q.map (V.int .i64))]=true:=rfl
theorem GB(u:Tree):(mD [.agg (al u),.bool true]).pure=true:=rfl
noncomputable def fnA:List (Nat×Func):=[(23,f23),(50,f50),(51,f51),(89,f89),(90,f90)]
theorem Rl:∀i f,oV fnA i=some f→prog.funcs[i]?=some f∧dg prog i=true:=Gm ⟨⟨func23,by kernel_rfl⟩,⟨func50,by kernel_rfl⟩,⟨func51,by kernel_rfl⟩,⟨func89,by kernel_rfl⟩,⟨func90,by kernel_rfl⟩,trivial⟩
noncomputable def Qh:Tab:=⟨true,oV tyL,oV fnA,JT,λ_=>true⟩
theorem OQ:TabOk prog Qh:=⟨EX,Rl,Hs.nat⟩
noncomputable def II (k:Nat) (t:Tree) (q:List Int) (u:Tree):Bool:=match FB Qh k 23 [.agg (al t),.row 1 (q.map (V.int .i64))] ⟨0,[]⟩with
 |some (rs,H1)=>match og (um H1.get 30) rs with
  |some [v,.bool b]=>treeB u v&&b
  |_=>false
 |none=>false
theorem NN{u:Tree}{q:List Int}(h:II k t q u=true):yW t q u true:=by
 unfold II at h;split at h
 ·rename_i rs H1 h1;split at h
  ·rename_i v b h2;simp only[Bool.and_eq_true]at h;obtain⟨J,rfl⟩:=h;refine Kd (us:=[.agg (al u),.bool true]) OQ (by kernel_rfl) (Jp t q) (GB u) h1 h2 λ{S w ys} G=>?_;simp only[LRel]at G⊢;obtain⟨x,_,rfl,hv,y,_,rfl,hb,rfl⟩:=G;obtain⟨c,rfl,O⟩:=treeB_ok J hv;exact⟨_,_,rfl,by simp only[VRel];exact⟨_,rfl,O.vrel⟩,_,_,rfl,hb,rfl⟩
  ·cases h
 ·cases h
theorem Nv{c:CKr}{n:Nat}(G:c.result_lists=(n:Int))(hb:n≤1000000000):∀(k:Nat) (z:Int) (ks:List Tree) (i:Nat),i+k=n→rj (k+1) c z ks i (cb k (.node z [] [] ks)) 0
 |0,z,ks,i,h=>yv 0 _ _ _ _ _ _ (⟨λh'=>absurd h' (by rw[G];omega),λ_=>⟨rfl,rfl⟩⟩)
 |k+1,z,ks,i,h=>by
  have :=Nv G hb k 8 [.node z [] [] ks] (i+1) (by omega);rw[AP]at this;exact yv (k+1) _ _ _ _ _ _ (⟨λ_=>⟨by omega,this⟩,λh'=>absurd (by rw[G];omega) h'⟩)
def ofN(s:Sv):Tree×Int:=if s.rs=0 then(.node 0 [] [] [],20)else(cb s.rl.toNat (.node s.rs [] [] []),0)
theorem So{p:List Tree}(G:bi p=true)(hb:kbulk p≤10000000){m:Nat}{q:List Int}{u:Tree}(U:p[m]?=some t)(J:yW t q u true)(hu:ia u.kind=true):∃nm,pH p nm∧∀n:Nat,(qv p nm (m:Int) q).rl=(n:Int)→n≤1000000000→wv p ⟨(m:Int),q⟩ (ofN (qv p nm (m:Int) q)).1 (ofN (qv p nm (m:Int) q)).2:=by
 obtain⟨nm,h1,h2⟩:=zp G hb;obtain⟨_,z,h3⟩:=Jw G hb nm (m:Int) q;have hk:10≤u.kind∧u.kind≤22∧u.kind≠17:=by simpa[ia]using hu
 have hlt:m<p.length:=(List.getElem?_eq_some_iff.1 U).1;refine⟨nm,h1,λn Z O=>?_⟩;refine FK (n+2) _ _ _ _ (⟨_,Bo p (by omega),λh=>(by rw[G]at h;cases h),λ_=>⟨λh=>absurd h (by simp),λ_=>⟨λh=>absurd h (by simp only;omega),λ_=>⟨m,rfl,t,U,u,true,J,?_⟩⟩⟩⟩);refine Dy (n+1) _ _ _ _ _ _ (⟨λh=>(by cases h),λ_=>⟨λh=>absurd h (by omega),λ_=>⟨λh=>absurd h (by omega),λ_=>⟨λh=>absurd h hk.2.2,λ_=>⟨_,h2,_,h3,λh=>?_,λh=>?_⟩⟩⟩⟩⟩)
 ·have h':(qv p nm (m:Int) q).rs=0:=h;unfold ofN;rw[if_pos h'];exact⟨rfl,rfl⟩
 ·have h':¬(qv p nm (m:Int) q).rs=0:=h;unfold ofN;rw[if_neg h',Z];exact Nv Z O n _ [] 0 (by omega)
def Qz:List UInt8:=[109,111,100,117,108,101,32,77,32,100,101,102,32,102,40,41,58,32,73,110,116,32,61,32,49,32,43,32,34,97,34,32,100,101,102,32,103,40,120,58,32,66,111,111,108,41,58,32,73,110,116,32,61,32,105,102,32,120,32,116,104,101,110,32,49,32,101,108,115,101,32,103,40,41]
def sq:Tree:=(QH Qz).1
end Go.Proofs.YtomplbgchbfjpaaGreatDoor
