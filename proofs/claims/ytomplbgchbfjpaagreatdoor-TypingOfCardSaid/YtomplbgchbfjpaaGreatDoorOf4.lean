/- Contracts of the functions that the law reaches, part 4. -/
import Derived.Test.YtomplbgchbfjpaaGreatDoorOf3
set_option linter.unusedVariables false
set_option linter.unusedSimpArgs false
namespace Go.Proofs.YtomplbgchbfjpaaGreatDoor
open _root_.Go.Proofs.Tryz
open Go.RowKit Lx Sx
set_option maxRecDepth 100000
set_option maxHeartbeats 4000000
structure ae where
 Known:Bool
 T:Tree
abbrev ae.c(x:ae):List V:=[.bool x.Known,.int .i64 x.T.kind,.str x.T.text,.row 1 (x.T.leads.map .str),.row 4 (kidsV x.T.kids)]
structure CHr where
 P:(List Tree)
 Module:Int
 L:(List ai)
 Want:(List Int)
 Got_Known:Bool
 Got_T_Kind:Int
 Got_T_Text:(List UInt8)
 Got_T_Leads:(List (List UInt8))
 Got_T_Kids:(List Tree)
abbrev CHr.L_o(x:CHr):Ob:=.row 47 3 (List.map ai.w x.L)
abbrev CHr.o(x:CHr)(i0:Nat):Ob:=.var 66 [.row 4 (kidsV x.P),.int .i64 x.Module,.sl i0,.row 1 (List.map (V.int .i64) x.Want),.bool x.Got_Known,.int .i64 x.Got_T_Kind,.str x.Got_T_Text,.row 1 (List.map V.str x.Got_T_Leads),.row 4 (kidsV x.Got_T_Kids)]
structure al where
 Name:(List UInt8)
 T:ae
abbrev al.c(x:al):List V:=[.str x.Name,.bool x.T.Known,.int .i64 x.T.T.kind,.str x.T.T.text,.row 1 (x.T.T.leads.map .str),.row 4 (kidsV x.T.T.kids)]
abbrev al.w(x:al):V:=.agg x.c
abbrev vF(a0:V)(a1:Int)(a2:YB)(a3:List YB)(a4:YT):Ob:=.var 64 [a0,.int .i64 a1,.str a2,.row 1 (List.map V.str a3),.row 4 (kidsV a4)]
abbrev vA(a0:V)(a1:Int)(a2:YB):Ob:=.var 64 [a0,.int .i64 a1,.str a2,.nils,.nils]
def br(G:Int)(J:ae):Prop:=qS 143 [qi G]<|.agg<|ae.c J
def bE(G p1:ae)(J:Bool):Prop:=qS 38 [.agg<|ae.c G,.agg<|ae.c p1]<|.bool J
def da(G:ae)(p1:Int)(J:Bool):Prop:=qS 172 [.agg<|ae.c G,qi p1]<|.bool J
def cq(G:YI)(p1:Int)(J:YI):Prop:=qS 65 [.row 1<|List.map (V.int .i64) G,qi p1]<|.row 1<|List.map (V.int .i64) J
def jQ(G:YT)(p1:cv)(J:Tree)(O:Int):Prop:=qS 11 [.row 4<|kidsV G,.agg<|cv.c p1]<|.tup [.agg<|ak J,qi O]
def aO(G:CHr)(p1:YI)(p2:Int)(q0:CHr):Prop:=bv [] prog 37 [.ptr 0 0,.row 1<|List.map (V.int .i64) p1,qi p2] ⟨2,[(1,CHr.L_o G),(0,CHr.o G 1)]⟩<|z8 (.tup []) ⟨2,[(1,CHr.L_o q0),(0,CHr.o q0 1)]⟩
def bA(G:CHr)(p1:Int)(p2:Tree)(J:ae)(q0:CHr):Prop:=bv [] prog 39 [.ptr 0 0,qi p1,.agg<|ak p2] ⟨2,[(1,CHr.L_o G),(0,CHr.o G 1)]⟩<|z8 (.agg<|ae.c J) ⟨3,[(1,CHr.L_o q0),(0,CHr.o q0 1)]⟩
def ep(G:CHr)(p1:Tree)(p2:YI)(p3:List al)(J:ae)(q0:CHr):Prop:=bv [] prog 61 [.ptr 0 0,.agg<|ak p1,.row 1<|List.map (V.int .i64) p2,.row 6<|List.map al.w p3] ⟨2,[(1,CHr.L_o G),(0,CHr.o G 1)]⟩<|z8 (.agg<|ae.c J) ⟨3,[(1,CHr.L_o q0),(0,CHr.o q0 1)]⟩
def aX(G:CHr)(p1:Tree)(p2:YI)(p3:Int)(J:List al)(O:ae)(q0:CHr):Prop:=bv [] prog 146 [.ptr 0 0,.agg<|ak p1,.row 1<|List.map (V.int .i64) p2,qi p3,.row 6<|List.map al.w J] ⟨2,[(1,CHr.L_o G),(0,CHr.o G 1)]⟩<|z8 (.agg<|ae.c O) ⟨3,[(1,CHr.L_o q0),(0,CHr.o q0 1)]⟩
def aS(G:CHr)(p1:Tree)(p2:YI)(p3:List al)(J:ae)(q0:CHr):Prop:=bv [] prog 103 [.ptr 0 0,.agg<|ak p1,.row 1<|List.map (V.int .i64) p2,.row 6<|List.map al.w p3] ⟨2,[(1,CHr.L_o G),(0,CHr.o G 1)]⟩<|z8 (.agg<|ae.c J) ⟨3,[(1,CHr.L_o q0),(0,CHr.o q0 1)]⟩
def jU(G:CHr)(p1:Tree)(p2:YI)(p3:List al)(J:ae)(q0:CHr):Prop:=bv [] prog 144 [.ptr 0 0,.agg<|ak p1,.row 1<|List.map (V.int .i64) p2,.row 6<|List.map al.w p3] ⟨2,[(1,CHr.L_o G),(0,CHr.o G 1)]⟩<|z8 (.agg<|ae.c J) ⟨3,[(1,CHr.L_o q0),(0,CHr.o q0 1)]⟩
def oQ(G:CHr)(p1:Tree)(p2:YI)(p3:List al)(J:ae)(q0:CHr):Prop:=bv [] prog 145 [.ptr 0 0,.agg<|ak p1,.row 1<|List.map (V.int .i64) p2,.row 6<|List.map al.w p3] ⟨2,[(1,CHr.L_o G),(0,CHr.o G 1)]⟩<|z8 (.agg<|ae.c J) ⟨3,[(1,CHr.L_o q0),(0,CHr.o q0 1)]⟩
def pw(G:CHr)(p1:Tree)(p2:YI)(p3:List al)(J:ae)(q0:CHr):Prop:=bv [] prog 147 [.ptr 0 0,.agg<|ak p1,.row 1<|List.map (V.int .i64) p2,.row 6<|List.map al.w p3] ⟨2,[(1,CHr.L_o G),(0,CHr.o G 1)]⟩<|z8 (.agg<|ae.c J) ⟨3,[(1,CHr.L_o q0),(0,CHr.o q0 1)]⟩
def eG(G:CHr)(p1:YI)(q0:CHr):Prop:=bv [] prog 35 [.ptr 0 0,.row 1<|List.map (V.int .i64) p1] ⟨2,[(1,CHr.L_o G),(0,CHr.o G 1)]⟩<|z8 (.tup []) ⟨2,[(1,CHr.L_o q0),(0,CHr.o q0 1)]⟩
def eJ(G:CHr)(p1:Int)(J:ae)(q0:CHr):Prop:=bv [] prog 29 [.ptr 0 0,qi p1] ⟨2,[(1,CHr.L_o G),(0,CHr.o G 1)]⟩<|z8 (.agg<|ae.c J) ⟨3,[(1,CHr.L_o q0),(0,CHr.o q0 1)]⟩
theorem za(m:Nat)(G:Int)(J:ae)(h:(ae.mk true<|Tree.node G [] [] [])=J):br G J:=by
 refine⟨I,I,?_⟩;refine qA 6 [] func143 λK O=>?_;refine gR 14 I ?_;subst h;exact go_sub (F':=(mkF 6 0 [(2,.ptr 0 0)])) (H':=⟨1,[(0,vF (.bool<|(ae.mk true<|Tree.node G [] [] []).Known) (((ae.mk true<|Tree.node G [] [] []).T).kind) (((ae.mk true<|Tree.node G [] [] []).T).text) (((ae.mk true<|Tree.node G [] [] []).T).leads)<|((ae.mk true<|Tree.node G [] [] []).T).kids)]⟩) [0] [] I O pq1 ⟨⟨_,I,I,(.cons .rfl<|.cons .rfl<|.cons .rfl<|.cons (.nil 1)<|.cons (.nil 4) .nil)⟩,trivial⟩ I<|qN [.cell 2 64]
theorem xY(m:Nat)(G p1:ae)(J:Bool)(h:((G.Known=true)->((p1.Known=true)->∃a,dw G.T p1.T a∧(!a)=J)∧((p1.Known=false)->false=J))∧((G.Known=false)->false=J)):bE G p1 J:=by
 refine⟨I,I,?_⟩;refine qA 19 [] func38 λK O=>?_;refine gR 3 rfl<|gFP 0 rfl rfl rfl rfl<|gR 1 rfl<|gFP 1 rfl rfl rfl rfl<|gR 8 rfl<|qBiZ 7 6 rfl rfl rfl rfl h ?_ ?_<;>intro h;refine gR 4 rfl<|qBiZ 11 10 rfl rfl rfl rfl h ?_ ?_<;>intro h;refine gR 4 I ?_;obtain⟨a,b,h⟩:=h;refine qC0 b I<|gR 6 I ?_;subst h;exact qN [.tmp 4];refine gR 11 I ?_;subst h;exact qN [.tmp 4];refine gR 15 I ?_;subst h;exact qN [.tmp 4]
theorem Bj(m:Nat)(G:ae)(p1:Int)(J:Bool)(h:((G.Known=true)->(G.T.kind==p1)=J)∧((G.Known=false)->false=J)):da G p1 J:=by
 refine⟨I,I,?_⟩;refine qA 14 [] func172 λK O=>?_;refine gR 3 rfl<|gFP 0 rfl rfl rfl rfl<|gR 8 rfl<|qBiZ 7 6 rfl rfl rfl rfl h ?_ ?_<;>intro h;refine gR 10 I ?_;subst h;exact qN [.tmp 4];refine gR 10 I ?_;subst h;exact qN [.tmp 4]
theorem Bn(m:Nat)(G:YI)(p1:Int)(J:YI)(h:G.length<=1000000000∧(G++[p1]).length<=1000000000∧(G++[p1])=J):cq G p1 J:=by
 refine⟨I,I,?_⟩;refine qA 11 [] func65 λK O=>?_;refine gR 9 I ?_;obtain⟨hb,h⟩:=h;refine gDo (.repl 0<|.row 3 1<|List.map (V.int .i64) G) (bx ah I I I I I (aam _) (by rw[aB];exact hb)) (okR I) I I I<|gR 2 I ?_;obtain⟨hb,h⟩:=h;refine gDo (.repl 1<|.row 3 1<|List.map (V.int .i64)<|G++[p1]) (bx ah I I I I I (apM (V.int .i64) G p1) (by rw[aB];exact hb)) (okR I) I I I<|gR 4 I<|gFR 3 I (fi _ (λ_=>I) _) I I ?_;subst h;exact qN [.tmp 4]
def uM(m:Nat)(G:YT)(p1:cv)(a:Tree)(b:Bool)(J:Tree)(O:Int):Prop:=y6 [] f11 (q9<|.tup [.agg<|ak J,qi O]) [.seq<|xF<|aj f11] 91 [(0,.row 4<|kidsV G),(3,.box (cv.c p1) 0),(4,.ptr 0 0),(6,.ptr 1 0),(7,.bool b)] ⟨2,[(1,.var 29<|ak a),(0,vE 0 [])]⟩
theorem jb(m:Nat)(G:YT)(p1:cv)(O:Tree)(U:Int)(h:∃a,lW G a∧((a=false)->(Tree.node 0 [] [] [])=O∧5=U)∧((a=true)->((p1.Module<0)->(Tree.node 0 [] [] [])=O∧5=U)∧((¬p1.Module<0)->(((G.length:Int)<=p1.Module)->(Tree.node 0 [] [] [])=O∧5=U)∧((¬(G.length:Int)<=p1.Module)->∃b,p1.Module=((b:Nat):Int)∧∃c,G[b]?=some c∧∃d e,jM c p1.Path d e∧uM m G p1 d e O U)))):jQ G p1 O U:=by
 refine⟨I,I,?_⟩;refine qA 91 [] func11 λK J=>?_;refine gR 3 I<|gFP 0 I I I I<|gR 8 I ?_;obtain⟨a,l,h⟩:=h;refine qC0 l rfl<|gR 2 rfl<|qBhZ 12 11 rfl rfl rfl rfl h bD bC ?_ ?_<;>intro h;refine gR 23 I ?_;obtain⟨rfl,rfl⟩:=h;exact go_sub (F':=(mkF 91 0 [(4,.ptr 0 0),(5,qi 5)])) (H':=⟨1,[(0,vB ((Tree.node 0 [] [] []).kind) ((Tree.node 0 [] [] []).text) ((Tree.node 0 [] [] []).leads)<|(Tree.node 0 [] [] []).kids)]⟩) [1] [] I J pq2 ⟨⟨_,I,I,(.cons .rfl<|.cons .rfl<|.cons (.nil 1)<|.cons (.nil 4) .nil)⟩,trivial⟩ I<|qN [.cell 4 29,.tmp 5];refine gR 5 rfl<|qBdZ 17 16 rfl rfl rfl rfl h ?_ ?_<;>intro h;refine gR 18 I ?_;obtain⟨rfl,rfl⟩:=h;exact go_sub (F':=(mkF 91 0 [(4,.ptr 0 0),(5,qi 5)])) (H':=⟨1,[(0,vB ((Tree.node 0 [] [] []).kind) ((Tree.node 0 [] [] []).text) ((Tree.node 0 [] [] []).leads)<|(Tree.node 0 [] [] []).kids)]⟩) [1] [] I J pq2 ⟨⟨_,I,I,(.cons .rfl<|.cons .rfl<|.cons (.nil 1)<|.cons (.nil 4) .nil)⟩,trivial⟩ I<|qN [.cell 4 29,.tmp 5];refine gR 4 rfl<|gV 21 (qi (G.length:Int)) rfl (aN<|aD _) rfl<|gLB 20 rfl (aD _) λn=>gR 4 rfl<|qBd 23 rfl rfl rfl h ?_ ?_<;>intro h;refine gR 10 I ?_;obtain⟨rfl,rfl⟩:=h;exact go_sub (F':=(mkF 91 0 [(4,.ptr 0 0),(5,qi 5)])) (H':=⟨1,[(0,vB ((Tree.node 0 [] [] []).kind) ((Tree.node 0 [] [] []).text) ((Tree.node 0 [] [] []).leads)<|(Tree.node 0 [] [] []).kids)]⟩) [1] [] I J pq2 ⟨⟨_,I,I,(.cons .rfl<|.cons .rfl<|.cons (.nil 1)<|.cons (.nil 4) .nil)⟩,trivial⟩ I<|qN [.cell 4 29,.tmp 5];refine gR 4 I<|qDs [] 12 14<|qDr (qR 0 3 2 []) I I ?_;obtain⟨b,k,h⟩:=h;refine gV 28 (qi ((b:Nat):Int)) I (aT k) I ?_;obtain⟨c,f,h⟩:=h;refine gYd 3 I (by kernel_rfl) (aF (aq f) ah I I I I) I I<|qDr (qR 4 3 2 []) I I ?_;obtain⟨d,e,g,h⟩:=h;apply bK (i:=7) (j:=11) (by kernel_rfl) rfl rfl rfl rfl;exact(cz (L':=[]) (by kernel_rfl) I I (tH g .rfl [] I)<|.inl I);exact(bm ah I I);exact qDr (qR 8 3 2 [(11,0),(12,1),(13,1)]) I I<|qDe<|qJ J (h K J) [1,2];refine bG 7 g (by kernel_rfl) I (by kernel_rfl) I I .rfl I I ?_;exact qDr [(8,0),(9,2),(10,2),(12,1),(13,1)] I I<|qDe<|qJ J (h K J) [1,2]
theorem tU(m:Nat)(U:YT)(p1:cv)(g:Tree)(i:Bool)(G:Tree)(J:Int)(h:y9 i ((Tree.node 0 [] [] [])=G∧5=J)<|∃b,eL g.kind b∧y9 b ((Tree.node 0 [] [] [])=G∧5=J) (y7 ((p1.Path.length:Int)<2) ((Tree.node 0 [] [] [])=G∧5=J) (∃c,p1.Module=((c:Nat):Int)∧∃j,U[c]?=some j∧∃k,p1.Path[0]?=some k∧∃d,k=((d:Nat):Int)∧∃e,j.kids[d]?=some e∧q3a e.kind 2 ((Tree.node 0 [] [] [])=G∧5=J) (∃l,p1.Path[0]?=some l∧∃s a,eJ (CHr.mk U p1.Module ([]:List ai) p1.Path false 0 [] [] []) l s a∧y9 a.Got_Known ((Tree.node 0 [] [] [])=G∧20=J) ((Tree.node a.Got_T_Kind a.Got_T_Text a.Got_T_Leads a.Got_T_Kids)=G∧0=J))))):uM (m+1) U p1 g i G J:=by
 intro K O;refine gR 7 rfl<|qBhZ 38 37 rfl rfl rfl rfl h bD bC ?_ ?_<;>intro h;refine gR 17 I ?_;obtain⟨rfl,rfl⟩:=h;exact go_sub (F':=(mkF 91 0 [(4,.ptr 0 0),(5,qi 5)])) (H':=⟨1,[(0,vB ((Tree.node 0 [] [] []).kind) ((Tree.node 0 [] [] []).text) ((Tree.node 0 [] [] []).leads) ((Tree.node 0 [] [] []).kids))]⟩) [0] [] I O pq2 ⟨⟨_,I,I,(.cons .rfl (.cons .rfl (.cons (.nil 1) (.cons (.nil 4) .nil))))⟩,trivial⟩ I<|qN [.cell 4 29,.tmp 5];refine gR 2 I ?_;obtain⟨b,x,h⟩:=h;refine qC0 x rfl<|gR 4 rfl<|qBh 43 rfl rfl rfl h bD bC ?_ ?_<;>intro h;refine gR 10 I ?_;obtain⟨rfl,rfl⟩:=h;exact go_sub (F':=(mkF 91 0 [(4,.ptr 0 0),(5,qi 5)])) (H':=⟨1,[(0,vB ((Tree.node 0 [] [] []).kind) ((Tree.node 0 [] [] []).text) ((Tree.node 0 [] [] []).leads) ((Tree.node 0 [] [] []).kids))]⟩) [0] [] I O pq2 ⟨⟨_,I,I,(.cons .rfl (.cons .rfl (.cons (.nil 1) (.cons (.nil 4) .nil))))⟩,trivial⟩ I<|qN [.cell 4 29,.tmp 5];refine gR 5 rfl<|qDs [] 20 20<|qDr (qR 0 3 0 []) rfl rfl<|gV 47 (qi (p1.Path.length:Int)) rfl (aN (aB (V.int .i64) _)) rfl<|gLB 46 rfl (aB (V.int .i64) _) λz=>qDr [(3,0),(4,0)] rfl rfl<|qBdZ 49 48 rfl rfl rfl rfl h ?_ ?_<;>intro h;refine qDr (qR 5 6 2<|qR 11 9 0 []) I I<|qDe<|gR 11 I ?_;obtain⟨rfl,rfl⟩:=h;exact go_sub (F':=(mkF 91 0 [(4,.ptr 0 0),(5,qi 5)])) (H':=⟨1,[(0,vB ((Tree.node 0 [] [] []).kind) ((Tree.node 0 [] [] []).text) ((Tree.node 0 [] [] []).leads)<|(Tree.node 0 [] [] []).kids)]⟩) [0] [] I O pq2 ⟨⟨_,I,I,(.cons .rfl<|.cons .rfl<|.cons (.nil 1)<|.cons (.nil 4) .nil)⟩,trivial⟩ I<|qN [.cell 4 29,.tmp 5];refine qDr (qR 5 3 2 []) I I ?_;obtain⟨c,t,h⟩:=h;refine gV 52 (qi ((c:Nat):Int)) I (aT t) I ?_;obtain⟨j,n,h⟩:=h;refine gYd 8 I (by kernel_rfl) (aF (aq n) ah I I I I) I I<|qDr [(9,2),(10,2),(11,0),(12,0)] I I ?_;obtain⟨k,p,h⟩:=h;refine bQ 13 I (by kernel_rfl) (aF (ax (f:=(V.int .i64)) p) ah I I I I) I I ?_;refine qDr [(14,0)] I I ?_;obtain⟨d,v,h⟩:=h;refine gV 59 (qi ((d:Nat):Int)) I (aT v) I ?_;obtain⟨e,q,h⟩:=h;refine bQ 15 I (by kernel_rfl) (aF (aq q) ah I I I I) I I ?_;refine qDr (qR 16 4 0 []) rfl rfl<|qDe<|gR 1 rfl<|qBh 64 rfl rfl rfl h dY cO ?_ ?_<;>intro h;refine gR 10 I ?_;obtain⟨rfl,rfl⟩:=h;exact go_sub (F':=(mkF 91 0 [(4,.ptr 0 0),(5,qi 5)])) (H':=⟨1,[(0,vB ((Tree.node 0 [] [] []).kind) ((Tree.node 0 [] [] []).text) ((Tree.node 0 [] [] []).leads)<|(Tree.node 0 [] [] []).kids)]⟩) [0] [] I O pq2 ⟨⟨_,I,I,(.cons .rfl<|.cons .rfl<|.cons (.nil 1)<|.cons (.nil 4) .nil)⟩,trivial⟩ I<|qN [.cell 4 29,.tmp 5];refine gR 20 I ?_;obtain⟨l,r,h⟩:=h;refine gY (aF (ax (f:=(V.int .i64)) r) ah I I I I) I I<|gR 1 I<|gNC 2 2 47 3 I I I I ?_;obtain⟨s,a,y,h⟩:=h;refine gCZ y [2,3] ⟨⟨_,I,⟨I,I,I⟩⟩,⟨⟨_,I,⟨I,(.cons .rfl<|.cons .rfl<|.cons .rfl<|.cons .rfl<|.cons .rfl<|.cons .rfl<|.cons .rfl<|.cons (.nil 1)<|.cons (.nil 4) .nil)⟩⟩,trivial⟩⟩ ?_;refine qHX ⟨7,[(5,CHr.L_o a),(2,CHr.o a 5),(1,.var 29<|ak g),(0,vE 0 [])]⟩<|gR 2 rfl<|go_sub (F':=(mkF 91 0 [(4,.ptr 0 0),(8,.ptr 1 0)])) (H':=⟨3,[(2,CHr.L_o a),(1,CHr.o a 2),(0,vE 0 [])]⟩) [0,2,5] [] rfl O pq2 ⟨⟨_,rfl,rfl,rfl,(vH _ a.L).symm⟩,(pqo2 rfl rfl rfl rfl)⟩ rfl<|gR 11 rfl<|qBh 84 rfl rfl rfl h bD bC ?_ ?_<;>intro h;refine gR 10 I ?_;obtain⟨rfl,rfl⟩:=h;exact go_sub (F':=(mkF 91 0 [(4,.ptr 0 0),(5,qi 20)])) (H':=⟨1,[(0,vB ((Tree.node 0 [] [] []).kind) ((Tree.node 0 [] [] []).text) ((Tree.node 0 [] [] []).leads)<|(Tree.node 0 [] [] []).kids)]⟩) [0] [] I O pq2 ⟨⟨_,I,I,(.cons .rfl<|.cons .rfl<|.cons (.nil 1)<|.cons (.nil 4) .nil)⟩,trivial⟩ I<|qN [.cell 4 29,.tmp 5];refine gR 15 I ?_;obtain⟨rfl,rfl⟩:=h;exact go_sub (F':=(mkF 91 0 [(4,.ptr 0 0),(5,qi 0)])) (H':=⟨1,[(0,vB ((Tree.node a.Got_T_Kind a.Got_T_Text a.Got_T_Leads a.Got_T_Kids).kind) ((Tree.node a.Got_T_Kind a.Got_T_Text a.Got_T_Leads a.Got_T_Kids).text) ((Tree.node a.Got_T_Kind a.Got_T_Text a.Got_T_Leads a.Got_T_Kids).leads)<|(Tree.node a.Got_T_Kind a.Got_T_Text a.Got_T_Leads a.Got_T_Kids).kids)]⟩) [0] [] I O pq2 (pqo1 I I) I<|qN [.cell 4 29,.tmp 5]
theorem vJ(m:Nat)(G:CHr)(p1:YI)(p2:Int)(q0:CHr)(h:p1.length<=1000000000∧(G.L++[(ai.mk (cv.mk G.Module p1) p2)]).length<=1000000000∧{G with L:=(G.L++[(ai.mk (cv.mk G.Module p1) p2)])}=q0):aO G p1 p2 q0:=by
 refine qA 25 [0] func37 λK J=>?_;refine qDs [0] 19 20<|qDr (qR 0 4 2<|(4,3)::(qR 5 3 2 [(8,3),(10,2),(13,2),(9,0)])) I I ?_;obtain⟨hb,h⟩:=h;refine bj 11 (.repl 2<|.row 3 1<|List.map (V.int .i64) p1) I (by kernel_rfl) (bx ah I I I I I (aam _) (by rw[aB];exact hb)) (okR I) I (by kernel_rfl) I I ?_;refine qDr [(12,0),(14,0)] I I<|gFR 3 I (fi _ (λ_=>I) _) I I<|qDr [(15,0)] I I ?_;obtain⟨hb,h⟩:=h;refine bj 16 (.repl 1<|.row 47 3<|List.map ai.w<|G.L++[(ai.mk (cv.mk G.Module p1) p2)]) I (by kernel_rfl) (bx ah I I I I I (apM ai.w G.L<|ai.mk (cv.mk G.Module p1) p2) (by rw[aB];exact hb)) (okR I) I (by kernel_rfl) I I ?_;refine qDr [(17,0),(18,0),(19,1)] I I<|qDe ?_;subst h;exact gE J [] [] [0,5] []
def mx(m:Nat)(G:CHr)(a:Tree)(b:Int)(J:ae)(q0:CHr):Prop:=y6 [0] f39 (z8 (.agg<|ae.c J) ⟨3,[(1,CHr.L_o q0),(0,CHr.o q0 1)]⟩) [.seq<|xA<|aj f39] 23 [(6,.ptr 1 0),(7,.ptr 2 0),(8,qi b)] ⟨4,[(3,CHr.L_o G),(2,.var 29<|ak a),(1,vA (.bool false) 0 []),(0,CHr.o G 3)]⟩
theorem ti(m:Nat)(J:CHr)(p1:Int)(p2:Tree)(O:ae)(q0:CHr)(h:∃a b,sR J.P p1 p2 a b∧mx m J a b O q0):bA J p1 p2 O q0:=by
 refine qA 23 [0] func39 λK G=>?_;refine gR 3 I<|gFP 2 I I I I<|gR 4 I<|qDs [0] 11 13<|qDr (qR 0 3 2 [(3,3),(4,2),(5,2)]) I I ?_;obtain⟨a,b,c,h⟩:=h;apply bK (i:=6) (j:=10) (by kernel_rfl) rfl rfl rfl rfl;exact(cz (L':=[0]) (by kernel_rfl) I I (tH c .rfl [0] I)<|.inl I);exact(bm ah I I);exact qDr (qR 7 3 2 [(10,0),(11,1),(12,1)]) I I<|qDe<|qJ G (h K G) [0,3,4,1];refine bG 6 c (by kernel_rfl) I (by kernel_rfl) I I .rfl I I ?_;exact qDr [(7,0),(8,2),(9,2),(11,1),(12,1)] I I<|qDe<|qJ G (h K G) [0,3,4,1]
theorem sP(m:Nat)(G:CHr)(a:Tree)(b:Int)(J:ae)(q0:CHr)(h:(ae.mk (b==0) a)=J∧G=q0):mx (m+1) G a b J q0:=by intro K O;refine gR 11 I ?_;obtain⟨rfl,rfl⟩:=h;exact gE O [(2,vF (.bool ((ae.mk (b==0) a).Known)) (((ae.mk (b==0) a).T).kind) (((ae.mk (b==0) a).T).text) (((ae.mk (b==0) a).T).leads) (((ae.mk (b==0) a).T).kids))] [(6,.ptr 2 0)] [0,3,1] [.cell 6 64]
theorem rS_semvcsref08_Check_expr(m:Nat)(O:CHr)(p1:Tree)(p2:YI)(p3:List al)(G:ae)(q0:CHr)(h:∃a b,aS O p1 p2 p3 a b∧y7 (0<(b.Want.length:Int)) (∃c,dI p2 b.Want c∧y8 c (a=G∧(CHr.mk b.P b.Module b.L b.Want a.Known a.T.kind a.T.text a.T.leads a.T.kids)=q0) (a=G∧b=q0)) (a=G∧b=q0)):ep O p1 p2 p3 G q0:=by
 refine qA 34 [0] func61 λK J=>?_;refine gR 3 I<|gFP 2 I I I I<|gR 9 I ?_;obtain⟨a,b,d,h⟩:=h;refine qC d [0,1] ?_;refine qHX ⟨7,[(5,CHr.L_o b),(3,vA (.bool false) 0 []),(0,CHr.o b 5)]⟩<|gR 12 rfl<|gV 19 (qi (b.Want.length:Int)) rfl (aN<|aB (V.int .i64) _) rfl<|gLB 18 rfl (aB (V.int .i64) _) λf=>gR 2 rfl<|qBdZ 21 20 rfl rfl rfl rfl h ?_ ?_<;>intro h;refine gR 5 I ?_;obtain⟨c,e,h⟩:=h;refine qC0 e rfl<|gR 3 rfl<|qBi 28 rfl rfl rfl h ?_ ?_<;>intro h;refine gR 16 I ?_;obtain⟨rfl,rfl⟩:=h;exact gE J [(2,vF (.bool a.Known) a.T.kind a.T.text a.T.leads a.T.kids)] [(8,.ptr 2 0)] [0,5,3] [.cell 8 64];refine gR 10 I ?_;obtain⟨rfl,rfl⟩:=h;exact gE J [(2,vF (.bool a.Known) a.T.kind a.T.text a.T.leads a.T.kids)] [(8,.ptr 2 0)] [0,5,3] [.cell 8 64];refine gR 19 I ?_;obtain⟨rfl,rfl⟩:=h;exact gE J [(2,vF (.bool a.Known) a.T.kind a.T.text a.T.leads a.T.kids)] [(8,.ptr 2 0)] [0,5,3] [.cell 8 64]
theorem oN(m:Nat)(G:CHr)(p1:Tree)(p2:YI)(p3:Int)(J:List al)(O:ae)(q0:CHr)(h:∃c,p3=((c:Nat):Int)∧∃d,p1.kids[c]?=some d∧∃e,cq p2 p3 e∧∃a b,ep G d e J a b∧a=O∧b=q0):aX G p1 p2 p3 J O q0:=by
 refine qA 22 [0] func146 λK U=>?_;refine gR 3 I<|gFP 2 I I I I<|gR 4 I<|qDs [] 11 12<|qDr (qR 0 4 2 []) I I ?_;obtain⟨c,g,h⟩:=h;refine gV 14 (qi ((c:Nat):Int)) I (aT g) I ?_;obtain⟨d,f,h⟩:=h;refine gYd 4 I (by kernel_rfl) (aF (aq f) ah I I I I) I I<|qDr (qR 5 3 2 [(9,2)]) I I ?_;obtain⟨e,i,h⟩:=h;refine bG 8 i (by kernel_rfl) I (by kernel_rfl) I I .rfl I I ?_;obtain⟨a,b,j,h⟩:=h;refine qDC 10 j [0,1] I ?_;refine qHX ⟨7,[(5,CHr.L_o b),(3,vA (.bool false) 0 []),(0,CHr.o b 5)]⟩<|qDr [(11,1)] I I<|qDe<|gR 2 I ?_;obtain⟨rfl,rfl⟩:=h;exact gE U [(2,vF (.bool a.Known) a.T.kind a.T.text a.T.leads a.T.kids)] [(10,.ptr 2 0)] [0,5,3] [.cell 10 64]
def dR(m:Nat)(G:CHr)(p1:Tree)(p2:YI)(p3:List al)(a:Bool)(J:ae)(q0:CHr):Prop:=y5 [0] f103 (z8 (.agg<|ae.c J) ⟨3,[(1,CHr.L_o q0),(0,CHr.o q0 1)]⟩) (cB<|xC<|xE<|cB<|aj f103) [.blk 0,.seq<|xA<|aj f103] 137 [(0,.ptr 0 0),(2,.row 1<|List.map (V.int .i64) p2),(3,.row 6<|List.map al.w p3),(5,.box (ak p1) 0),(8,.ptr 1 0),(15,qi p1.kind),(22,.bool a)] ⟨3,[(2,CHr.L_o G),(1,vA (.bool false) 0 []),(0,CHr.o G 2)]⟩
def dh(m:Nat)(G:CHr)(p1:Tree)(p2:YI)(p3:List al)(a:Int)(J:ae)(q0:CHr):Prop:=y4 m [0] f103 (z8 (.agg<|ae.c J) ⟨3,[(1,CHr.L_o q0),(0,CHr.o q0 1)]⟩) (xG<|xJ<|xC<|xM<|cB<|aj f103) [.blk 1,.seq<|cB<|xJ<|xC<|xM<|cB<|aj f103,.blk 0,.seq<|xA<|aj f103] 137 [(0,.ptr 0 0),(2,.row 1<|List.map (V.int .i64) p2),(3,.row 6<|List.map al.w p3),(5,.box (ak p1) 0),(8,.ptr 1 0),(9,qi a)] ⟨3,[(2,CHr.L_o G),(1,vA (.bool false) 0 []),(0,CHr.o G 2)]⟩
def ga(m:Nat)(p2:YI)(d b:ae)(a:CHr)(G:ae)(q0:CHr):Prop:=y5 [0] f103 (z8 (.agg<|ae.c G) ⟨3,[(1,CHr.L_o q0),(0,CHr.o q0 1)]⟩) (xI<|xJ<|xH<|xC<|xE<|cB<|aj f103) [.blk 0,.seq<|xA<|aj f103] 137 [(0,.ptr 0 0),(2,.row 1<|List.map (V.int .i64) p2),(8,.ptr 1 0),(11,.ptr 2 0),(12,.ptr 3 0)] ⟨5,[(4,CHr.L_o a),(3,.var 64<|ae.c b),(2,.var 64<|ae.c d),(1,vA (.bool false) 0 []),(0,CHr.o a 4)]⟩
def oq(m:Nat)(b:ae)(a:CHr)(G:ae)(q0:CHr):Prop:=y6 [0] f103 (z8 (.agg<|ae.c G) ⟨3,[(1,CHr.L_o q0),(0,CHr.o q0 1)]⟩) [.seq<|xA<|xJ<|xH<|xC<|xM<|cB<|aj f103,.blk 0,.seq<|xA<|aj f103] 137 [(8,.ptr 1 0)] ⟨3,[(2,CHr.L_o a),(1,.var 64<|ae.c b),(0,CHr.o a 2)]⟩
theorem rS_semvcsref08_Check_kind(m:Nat)(J:CHr)(p1:Tree)(p2:YI)(p3:List al)(O:ae)(q0:CHr)(h:q9a p1.kind 10 (∃a,br 5 a∧a=O∧J=q0)<|q9a p1.kind 11 (∃b,br 6 b∧b=O∧J=q0)<|q9a p1.kind 13 (dR m J p1 p2 p3 true O q0)<|dR m J p1 p2 p3 (p1.kind==14) O q0):aS J p1 p2 p3 O q0:=by
 refine qA 137 [0] func103 λK G=>?_;refine gR 3 rfl<|gFP 2 rfl rfl rfl rfl<|gR 17 rfl<|qBeZ 16 17 rfl rfl rfl rfl h ?_ ?_<;>intro h;refine gR 3 I ?_;obtain⟨a,c,h⟩:=h;refine qC0 c I<|gR 6 I ?_;obtain⟨rfl,rfl⟩:=h;exact gE G [(2,vF (.bool a.Known) a.T.kind a.T.text a.T.leads a.T.kids)] [(8,.ptr 2 0)] [0,1,3] [.cell 8 64];refine gR 7 rfl<|qBeZ 19 20 rfl rfl rfl rfl h ?_ ?_<;>intro h;refine gR 3 I ?_;obtain⟨b,d,h⟩:=h;refine qC0 d I<|gR 6 I ?_;obtain⟨rfl,rfl⟩:=h;exact gE G [(2,vF (.bool b.Known) b.T.kind b.T.text b.T.leads b.T.kids)] [(8,.ptr 2 0)] [0,1,3] [.cell 8 64];refine gR 8 rfl<|qBeZ 22 23 rfl rfl rfl rfl h ?_ ?_<;>intro h;exact gR 3 I<|qJ G (h K G) [0,3,1];exact gR 6 I<|qJ G (h K G) [0,3,1]
theorem bq(m:Nat)(p0:CHr)(p1:Tree)(p2:YI)(p3:List al)(θ:Bool)(r0:ae)(q0:CHr)(h:y8 θ (∃k,br 7 k∧k=r0∧p0=q0)<|q9a p1.kind 12 (dh m p0 p1 p2 p3 ((p3.length:Int)-1) r0 q0)<|q9a p1.kind 16 (∃l β,jU p0 p1 p2 p3 l β∧l=r0∧β=q0)<|q9a p1.kind 18 (∃n γ,oQ p0 p1 p2 p3 n γ∧n=r0∧γ=q0)<|q9a p1.kind 19 (∃y δ,aX p0 p1 p2 0 p3 y δ∧∃z ε,aX δ p1 p2 1 p3 z ε∧∃p g,aX ε p1 p2 2 p3 p g∧∃ζ,br 7 ζ∧∃α,bE y ζ α∧y8 α (∃η,cq p2 0 η∧∃q,aO g η 4 q∧ga m p2 z p q r0 q0) (ga m p2 z p g r0 q0))<|q9a p1.kind 20 (∃a r,aX p0 p1 p2 0 p3 a r∧p3.length<=1000000000∧(p3++[(al.mk p1.text a)]).length<=1000000000∧∃s b,aX r p1 p2 1 (p3++[(al.mk p1.text a)]) s b∧oq m s b r0 q0)<|q9a p1.kind 21 (∃d t,pw p0 p1 p2 p3 d t∧d=r0∧t=q0)<|q9a p1.kind 22 (∃e v,aX p0 p1 p2 0 p3 e v∧e=r0∧v=q0)<|q9a p1.kind 17 (∃f x,aX p0 p1 p2 0 p3 f x∧f=r0∧x=q0)<|(ae.mk false<|Tree.node 0 [] [] [])=r0∧p0=q0):dR (m+1) p0 p1 p2 p3 θ r0 q0:=by
 intro K hK;refine qXi 22 rfl rfl rfl h ?_ ?_<;>intro hd h;refine gR 3 I ?_;obtain⟨k,κ,h⟩:=h;refine qC0 κ I<|gR 6 I ?_;obtain⟨rfl,rfl⟩:=h;exact gE hK [(2,vF (.bool k.Known) k.T.kind k.T.text k.T.leads k.T.kids)] [(8,.ptr 2 0)] [0,2,1] [.cell 8 64];refine gR 7 rfl<|qXeZ 26 27 rfl rfl rfl rfl h ?_ ?_<;>intro hd h;exact gR 6 I<|gV 29 (qi (p3.length:Int)) I (aN (aB al.w _)) I<|gLB 28 I (aB al.w _) λμ=>gR 1 I<|gV 30 (qi<|(p3.length:Int)-1) I (ao (by have :=μ;omega) I) I<|gR 4 I<|go_loop m<|qW hK h [0,1,2];refine gR 7 rfl<|qXeZ 52 53 rfl rfl rfl rfl h ?_ ?_<;>intro hd h;refine gR 7 I ?_;obtain⟨l,β,ν,h⟩:=h;refine qC ν [0,2] ?_;refine qHX ⟨6,[(4,CHr.L_o β),(1,vA (.bool false) 0 []),(0,CHr.o β 4)]⟩<|gR 6 I ?_;obtain⟨rfl,rfl⟩:=h;exact gE hK [(2,vF (.bool l.Known) l.T.kind l.T.text l.T.leads l.T.kids)] [(8,.ptr 2 0)] [0,4,1] [.cell 8 64];refine gR 7 rfl<|qXeZ 59 60 rfl rfl rfl rfl h ?_ ?_<;>intro hd h;refine gR 7 I ?_;obtain⟨n,γ,ξ,h⟩:=h;refine qC ξ [0,2] ?_;refine qHX ⟨6,[(4,CHr.L_o γ),(1,vA (.bool false) 0 []),(0,CHr.o γ 4)]⟩<|gR 6 I ?_;obtain⟨rfl,rfl⟩:=h;exact gE hK [(2,vF (.bool n.Known) n.T.kind n.T.text n.T.leads n.T.kids)] [(8,.ptr 2 0)] [0,4,1] [.cell 8 64];refine gR 7 rfl<|qXeZ 66 67 rfl rfl rfl rfl h ?_ ?_<;>intro hd h;refine gR 7 I ?_;obtain⟨y,δ,ο,h⟩:=h;refine qC ο [0,2] ?_;refine qHX ⟨6,[(4,CHr.L_o δ),(1,vA (.bool false) 0 []),(0,CHr.o δ 4)]⟩<|gR 10 I ?_;obtain⟨z,ε,π,h⟩:=h;refine qC π [0,4] ?_;refine qHX ⟨10,[(8,CHr.L_o ε),(6,.var 64<|ae.c y),(1,vA (.bool false) 0 []),(0,CHr.o ε 8)]⟩<|gR 10 I ?_;obtain⟨p,g,τ,h⟩:=h;refine qC τ [0,8] ?_;refine qHX ⟨14,[(12,CHr.L_o g),(10,.var 64<|ae.c z),(6,.var 64<|ae.c y),(1,vA (.bool false) 0 []),(0,CHr.o g 12)]⟩<|gR 6 I<|qDs [6] 2 3<|qDr [(0,3)] I I ?_;obtain⟨ζ,υ,h⟩:=h;refine bG 1 υ (by kernel_rfl) I (by kernel_rfl) I I .rfl I I ?_;obtain⟨α,φ,h⟩:=h;refine bG 2 φ (by kernel_rfl) I (by kernel_rfl) I I .rfl I I ?_;refine qDe<|gR 1 rfl<|qXi 85 rfl rfl rfl h ?_ ?_<;>intro hd h;refine gR 4 I ?_;obtain⟨η,χ,h⟩:=h;refine qC0 χ I ?_;obtain⟨q,ψ,h⟩:=h;refine qC ψ [0,12] ?_;exact qHX ⟨17,[(16,CHr.L_o q),(14,.var 64<|ae.c p),(10,.var 64<|ae.c z),(6,.var 64<|ae.c y),(1,vA (.bool false) 0 []),(0,CHr.o q 16)]⟩<|gR 2 I<|qJ hK (h K hK) [0,1,10,14,16];exact gR 3 I<|qJ hK (h K hK) [0,1,10,14,12];refine gR 7 rfl<|qXeZ 101 102 rfl rfl rfl rfl h ?_ ?_<;>intro hd h;refine gR 7 I ?_;obtain⟨a,r,ω,h⟩:=h;refine qC ω [0,2] ?_;refine qHX ⟨6,[(4,CHr.L_o r),(1,vA (.bool false) 0 []),(0,CHr.o r 4)]⟩<|gR 5 I<|qDs [6] 13 14<|qDr (qR 0 3 2 [(4,2),(6,2),(7,2),(8,3),(9,2)]) I I ?_;apply bK (i:=3) (j:=10) (by kernel_rfl) rfl rfl rfl rfl;exact(bm ah I I);exact(bm ah I I);obtain⟨hb,h⟩:=h;have ι:=hb;apply bK (i:=5) (j:=10) (by kernel_rfl) rfl rfl rfl rfl;exact(rr (.repl 7<|.row 107 6<|List.map al.w p3) (bx ah I I I I I (aam _) (by rw[aB];exact ι)) (okR I)<|by kernel_rfl);exact(bm ah I I);refine qDr [(10,0)] I I ?_;obtain⟨hb,h⟩:=h;refine bj 11 (.repl 8<|.row 107 6<|List.map al.w<|p3++[(al.mk p1.text a)]) I (by kernel_rfl) (bx ah I I I I I (apM al.w p3<|al.mk p1.text a) (by rw[aB];exact hb)) (okR I) I (by kernel_rfl) I I ?_;refine gFR 10 I (fi _ (λ_=>I) _) I I ?_;obtain⟨s,b,hs85,h⟩:=h;refine qDC 12 hs85 [0,4] I ?_;exact qHX ⟨14,[(12,CHr.L_o b),(9,.row 107 6 [.agg [.str p1.text,.bool a.Known,qi a.T.kind,.str a.T.text,.row 1<|List.map V.str a.T.leads,.row 4<|kidsV a.T.kids]]),(6,.var 64<|ae.c a),(1,vA (.bool false) 0 []),(0,CHr.o b 12)]⟩<|qDr [(13,1)] I I<|qDe<|qJ hK (h K hK) [0,1,12];refine bj 5 (.repl 7<|.row 107 6<|List.map al.w p3) I (by kernel_rfl) (bx ah I I I I I (aam _) (by rw[aB];exact ι)) (okR I) I (by kernel_rfl) I I ?_;obtain⟨hb,h⟩:=h;refine bj 11 (.repl 9<|.row 107 6<|List.map al.w<|p3++[(al.mk p1.text a)]) I (by kernel_rfl) (bx ah I I I I I (apM al.w p3<|al.mk p1.text a) (by rw[aB];exact hb)) (okR I) I (by kernel_rfl) I I ?_;refine gFR 10 I (fi _ (λ_=>I) _) I I ?_;obtain⟨s,b,hs86,h⟩:=h;refine qDC 12 hs86 [0,4] I ?_;exact qHX ⟨14,[(12,CHr.L_o b),(8,.row 107 6 [.agg [.str p1.text,.bool a.Known,qi a.T.kind,.str a.T.text,.row 1<|List.map V.str a.T.leads,.row 4<|kidsV a.T.kids]]),(6,.var 64<|ae.c a),(1,vA (.bool false) 0 []),(0,CHr.o b 12)]⟩<|qDr [(13,1)] I I<|qDe<|qJ hK (h K hK) [0,1,12];refine qDr [(3,0)] I I ?_;obtain⟨hb,h⟩:=h;refine bj 5 (.repl 8<|.row 107 6<|List.map al.w p3) I (by kernel_rfl) (bx ah I I I I I (aam _) (by rw[aB];exact hb)) (okR I) I (by kernel_rfl) I I ?_;obtain⟨hb,h⟩:=h;refine bj 11 (.repl 9<|.row 107 6<|List.map al.w<|p3++[(al.mk p1.text a)]) I (by kernel_rfl) (bx ah I I I I I (apM al.w p3<|al.mk p1.text a) (by rw[aB];exact hb)) (okR I) I (by kernel_rfl) I I ?_;refine gFR 10 I (fi _ (λ_=>I) _) I I ?_;obtain⟨s,b,hs87,h⟩:=h;refine qDC 12 hs87 [0,4] I ?_;exact qHX ⟨14,[(12,CHr.L_o b),(7,.row 107 6 [.agg [.str p1.text,.bool a.Known,qi a.T.kind,.str a.T.text,.row 1<|List.map V.str a.T.leads,.row 4<|kidsV a.T.kids]]),(6,.var 64<|ae.c a),(1,vA (.bool false) 0 []),(0,CHr.o b 12)]⟩<|qDr [(13,1)] I I<|qDe<|qJ hK (h K hK) [0,1,12];refine gR 7 rfl<|qXeZ 121 122 rfl rfl rfl rfl h ?_ ?_<;>intro hd h;refine gR 7 I ?_;obtain⟨d,t,hs88,h⟩:=h;refine qC hs88 [0,2] ?_;refine qHX ⟨6,[(4,CHr.L_o t),(1,vA (.bool false) 0 []),(0,CHr.o t 4)]⟩<|gR 6 I ?_;obtain⟨rfl,rfl⟩:=h;exact gE hK [(2,vF (.bool d.Known) d.T.kind d.T.text d.T.leads d.T.kids)] [(8,.ptr 2 0)] [0,4,1] [.cell 8 64];refine gR 8 rfl<|qXeZ 128 129 rfl rfl rfl rfl h ?_ ?_<;>intro hd h;refine gR 10 I ?_;obtain⟨e,v,hs89,h⟩:=h;refine qC hs89 [0,2] ?_;refine qHX ⟨6,[(4,CHr.L_o v),(1,vA (.bool false) 0 []),(0,CHr.o v 4)]⟩<|gR 6 I ?_;obtain⟨rfl,rfl⟩:=h;exact gE hK [(2,vF (.bool e.Known) e.T.kind e.T.text e.T.leads e.T.kids)] [(8,.ptr 2 0)] [0,4,1] [.cell 8 64];refine gR 6 rfl<|qXeZ 128 130 rfl rfl rfl rfl h ?_ ?_<;>intro hd h;refine gR 7 I ?_;obtain⟨f,x,hs90,h⟩:=h;refine qC hs90 [0,2] ?_;refine qHX ⟨6,[(4,CHr.L_o x),(1,vA (.bool false) 0 []),(0,CHr.o x 4)]⟩<|gR 6 I ?_;obtain⟨rfl,rfl⟩:=h;exact gE hK [(2,vF (.bool f.Known) f.T.kind f.T.text f.T.leads f.T.kids)] [(8,.ptr 2 0)] [0,4,1] [.cell 8 64];refine gR 11 I ?_;obtain⟨rfl,rfl⟩:=h;exact gE hK [(2,vF (.bool<|(ae.mk false<|Tree.node 0 [] [] []).Known) (((ae.mk false<|Tree.node 0 [] [] []).T).kind) (((ae.mk false<|Tree.node 0 [] [] []).T).text) (((ae.mk false<|Tree.node 0 [] [] []).T).leads)<|((ae.mk false<|Tree.node 0 [] [] []).T).kids)] [(8,.ptr 2 0)] [0,2,1] [.cell 8 64] (hH:=⟨⟨_,I,⟨I,(.cons .rfl<|.cons .rfl<|.cons .rfl<|.cons (.nil 1)<|.cons (.nil 4) .nil)⟩⟩,⟨⟨_,I,⟨I,I,(vH _ p0.L).symm⟩⟩,⟨⟨_,I,⟨I,aJ.rfl⟩⟩,trivial⟩⟩⟩)
theorem fF(m:Nat)(G:CHr)(p1:Tree)(p2:YI)(p3:List al)(a:Int)(J:ae)(q0:CHr)(h:y7 (0<=a) (∃d,a=((d:Nat):Int)∧∃e,p3[d]?=some e∧q9a e.Name p1.text (∃g,a=((g:Nat):Int)∧∃b,p3[g]?=some b∧b.T=J∧G=q0) (InI (a-1)∧dh m G p1 p2 p3 (a-1) J q0))<|∃c,aO G p2 1 c∧(ae.mk false<|Tree.node 0 [] [] [])=J∧c=q0):dh (m+1) G p1 p2 p3 a J q0:=by
 refine qj λK Z O p=>?_;refine gR 7 rfl<|qXd 32 rfl rfl rfl h ?_ ?_<;>intro U h;refine gR 6 I<|qDs [] 8 8<|qDr [(0,2),(1,2)] I I ?_;obtain⟨d,k,h⟩:=h;refine gV 36 (qi ((d:Nat):Int)) I (aT k) I ?_;obtain⟨e,i,h⟩:=h;refine gYd 2 rfl (by kernel_rfl) (aF (ax (f:=al.w) i) ah rfl rfl rfl rfl) rfl rfl<|qDr ((3,2)::(4,2)::(qR 5 3 0 [])) rfl rfl<|qDe<|gR 1 rfl<|qXe 42 rfl rfl rfl h ?_ ?_<;>intro U h;refine gR 5 I ?_;obtain⟨g,l,h⟩:=h;refine gV 44 (qi ((g:Nat):Int)) I (aT l) I ?_;obtain⟨b,j,h⟩:=h;refine gY (aF (ax (f:=al.w) j) ah I I I I) I I<|gR 8 I<|go_xloopR<|gR 4 I ?_;obtain⟨rfl,rfl⟩:=h;exact gE O [(2,vF (.bool b.T.Known) b.T.T.kind b.T.T.text b.T.T.leads b.T.T.kids)] [(8,.ptr 2 0)] [0,2,1] [.cell 8 64];refine gR 6 I ?_;obtain⟨hb,h⟩:=h;exact gR 1 I<|gV 34 (qi<|a-1) I (ao hb I) I<|gR 2 I<|go_xloop<|qW O h [0,1,2];refine gR 3 I<|go_xloopE<|gR 6 I ?_;obtain⟨c,n,h⟩:=h;refine qC n [0,2] ?_;refine qHX ⟨5,[(4,CHr.L_o c),(1,vA (.bool false) 0 []),(0,CHr.o c 4)]⟩<|gR 11 I ?_;obtain⟨rfl,rfl⟩:=h;exact gE O [(2,vF (.bool<|(ae.mk false<|Tree.node 0 [] [] []).Known) (((ae.mk false<|Tree.node 0 [] [] []).T).kind) (((ae.mk false<|Tree.node 0 [] [] []).T).text) (((ae.mk false<|Tree.node 0 [] [] []).T).leads)<|((ae.mk false<|Tree.node 0 [] [] []).T).kids)] [(8,.ptr 2 0)] [0,4,1] [.cell 8 64] (hH:=⟨⟨_,I,⟨I,(.cons .rfl<|.cons .rfl<|.cons .rfl<|.cons (.nil 1)<|.cons (.nil 4) .nil)⟩⟩,⟨⟨_,I,⟨I,I,(vH _ c.L).symm⟩⟩,⟨⟨_,I,⟨I,aJ.rfl⟩⟩,trivial⟩⟩⟩)
theorem uB(m:Nat)(p2:YI)(b a:ae)(e:CHr)(G:ae)(q0:CHr)(h:∃f,bE b a f∧y8 f (∃g,cq p2 2 g∧∃d,aO e g 6 d∧y8 b.Known (b=G∧d=q0) (a=G∧d=q0)) (y8 b.Known (b=G∧e=q0)<|a=G∧e=q0)):ga (m+1) p2 b a e G q0:=by
 intro K J;refine gR 5 I ?_;obtain⟨f,i,h⟩:=h;refine qC0 i rfl<|gR 2 rfl<|qBi 92 rfl rfl rfl h ?_ ?_<;>intro h;refine gR 4 I ?_;obtain⟨g,j,h⟩:=h;refine qC0 j I ?_;obtain⟨d,k,h⟩:=h;refine qC k [0,4] ?_;refine qHX ⟨7,[(6,CHr.L_o d),(3,.var 64 (ae.c a)),(2,.var 64 (ae.c b)),(1,vA (.bool false) 0 []),(0,CHr.o d 6)]⟩<|gR 9 rfl<|qBi 98 rfl rfl rfl h ?_ ?_<;>intro h;refine gR 11 I ?_;obtain⟨rfl,rfl⟩:=h;exact gE J [(2,vF (.bool b.Known) b.T.kind b.T.text b.T.leads b.T.kids)] [(8,.ptr 2 0)] [0,6,1] [.cell 8 64];refine gR 12 I ?_;obtain⟨rfl,rfl⟩:=h;exact gE J [(2,vF (.bool a.Known) a.T.kind a.T.text a.T.leads a.T.kids)] [(8,.ptr 2 0)] [0,6,1] [.cell 8 64];refine gR 10 rfl<|qBi 98 rfl rfl rfl h ?_ ?_<;>intro h;refine gR 11 I ?_;obtain⟨rfl,rfl⟩:=h;exact gE J [(2,vF (.bool b.Known) b.T.kind b.T.text b.T.leads b.T.kids)] [(8,.ptr 2 0)] [0,4,1] [.cell 8 64];refine gR 12 I ?_;obtain⟨rfl,rfl⟩:=h;exact gE J [(2,vF (.bool a.Known) a.T.kind a.T.text a.T.leads a.T.kids)] [(8,.ptr 2 0)] [0,4,1] [.cell 8 64]
theorem uw(m:Nat)(a:ae)(b:CHr)(G:ae)(q0:CHr)(h:a=G∧b=q0):oq (m+1) a b G q0:=by intro K J;refine gR 4 I ?_;obtain⟨rfl,rfl⟩:=h;exact gE J [(2,vF (.bool a.Known) a.T.kind a.T.text a.T.leads a.T.kids)] [(8,.ptr 2 0)] [0,2,1] [.cell 8 64]
def jg(m:Nat)(p1:Tree)(p2:YI)(p3:List al)(b d:Int)(e:Bool)(a:CHr)(G:ae)(q0:CHr):Prop:=y5 [0] f144 (z8 (.agg<|ae.c G) ⟨3,[(1,CHr.L_o q0),(0,CHr.o q0 1)]⟩) (xF<|aj f144) [] 114 [(0,.ptr 0 0),(2,.row 1<|List.map (V.int .i64) p2),(3,.row 6<|List.map al.w p3),(5,.box (ak p1) 0),(8,.ptr 1 0),(9,qi b),(10,qi d),(11,.bool e)] ⟨3,[(2,CHr.L_o a),(1,vA (.bool false) 0 []),(0,CHr.o a 2)]⟩
def fZ(m:Nat)(p1:Tree)(p2:YI)(p3:List al)(b:Int)(a:CHr)(d:Bool)(e:Int)(f:Tree)(G:ae)(q0:CHr):Prop:=y5 [0] f144 (z8 (.agg<|ae.c G) ⟨3,[(1,CHr.L_o q0),(0,CHr.o q0 1)]⟩) (xI<|xA<|aj f144) [] 114 [(0,.ptr 0 0),(2,.row 1<|List.map (V.int .i64) p2),(3,.row 6<|List.map al.w p3),(5,.box (ak p1) 0),(8,.ptr 1 0),(9,qi b),(11,.bool d),(12,.ptr 2 0),(13,qi e)] ⟨4,[(3,CHr.L_o a),(2,.var 29<|ak f),(1,vA (.bool false) 0 []),(0,CHr.o a 3)]⟩
def cx(m:Nat)(p1:Tree)(p2:YI)(p3:List al)(b d:Int)(a:CHr)(e:Bool)(f:Nat)(g:Tree)(G:ae)(q0:CHr):Prop:=y4 m [0] f144 (z8 (.agg<|ae.c G) ⟨3,[(1,CHr.L_o q0),(0,CHr.o q0 1)]⟩) (xG<|xI<|xA<|aj f144) [.blk 0,.seq<|xI<|xF<|aj f144] 114 [(0,.ptr 0 0),(2,.row 1<|List.map (V.int .i64) p2),(3,.row 6<|List.map al.w p3),(5,.box (ak p1) 0),(8,.ptr 1 0),(9,qi b),(11,.bool e),(12,.ptr 2 0),(13,qi d),(14,qi (f:Int))] ⟨4,[(3,CHr.L_o a),(2,.var 29<|ak g),(1,vA (.bool false) 0 []),(0,CHr.o a 3)]⟩
theorem oc(m:Nat)(G:CHr)(p1:Tree)(p2:YI)(p3:List al)(O:ae)(q0:CHr)(h:∃c d a,ix G.P G.Module p1.text c d a∧y9 a (∃b,aO G p2 1 b∧jg m p1 p2 p3 c d a b O q0) (jg m p1 p2 p3 c d a G O q0)):jU G p1 p2 p3 O q0:=by
 refine qA 114 [0] func144 λK J=>?_;refine gR 3 I<|gFP 2 I I I I<|gR 4 I<|qDs [0] 10 18<|qDr (qR 0 3 2<|(3,3)::(qR 4 3 2 [(7,3),(8,0),(9,0)])) I I ?_;obtain⟨c,d,a,e,h⟩:=h;refine bG 10 e (by kernel_rfl) I (by kernel_rfl) I I .rfl I I ?_;refine qDr ((11,1)::(qR 12 3 2<|qR 15 3 1 [])) rfl rfl<|qDe<|gR 8 rfl<|qBh 33 rfl rfl rfl h bD bC ?_ ?_<;>intro h;refine gR 4 I ?_;obtain⟨b,f,h⟩:=h;refine qC f [0,1] ?_;exact qHX ⟨6,[(5,CHr.L_o b),(3,vA (.bool false) 0 []),(0,CHr.o b 5)]⟩<|gR 2 I<|qJ J (h K J) [0,3,5];exact gR 3 I<|qJ J (h K J) [0,3,1]
theorem nz(m:Nat)(p1:Tree)(p2:YI)(p3:List al)(c l:Int)(g:Bool)(b:CHr)(J:ae)(q0:CHr)(h:y8 g (∃e,c=((e:Nat):Int)∧∃i,b.P[e]?=some i∧∃f,l=((f:Nat):Int)∧∃a,i.kids[f]?=some a∧q3a ((a.kids.length:Int)-2) (p1.kids.length:Int) (∃d,aO b p2 3 d∧fZ m p1 p2 p3 c d true ((a.kids.length:Int)-2) a J q0) (fZ m p1 p2 p3 c b true ((a.kids.length:Int)-2) a J q0))<|fZ m p1 p2 p3 c b false 0 (Tree.node 0 [] [] []) J q0):jg (m+1) p1 p2 p3 c l g b J q0:=by
 intro K G;refine gR 18 rfl<|qXiZ 38 11 rfl rfl rfl rfl h ?_ ?_<;>intro O h;refine gR 8 I ?_;obtain⟨e,n,h⟩:=h;refine gV 43 (qi ((e:Nat):Int)) I (aT n) I ?_;obtain⟨i,j,h⟩:=h;refine gY (aF (aq j) ah I I I I) I I<|gR 3 I ?_;obtain⟨f,p,h⟩:=h;refine gV 47 (qi ((f:Nat):Int)) I (aT p) I ?_;obtain⟨a,k,h⟩:=h;refine gY (aF (aq k) ah rfl rfl rfl rfl) rfl rfl<|gR 9 rfl<|gV 52 (qi (a.kids.length:Int)) rfl (aN (aD _)) rfl<|gLB 51 rfl (aD _) λq=>gR 1 rfl<|gV 53 (qi<|(a.kids.length:Int)-2) rfl (ao (by have :=q;omega) rfl) rfl<|gR 9 rfl<|gV 57 (qi (p1.kids.length:Int)) rfl (aN<|aD _) rfl<|gLB 56 rfl (aD _) λs=>gR 3 rfl<|qXh 58 rfl rfl rfl h dY cO ?_ ?_<;>intro O h;refine gR 4 I ?_;obtain⟨d,r,h⟩:=h;refine qC r [0,2] ?_;exact qHX ⟨6,[(5,CHr.L_o d),(3,.var 29<|ak a),(1,vA (.bool false) 0 []),(0,CHr.o d 5)]⟩<|gR 2 I<|qJ G (h K G) [0,1,3,5];exact gR 3 I<|qJ G (h K G) [0,1,3,2];exact gR 3 I<|qJH G (h K G) [0,1,3,2] ⟨⟨_,I,⟨I,I,(vH _ b.L).symm⟩⟩,⟨⟨_,I,⟨I,(.cons .rfl<|.cons .rfl<|.cons (.nil 1)<|.cons (.nil 4) .nil)⟩⟩,⟨⟨_,I,⟨I,aJ.rfl⟩⟩,⟨⟨_,I,⟨I,aJ.rfl⟩⟩,trivial⟩⟩⟩⟩
theorem iX(m:Nat)(p1:Tree)(p2:YI)(p3:List al)(a:Int)(b:CHr)(c:Bool)(d:Int)(e:Tree)(r0:ae)(q0:CHr)(h:cx m p1 p2 p3 a d b c 0 e r0 q0):fZ (m+1) p1 p2 p3 a b c d e r0 q0:=by
 intro K hK;exact gR 7 I<|go_loop m<|qW hK h [0,1,2,3]
theorem nt(m:Nat)(p1:Tree)(p2:YI)(p3:List al)(f e:Int)(n:CHr)(p:Bool)(a:Nat)(b:Tree)(J:ae)(q0:CHr)(h:y7 (a<p1.kids.length) (∃v,cq p2 (a:Int) v∧∃x,cq v 0 x∧∃q g,aX n p1 p2 (a:Int) p3 q g∧y8 p (y7 ((a:Int)<e) (∃y,b.kids[a]?=some y∧∃z,y.kids[0]?=some z∧∃α k,bA g f z α k∧∃s,bE q α s∧y8 s (∃i,aO k x 4 i∧cx m p1 p2 p3 f e i true (a+1) b J q0) (cx m p1 p2 p3 f e k true (a+1) b J q0))<|cx m p1 p2 p3 f e g true (a+1) b J q0) (cx m p1 p2 p3 f e g false (a+1) b J q0))<|y9 p ((ae.mk false<|Tree.node 0 [] [] [])=J∧n=q0) (∃l,e=((l:Nat):Int)∧∃r,b.kids[l]?=some r∧∃d j,bA n f r d j∧d=J∧j=q0)):cx (m+1) p1 p2 p3 f e n p a b J q0:=by
 refine qj λK U O ξ=>?_;refine gR 7 rfl<|gV 65 (qi (p1.kids.length:Int)) rfl (aN<|aD _) rfl<|gLB 64 rfl (aD _) λt=>gR 3 rfl<|qXh 66 rfl rfl rfl h co cp ?_ ?_<;>intro G h;refine gR 9 I ?_;obtain⟨v,ζ,h⟩:=h;refine qC0 ζ I ?_;obtain⟨x,η,h⟩:=h;refine qC0 η I<|gR 10 I ?_;obtain⟨q,g,θ,h⟩:=h;refine qC θ [0,3] ?_;refine qHX ⟨7,[(5,CHr.L_o g),(2,.var 29<|ak b),(1,vA (.bool false) 0 []),(0,CHr.o g 5)]⟩<|gR 5 rfl<|qDs [7,2] 21 21<|qDr [(0,0),(1,0)] rfl rfl<|gB 80 rfl rfl rfl ?_ ?_<;>intro G;refine gT 11 I G I ?_;refine gT 79 I G I ?_;replace h:=h.1 G;refine qDr ((2,2)::(qR 3 4 0 [])) rfl rfl<|qXdZ 85 84 rfl rfl rfl rfl h ?_ ?_<;>intro G h;refine qDr ((7,3)::(qR 8 3 2 [(11,3),(12,0)])) I I ?_;obtain⟨y,γ,h⟩:=h;refine bQ 13 I (by kernel_rfl) (aF (aq γ) ah I I I I) I I ?_;refine qDr [(14,0),(15,0)] I I ?_;obtain⟨z,δ,h⟩:=h;refine bQ 16 I (by kernel_rfl) (aF (aq δ) ah I I I I) I I ?_;refine qDr [(17,0)] I I ?_;obtain⟨α,k,ι,h⟩:=h;refine qDC 18 ι [0,5] I ?_;refine qHX ⟨11,[(9,CHr.L_o k),(7,.var 64<|ae.c q),(2,.var 29<|ak b),(1,vA (.bool false) 0 []),(0,CHr.o k 9)]⟩ ?_;obtain⟨s,κ,h⟩:=h;refine bG 19 κ (by kernel_rfl) I (by kernel_rfl) I I .rfl I I ?_;refine qDr [(20,0)] rfl rfl<|qDe<|gR 1 rfl<|qXi 99 rfl rfl rfl h ?_ ?_<;>intro G h;refine gR 4 I ?_;obtain⟨i,μ,h⟩:=h;refine qC μ [0,9] ?_;exact qHX ⟨13,[(12,CHr.L_o i),(7,.var 64<|ae.c q),(2,.var 29<|ak b),(1,vA (.bool false) 0 []),(0,CHr.o i 12)]⟩<|gR 6 I<|gV 68 (qi ((a+1:Nat):Int)) I (ao (by have :=t;omega)<|by omega) I<|gR 2 I<|go_xloop<|qW O h [0,1,2,12];exact gR 7 I<|gV 68 (qi ((a+1:Nat):Int)) I (ao (by have :=t;omega)<|by omega) I<|gR 2 I<|go_xloop<|qW O h [0,1,2,9];exact qDr (qR 7 5 2<|qR 12 9 0 []) I I<|qDe<|gR 8 I<|gV 68 (qi ((a+1:Nat):Int)) I (ao (by have :=t;omega)<|by omega) I<|gR 2 I<|go_xloop<|qW O h [0,1,2,5];refine gF 11 I G I ?_;refine gF 79 I G I ?_;replace h:=h.2 G;exact qDr ((2,2)::(qR 3 4 0<|qR 7 5 2<|qR 12 9 0 [])) I I<|qDe<|gR 8 I<|gV 68 (qi ((a+1:Nat):Int)) I (ao (by have :=t;omega)<|by omega) I<|gR 2 I<|go_xloop<|qW O h [0,1,2,5];refine gR 3 rfl<|go_xloopE<|gR 9 rfl<|qXh 104 rfl rfl rfl h bD bC ?_ ?_<;>intro G h;refine gR 9 I ?_;obtain⟨rfl,rfl⟩:=h;exact gE O [(2,vF (.bool<|(ae.mk false<|Tree.node 0 [] [] []).Known) (((ae.mk false<|Tree.node 0 [] [] []).T).kind) (((ae.mk false<|Tree.node 0 [] [] []).T).text) (((ae.mk false<|Tree.node 0 [] [] []).T).leads)<|((ae.mk false<|Tree.node 0 [] [] []).T).kids)] [(8,.ptr 2 0)] [0,3,1] [.cell 8 64] (hH:=⟨⟨_,I,⟨I,(.cons .rfl<|.cons .rfl<|.cons .rfl<|.cons (.nil 1)<|.cons (.nil 4) .nil)⟩⟩,⟨⟨_,I,⟨I,I,(vH _ n.L).symm⟩⟩,⟨⟨_,I,⟨I,aJ.rfl⟩⟩,trivial⟩⟩⟩);refine gR 10 I ?_;obtain⟨l,ε,h⟩:=h;refine gV 110 (qi ((l:Nat):Int)) I (aT ε) I ?_;obtain⟨r,β,h⟩:=h;refine gY (aF (aq β) ah I I I I) I I<|gR 1 I ?_;obtain⟨d,j,ν,h⟩:=h;refine qC ν [0,3] ?_;refine qHX ⟨7,[(5,CHr.L_o j),(2,.var 29<|ak b),(1,vA (.bool false) 0 []),(0,CHr.o j 5)]⟩<|gR 4 I ?_;obtain⟨rfl,rfl⟩:=h;exact gE O [(2,vF (.bool d.Known) d.T.kind d.T.text d.T.leads d.T.kids)] [(8,.ptr 2 0)] [0,5,1] [.cell 8 64]
def cy(m:Nat)(p1:Tree)(p2:YI)(p3:List al)(a:CHr)(b:Bool)(d:Int)(e:YB)(f:(List YB))(g:YT)(i:Nat)(G:ae)(q0:CHr):Prop:=y4 m [0] f145 (z8 (.agg<|ae.c G) ⟨3,[(1,CHr.L_o q0),(0,CHr.o q0 1)]⟩) (xK<|aj f145) [.blk 0,.seq<|xF<|aj f145] 47 [(0,.ptr 0 0),(2,.row 1<|List.map (V.int .i64) p2),(3,.row 6<|List.map al.w p3),(5,.box (ak p1) 0),(8,.ptr 1 0),(9,.ptr 2 0),(10,qi (i:Int))] ⟨4,[(3,CHr.L_o a),(2,vF (.bool b) d e f g),(1,vA (.bool false) 0 []),(0,CHr.o a 3)]⟩
theorem uU(m:Nat)(p0:CHr)(p1:Tree)(p2:YI)(p3:List al)(r0:ae)(q0:CHr)(h:cy m p1 p2 p3 p0 false 0 [] [] [] 0 r0 q0):oQ p0 p1 p2 p3 r0 q0:=by
 refine qA 47 [0] func145 λK hK=>?_;exact gR 3 I<|gFP 2 I I I I<|gR 17 I<|go_loop m<|qJH hK (h K _ hK<|by omega) [0,3,4,1] ⟨⟨_,I,⟨I,I,(vH _ p0.L).symm⟩⟩,⟨⟨_,I,⟨I,(.cons .rfl<|.cons .rfl<|.cons .rfl<|.cons (.nil 1)<|.cons (.nil 4) .nil)⟩⟩,⟨⟨_,I,⟨I,aJ.rfl⟩⟩,⟨⟨_,I,⟨I,aJ.rfl⟩⟩,trivial⟩⟩⟩⟩
theorem iT(m:Nat)(p1:Tree)(p2:YI)(p3:List al)(k:CHr)(i:Bool)(b:Int)(d:YB)(e:(List YB))(f:YT)(g:Nat)(G:ae)(q0:CHr)(h:y7 (g<p1.kids.length) (∃a j,aX k p1 p2 (g:Int) p3 a j∧y9 i (∃p,bE a a p∧y8 p (∃s,cq p2 (g:Int) s∧∃l,aO j s 6 l∧cy m p1 p2 p3 l a.Known a.T.kind a.T.text a.T.leads a.T.kids (g+1) G q0) (cy m p1 p2 p3 j a.Known a.T.kind a.T.text a.T.leads a.T.kids (g+1) G q0)) (∃q,bE a (ae.mk i<|Tree.node b d e f) q∧y8 q (∃t,cq p2 (g:Int) t∧∃n,aO j t 6 n∧cy m p1 p2 p3 n i b d e f (g+1) G q0) (cy m p1 p2 p3 j i b d e f (g+1) G q0)))<|y9 i ((ae.mk false<|Tree.node 0 [] [] [])=G∧k=q0)<|(ae.mk true<|Tree.node 8 [] [] [(Tree.node b d e f)])=G∧k=q0):cy (m+1) p1 p2 p3 k i b d e f g G q0:=by
 refine qj λK U J δ=>?_;refine gR 7 rfl<|gV 16 (qi (p1.kids.length:Int)) rfl (aN<|aD _) rfl<|gLB 15 rfl (aD _) λr=>gR 3 rfl<|qXh 17 rfl rfl rfl h co cp ?_ ?_<;>intro O h;refine gR 12 I ?_;obtain⟨a,j,v,h⟩:=h;refine qC v [0,3] ?_;refine qHX ⟨7,[(5,CHr.L_o j),(2,vF (.bool i) b d e f),(1,vA (.bool false) 0 []),(0,CHr.o j 5)]⟩<|gR 12 rfl<|qXh 28 rfl rfl rfl h bD bC ?_ ?_<;>intro O h;refine gR 10 I ?_;obtain⟨p,x,h⟩:=h;refine qC0 x rfl<|gR 2 rfl<|qXi 32 rfl rfl rfl h ?_ ?_<;>intro O h;refine gR 5 I ?_;obtain⟨s,y,h⟩:=h;refine qC0 y I ?_;obtain⟨l,z,h⟩:=h;refine qC z [0,5] ?_;exact qHX ⟨10,[(9,CHr.L_o l),(7,.var 64<|ae.c a),(2,.var 64<|ae.c a),(1,vA (.bool false) 0 []),(0,CHr.o l 9)]⟩<|gR 6 I<|gV 19 (qi ((g+1:Nat):Int)) I (ao (by have :=r;omega)<|by omega) I<|gR 2 I<|go_xloop<|qW J h [0,1,2,9];exact gR 7 I<|gV 19 (qi ((g+1:Nat):Int)) I (ao (by have :=r;omega)<|by omega) I<|gR 2 I<|go_xloop<|qW J h [0,1,2,5];refine gR 7 I ?_;obtain⟨q,α,h⟩:=h;refine qC0 α rfl<|gR 2 rfl<|qXi 32 rfl rfl rfl h ?_ ?_<;>intro O h;refine gR 5 I ?_;obtain⟨t,β,h⟩:=h;refine qC0 β I ?_;obtain⟨n,γ,h⟩:=h;refine qC γ [0,5] ?_;exact qHX ⟨10,[(9,CHr.L_o n),(7,.var 64<|ae.c a),(2,vF (.bool i) b d e f),(1,vA (.bool false) 0 []),(0,CHr.o n 9)]⟩<|gR 6 I<|gV 19 (qi ((g+1:Nat):Int)) I (ao (by have :=r;omega)<|by omega) I<|gR 2 I<|go_xloop<|qW J h [0,1,2,9];exact gR 7 I<|gV 19 (qi ((g+1:Nat):Int)) I (ao (by have :=r;omega)<|by omega) I<|gR 2 I<|go_xloop<|qW J h [0,1,2,5];refine gR 3 rfl<|go_xloopE<|gR 10 rfl<|qXh 40 rfl rfl rfl h bD bC ?_ ?_<;>intro O h;refine gR 9 I ?_;obtain⟨rfl,rfl⟩:=h;exact gE J [(2,vF (.bool<|(ae.mk false<|Tree.node 0 [] [] []).Known) (((ae.mk false<|Tree.node 0 [] [] []).T).kind) (((ae.mk false<|Tree.node 0 [] [] []).T).text) (((ae.mk false<|Tree.node 0 [] [] []).T).leads)<|((ae.mk false<|Tree.node 0 [] [] []).T).kids)] [(8,.ptr 2 0)] [0,3,1] [.cell 8 64] (hH:=⟨⟨_,I,⟨I,(.cons .rfl<|.cons .rfl<|.cons .rfl<|.cons (.nil 1)<|.cons (.nil 4) .nil)⟩⟩,⟨⟨_,I,⟨I,I,(vH _ k.L).symm⟩⟩,⟨⟨_,I,⟨I,aJ.rfl⟩⟩,trivial⟩⟩⟩);refine gR 8 I<|gHR 4 (kidsV [(Tree.node b d e f)]) I (mU<|Tree.node b d e f) I<|gR 6 I<|gFR 4 I (dk _) I I ?_;obtain⟨rfl,rfl⟩:=h;exact gE J [(2,vF (.bool<|(ae.mk true<|Tree.node 8 [] [] [(Tree.node b d e f)]).Known) (((ae.mk true<|Tree.node 8 [] [] [(Tree.node b d e f)]).T).kind) (((ae.mk true<|Tree.node 8 [] [] [(Tree.node b d e f)]).T).text) (((ae.mk true<|Tree.node 8 [] [] [(Tree.node b d e f)]).T).leads)<|((ae.mk true<|Tree.node 8 [] [] [(Tree.node b d e f)]).T).kids)] [(8,.ptr 2 0)] [0,3,1] [.cell 8 64] (hH:=⟨⟨_,I,⟨I,(.cons .rfl<|.cons .rfl<|.cons .rfl<|.cons (.nil 1)<|.cons .rfl .nil)⟩⟩,⟨⟨_,I,⟨I,I,(vH _ k.L).symm⟩⟩,⟨⟨_,I,⟨I,aJ.rfl⟩⟩,trivial⟩⟩⟩)
def jG(m:Nat)(p1:Tree)(b d:YI)(e f:ae)(a:CHr)(G:ae)(q0:CHr):Prop:=y6 [0] f147 (z8 (.agg<|ae.c G) ⟨3,[(1,CHr.L_o q0),(0,CHr.o q0 1)]⟩) [.seq<|xF<|aj f147] 115 [(0,.ptr 0 0),(5,.box (ak p1) 0),(8,.ptr 1 0),(9,.row 1<|List.map (V.int .i64) b),(10,.row 1<|List.map (V.int .i64) d),(11,.ptr 2 0),(12,.ptr 3 0)] ⟨5,[(4,CHr.L_o a),(3,.var 64<|ae.c f),(2,.var 64<|ae.c e),(1,vA (.bool false) 0 []),(0,CHr.o a 4)]⟩
def dl(m:Nat)(b:YI)(d e:ae)(a:CHr)(f:Bool)(G:ae)(q0:CHr):Prop:=y5 [0] f147 (z8 (.agg<|ae.c G) ⟨3,[(1,CHr.L_o q0),(0,CHr.o q0 1)]⟩) (xA<|xJ<|xE<|xF<|aj f147) [.blk 0,.seq<|xI<|aj f147] 115 [(0,.ptr 0 0),(8,.ptr 1 0),(10,.row 1<|List.map (V.int .i64) b),(11,.ptr 2 0),(12,.ptr 3 0),(13,.bool f)] ⟨5,[(4,CHr.L_o a),(3,.var 64<|ae.c e),(2,.var 64<|ae.c d),(1,vA (.bool false) 0 []),(0,CHr.o a 4)]⟩
def gu(m:Nat)(p1:Tree)(b:YI)(d:ae)(a:CHr)(G:ae)(q0:CHr):Prop:=y5 [0] f147 (z8 (.agg<|ae.c G) ⟨3,[(1,CHr.L_o q0),(0,CHr.o q0 1)]⟩) (xA<|xF<|aj f147) [] 115 [(0,.ptr 0 0),(5,.box (ak p1) 0),(8,.ptr 1 0),(10,.row 1<|List.map (V.int .i64) b),(12,.ptr 2 0)] ⟨4,[(3,CHr.L_o a),(2,.var 64<|ae.c d),(1,vA (.bool false) 0 []),(0,CHr.o a 3)]⟩
def dq(m:Nat)(b:YI)(d e:ae)(a:CHr)(f:Bool)(G:ae)(q0:CHr):Prop:=y5 [0] f147 (z8 (.agg<|ae.c G) ⟨3,[(1,CHr.L_o q0),(0,CHr.o q0 1)]⟩) (xF<|xJ<|xE<|xF<|aj f147) [.blk 0,.seq<|xI<|aj f147] 115 [(0,.ptr 0 0),(8,.ptr 1 0),(10,.row 1<|List.map (V.int .i64) b),(11,.ptr 2 0),(12,.ptr 3 0),(13,.bool f)] ⟨5,[(4,CHr.L_o a),(3,.var 64<|ae.c e),(2,.var 64<|ae.c d),(1,vA (.bool false) 0 []),(0,CHr.o a 4)]⟩
def eE(m:Nat)(b d:ae)(a:CHr)(G:ae)(q0:CHr):Prop:=y5 [0] f147 (z8 (.agg<|ae.c G) ⟨3,[(1,CHr.L_o q0),(0,CHr.o q0 1)]⟩) (xI<|xJ<|xE<|xF<|aj f147) [.blk 0,.seq<|xI<|aj f147] 115 [(8,.ptr 1 0),(11,.ptr 2 0),(12,.ptr 3 0)] ⟨5,[(4,CHr.L_o a),(3,.var 64<|ae.c d),(2,.var 64<|ae.c b),(1,vA (.bool false) 0 []),(0,CHr.o a 4)]⟩
def gq(m:Nat)(b d:ae)(a:CHr)(e:Bool)(G:ae)(q0:CHr):Prop:=y5 [0] f147 (z8 (.agg<|ae.c G) ⟨3,[(1,CHr.L_o q0),(0,CHr.o q0 1)]⟩) (cB<|cK<|cA<|xI<|xJ<|xE<|xF<|aj f147) [.blk 1,.seq<|xA<|xF<|xJ<|xE<|xF<|aj f147,.blk 0,.seq<|xI<|aj f147] 115 [(8,.ptr 1 0),(11,.ptr 2 0),(12,.ptr 3 0),(72,.bool e)] ⟨5,[(4,CHr.L_o a),(3,.var 64<|ae.c d),(2,.var 64<|ae.c b),(1,vA (.bool false) 0 []),(0,CHr.o a 4)]⟩
theorem wd(m:Nat)(J:CHr)(p1:Tree)(p2:YI)(p3:List al)(O:ae)(q0:CHr)(h:∃f,cq p2 0 f∧∃g,cq p2 1 g∧∃k b,aX J p1 p2 0 p3 k b∧∃c a,aX b p1 p2 1 p3 c a∧jG m p1 f g k c a O q0):pw J p1 p2 p3 O q0:=by
 refine qA 115 [0] func147 λK G=>?_;refine gR 3 I<|gFP 2 I I I I<|gR 6 I ?_;obtain⟨f,q,h⟩:=h;refine qC0 q I<|gR 1 I ?_;obtain⟨g,r,h⟩:=h;refine qC0 r I<|gR 5 I<|qDs [] 12 14<|qDr (qR 0 4 2<|qR 5 4 2 []) I I ?_;obtain⟨k,b,d,h⟩:=h;apply Mm (i:=4) (j:=10) (l:=11) (by kernel_rfl) rfl rfl rfl rfl rfl rfl;exact(cz (L':=[]) (by kernel_rfl) I I (fS (H:=⟨4,[(3,vA (.bool false) 0 []),(1,CHr.L_o J),(0,CHr.o J 1)]⟩) d [0,1] .rfl ⟨⟨_,I,⟨I,I,(vH _ J.L).symm⟩⟩,⟨⟨_,I,⟨I,aJ.rfl⟩⟩,trivial⟩⟩ I [] I)<|.inl I);exact(bm ah I I);exact(bm ah I I);refine qHX ⟨7,[(5,CHr.L_o b),(3,vA (.bool false) 0 []),(0,CHr.o b 5)]⟩ ?_;obtain⟨c,a,e,h⟩:=h;apply Mm (i:=9) (j:=10) (l:=11) (by kernel_rfl) rfl rfl rfl rfl rfl rfl;exact(cz (L':=[]) (by kernel_rfl) I I (fS (H:=⟨7,[(5,CHr.L_o b),(3,vA (.bool false) 0 []),(0,CHr.o b 5)]⟩) e [0,5] .rfl ⟨⟨_,I,⟨I,I,(vH _ b.L).symm⟩⟩,⟨⟨_,I,⟨I,aJ.rfl⟩⟩,trivial⟩⟩ I [] I)<|.inl I);exact(bm ah I I);exact(bm ah I I);refine qHX ⟨10,[(8,CHr.L_o a),(3,vA (.bool false) 0 []),(0,CHr.o a 8)]⟩ ?_;apply bK (i:=10) (j:=11) (by kernel_rfl) rfl rfl rfl rfl;exact(bm ah I I);exact(bm ah I I);exact qDr [(11,0),(12,1),(13,1)] I I<|qDe<|qJ G (h K G) [0,3,10,11,8];exact qDr [(10,0),(12,1),(13,1)] I I<|qDe<|qJ G (h K G) [0,3,11,10,8];apply bK (i:=9) (j:=11) (by kernel_rfl) rfl rfl rfl rfl;exact(cz (L':=[]) (by kernel_rfl) I I (fS (H:=⟨8,[(7,vA (.bool false) 0 []),(5,CHr.L_o b),(3,vA (.bool false) 0 []),(0,CHr.o b 5)]⟩) e [0,5] .rfl ⟨⟨_,I,⟨I,I,(vH _ b.L).symm⟩⟩,⟨⟨_,I,⟨I,aJ.rfl⟩⟩,trivial⟩⟩ I [] I)<|.inl I);exact(bm ah I I);exact qHX ⟨11,[(9,CHr.L_o a),(7,vA (.bool false) 0 []),(3,vA (.bool false) 0 []),(0,CHr.o a 9)]⟩<|qDr [(11,0),(12,1),(13,1)] I I<|qDe<|qJ G (h K G) [0,3,7,11,9];refine qDC 9 e [0,5] I ?_;exact qHX ⟨12,[(10,CHr.L_o a),(8,vA (.bool false) 0 []),(7,vA (.bool false) 0 []),(3,vA (.bool false) 0 []),(0,CHr.o a 10)]⟩<|qDr [(12,1),(13,1)] I I<|qDe<|qJ G (h K G) [0,3,7,8,10];apply bK (i:=9) (j:=10) (by kernel_rfl) rfl rfl rfl rfl;exact(cz (L':=[]) (by kernel_rfl) I I (fS (H:=⟨8,[(7,vA (.bool false) 0 []),(5,CHr.L_o b),(3,vA (.bool false) 0 []),(0,CHr.o b 5)]⟩) e [0,5] .rfl ⟨⟨_,I,⟨I,I,(vH _ b.L).symm⟩⟩,⟨⟨_,I,⟨I,aJ.rfl⟩⟩,trivial⟩⟩ I [] I)<|.inl I);exact(bm ah I I);exact qHX ⟨11,[(9,CHr.L_o a),(7,vA (.bool false) 0 []),(3,vA (.bool false) 0 []),(0,CHr.o a 9)]⟩<|qDr [(10,0),(12,1),(13,1)] I I<|qDe<|qJ G (h K G) [0,3,11,7,9];refine qDC 9 e [0,5] I ?_;exact qHX ⟨12,[(10,CHr.L_o a),(8,vA (.bool false) 0 []),(7,vA (.bool false) 0 []),(3,vA (.bool false) 0 []),(0,CHr.o a 10)]⟩<|qDr [(12,1),(13,1)] I I<|qDe<|qJ G (h K G) [0,3,8,7,10];apply bK (i:=4) (j:=11) (by kernel_rfl) rfl rfl rfl rfl;exact(cz (L':=[]) (by kernel_rfl) I I (fS (H:=⟨5,[(4,vA (.bool false) 0 []),(3,vA (.bool false) 0 []),(1,CHr.L_o J),(0,CHr.o J 1)]⟩) d [0,1] .rfl ⟨⟨_,I,⟨I,I,(vH _ J.L).symm⟩⟩,⟨⟨_,I,⟨I,aJ.rfl⟩⟩,trivial⟩⟩ I [] I)<|.inl I);exact(bm ah I I);refine qHX ⟨8,[(6,CHr.L_o b),(4,vA (.bool false) 0 []),(3,vA (.bool false) 0 []),(0,CHr.o b 6)]⟩ ?_;obtain⟨c,a,n,h⟩:=h;apply bK (i:=9) (j:=11) (by kernel_rfl) rfl rfl rfl rfl;exact(cz (L':=[]) (by kernel_rfl) I I (fS (H:=⟨8,[(6,CHr.L_o b),(4,vA (.bool false) 0 []),(3,vA (.bool false) 0 []),(0,CHr.o b 6)]⟩) n [0,6] .rfl ⟨⟨_,I,⟨I,I,(vH _ b.L).symm⟩⟩,⟨⟨_,I,⟨I,aJ.rfl⟩⟩,trivial⟩⟩ I [] I)<|.inl I);exact(bm ah I I);exact qHX ⟨11,[(9,CHr.L_o a),(4,vA (.bool false) 0 []),(3,vA (.bool false) 0 []),(0,CHr.o a 9)]⟩<|qDr [(11,0),(12,1),(13,1)] I I<|qDe<|qJ G (h K G) [0,3,4,11,9];refine qDC 9 n [0,6] I ?_;exact qHX ⟨12,[(10,CHr.L_o a),(8,vA (.bool false) 0 []),(4,vA (.bool false) 0 []),(3,vA (.bool false) 0 []),(0,CHr.o a 10)]⟩<|qDr [(12,1),(13,1)] I I<|qDe<|qJ G (h K G) [0,3,4,8,10];refine qDC 4 d [0,1] I ?_;refine qHX ⟨9,[(7,CHr.L_o b),(5,vA (.bool false) 0 []),(4,vA (.bool false) 0 []),(3,vA (.bool false) 0 []),(0,CHr.o b 7)]⟩ ?_;obtain⟨c,a,s,h⟩:=h;refine qDC 9 s [0,7] I ?_;exact qHX ⟨12,[(10,CHr.L_o a),(5,vA (.bool false) 0 []),(4,vA (.bool false) 0 []),(3,vA (.bool false) 0 []),(0,CHr.o a 10)]⟩<|qDr [(12,1),(13,1)] I I<|qDe<|qJ G (h K G) [0,3,4,5,10];apply bK (i:=4) (j:=10) (by kernel_rfl) rfl rfl rfl rfl;exact(cz (L':=[]) (by kernel_rfl) I I (fS (H:=⟨5,[(4,vA (.bool false) 0 []),(3,vA (.bool false) 0 []),(1,CHr.L_o J),(0,CHr.o J 1)]⟩) d [0,1] .rfl ⟨⟨_,I,⟨I,I,(vH _ J.L).symm⟩⟩,⟨⟨_,I,⟨I,aJ.rfl⟩⟩,trivial⟩⟩ I [] I)<|.inl I);exact(bm ah I I);refine qHX ⟨8,[(6,CHr.L_o b),(4,vA (.bool false) 0 []),(3,vA (.bool false) 0 []),(0,CHr.o b 6)]⟩ ?_;obtain⟨c,a,p,h⟩:=h;apply bK (i:=9) (j:=10) (by kernel_rfl) rfl rfl rfl rfl;exact(cz (L':=[]) (by kernel_rfl) I I (fS (H:=⟨8,[(6,CHr.L_o b),(4,vA (.bool false) 0 []),(3,vA (.bool false) 0 []),(0,CHr.o b 6)]⟩) p [0,6] .rfl ⟨⟨_,I,⟨I,I,(vH _ b.L).symm⟩⟩,⟨⟨_,I,⟨I,aJ.rfl⟩⟩,trivial⟩⟩ I [] I)<|.inl I);exact(bm ah I I);exact qHX ⟨11,[(9,CHr.L_o a),(4,vA (.bool false) 0 []),(3,vA (.bool false) 0 []),(0,CHr.o a 9)]⟩<|qDr [(10,0),(12,1),(13,1)] I I<|qDe<|qJ G (h K G) [0,3,11,4,9];refine qDC 9 p [0,6] I ?_;exact qHX ⟨12,[(10,CHr.L_o a),(8,vA (.bool false) 0 []),(4,vA (.bool false) 0 []),(3,vA (.bool false) 0 []),(0,CHr.o a 10)]⟩<|qDr [(12,1),(13,1)] I I<|qDe<|qJ G (h K G) [0,3,8,4,10];refine qDC 4 d [0,1] I ?_;refine qHX ⟨9,[(7,CHr.L_o b),(5,vA (.bool false) 0 []),(4,vA (.bool false) 0 []),(3,vA (.bool false) 0 []),(0,CHr.o b 7)]⟩ ?_;obtain⟨c,a,t,h⟩:=h;refine qDC 9 t [0,7] I ?_;exact qHX ⟨12,[(10,CHr.L_o a),(5,vA (.bool false) 0 []),(4,vA (.bool false) 0 []),(3,vA (.bool false) 0 []),(0,CHr.o a 10)]⟩<|qDr [(12,1),(13,1)] I I<|qDe<|qJ G (h K G) [0,3,5,4,10]
theorem uQ(m:Nat)(p1:Tree)(r e:YI)(a b:ae)(d:CHr)(J:ae)(q0:CHr)(h:q9a p1.text [43] (y8 a.Known (∃l,da a 5 l∧y9 l (∃n,da a 6 n∧y9 n (∃j,aO d r 4 j∧dl m e a b j true J q0) (dl m e a b d false J q0)) (dl m e a b d false J q0))<|dl m e a b d false J q0)<|q9a p1.text [61,61] (∃p,bE a b p∧y8 p (∃k,aO d e 6 k∧∃f,br 7 f∧f=J∧k=q0) (∃g,br 7 g∧g=J∧d=q0)) (∃s,br 5 s∧∃q,bE a s q∧y8 q (∃i,aO d r 4 i∧gu m p1 e b i J q0) (gu m p1 e b d J q0))):jG (m+1) p1 r e a b d J q0:=by
 intro K G;refine gR 15 rfl<|qBeZ 30 31 rfl rfl rfl rfl h ?_ ?_<;>intro h;refine gR 12 rfl<|qBiZ 34 33 rfl rfl rfl rfl h ?_ ?_<;>intro h;refine gR 1 I ?_;obtain⟨l,t,h⟩:=h;refine qC0 t rfl<|gR 3 rfl<|qBhZ 39 38 rfl rfl rfl rfl h bD bC ?_ ?_<;>intro h;refine gR 1 I ?_;obtain⟨n,v,h⟩:=h;refine qC0 v rfl<|gR 4 rfl<|qBh 43 rfl rfl rfl h bD bC ?_ ?_<;>intro h;refine gR 5 I ?_;obtain⟨j,w,h⟩:=h;refine qC w [0,4] ?_;exact qHX ⟨7,[(6,CHr.L_o j),(3,.var 64 (ae.c b)),(2,.var 64 (ae.c a)),(1,vA (.bool false) 0 []),(0,CHr.o j 6)]⟩<|gR 6 I<|qJ G (h K G) [0,1,2,3,6];exact gR 3 I<|qJ G (h K G) [0,1,2,3,4];exact gR 9 I<|qJ G (h K G) [0,1,2,3,4];exact gR 14 I<|qJ G (h K G) [0,1,2,3,4];refine gR 7 rfl<|qBeZ 89 90 rfl rfl rfl rfl h ?_ ?_<;>intro h;refine gR 6 I ?_;obtain⟨p,x,h⟩:=h;refine qC0 x rfl<|gR 2 rfl<|qBi 93 rfl rfl rfl h ?_ ?_<;>intro h;refine gR 4 I ?_;obtain⟨k,y,h⟩:=h;refine qC y [0,4] ?_;refine qHX ⟨7,[(6,CHr.L_o k),(3,.var 64 (ae.c b)),(2,.var 64 (ae.c a)),(1,vA (.bool false) 0 []),(0,CHr.o k 6)]⟩<|gR 4 I ?_;obtain⟨f,z,h⟩:=h;refine qC0 z I<|gR 6 I ?_;obtain⟨rfl,rfl⟩:=h;exact gE G [(2,vF (.bool f.Known) f.T.kind f.T.text f.T.leads f.T.kids)] [(8,.ptr 2 0)] [0,6,1] [.cell 8 64];refine gR 5 I ?_;obtain⟨g,α,h⟩:=h;refine qC0 α I<|gR 6 I ?_;obtain⟨rfl,rfl⟩:=h;exact gE G [(2,vF (.bool g.Known) g.T.kind g.T.text g.T.leads g.T.kids)] [(8,.ptr 2 0)] [0,4,1] [.cell 8 64];refine gR 6 I<|qDs [2] 2 3<|qDr [(0,3)] I I ?_;obtain⟨s,β,h⟩:=h;refine bG 1 β (by kernel_rfl) I (by kernel_rfl) I I .rfl I I ?_;obtain⟨q,γ,h⟩:=h;refine bG 2 γ (by kernel_rfl) I (by kernel_rfl) I I .rfl I I ?_;refine qDe<|gR 1 rfl<|qBi 100 rfl rfl rfl h ?_ ?_<;>intro h;refine gR 4 I ?_;obtain⟨i,δ,h⟩:=h;refine qC δ [0,4] ?_;exact qHX ⟨7,[(6,CHr.L_o i),(3,.var 64 (ae.c b)),(2,.var 64 (ae.c a)),(1,vA (.bool false) 0 []),(0,CHr.o i 6)]⟩<|gR 2 I<|qJ G (h K G) [0,1,3,6];exact gR 3 I<|qJ G (h K G) [0,1,3,4]
theorem vc(m:Nat)(b:YI)(d a:ae)(e:CHr)(g:Bool)(J:ae)(q0:CHr)(h:y8 a.Known (∃i,da a 5 i∧y9 i (∃j,da a 6 j∧y9 j (∃f,aO e b 4 f∧dq m b d a f true J q0) (dq m b d a e g J q0)) (dq m b d a e g J q0))<|dq m b d a e g J q0):dl (m+1) b d a e g J q0:=by
 intro K G;refine gR 6 rfl<|qBiZ 49 48 rfl rfl rfl rfl h ?_ ?_<;>intro h;refine gR 1 I ?_;obtain⟨i,k,h⟩:=h;refine qC0 k rfl<|gR 3 rfl<|qBhZ 54 53 rfl rfl rfl rfl h bD bC ?_ ?_<;>intro h;refine gR 1 I ?_;obtain⟨j,l,h⟩:=h;refine qC0 l rfl<|gR 4 rfl<|qBh 58 rfl rfl rfl h bD bC ?_ ?_<;>intro h;refine gR 5 I ?_;obtain⟨f,n,h⟩:=h;refine qC n [0,4] ?_;exact qHX ⟨7,[(6,CHr.L_o f),(3,.var 64 (ae.c a)),(2,.var 64 (ae.c d)),(1,vA (.bool false) 0 []),(0,CHr.o f 6)]⟩<|gR 6 I<|qJ G (h K G) [0,1,2,3,6];exact gR 3 I<|qJ G (h K G) [0,1,2,3,4];exact gR 9 I<|qJ G (h K G) [0,1,2,3,4];exact gR 14 I<|qJ G (h K G) [0,1,2,3,4]
theorem uV(m:Nat)(p1:Tree)(l:YI)(j:ae)(g:CHr)(G:ae)(q0:CHr)(h:∃k,br 5 k∧∃i,bE j k i∧y8 i (∃f,aO g l 4 f∧q9a p1.text [60] (∃a,br 7 a∧a=G∧f=q0) (∃b,br 5 b∧b=G∧f=q0)) (q9a p1.text [60] (∃d,br 7 d∧d=G∧g=q0)<|∃e,br 5 e∧e=G∧g=q0)):gu (m+1) p1 l j g G q0:=by
 intro K J;refine gR 2 I<|qDs [2] 2 3<|qDr [(0,3)] I I ?_;obtain⟨k,n,h⟩:=h;refine bG 1 n (by kernel_rfl) I (by kernel_rfl) I I .rfl I I ?_;obtain⟨i,p,h⟩:=h;refine bG 2 p (by kernel_rfl) I (by kernel_rfl) I I .rfl I I ?_;refine qDe<|gR 1 rfl<|qBi 106 rfl rfl rfl h ?_ ?_<;>intro h;refine gR 4 I ?_;obtain⟨f,q,h⟩:=h;refine qC q [0,3] ?_;refine qHX ⟨6,[(5,CHr.L_o f),(2,.var 64 (ae.c j)),(1,vA (.bool false) 0 []),(0,CHr.o f 5)]⟩<|gR 10 rfl<|qBe 112 rfl rfl rfl h ?_ ?_<;>intro h;refine gR 3 I ?_;obtain⟨a,r,h⟩:=h;refine qC0 r I<|gR 5 I ?_;obtain⟨rfl,rfl⟩:=h;exact gE J [(2,vF (.bool a.Known) a.T.kind a.T.text a.T.leads a.T.kids)] [(8,.ptr 2 0)] [0,5,1] [.cell 8 64];refine gR 5 I ?_;obtain⟨b,s,h⟩:=h;refine qC0 s I<|gR 4 I ?_;obtain⟨rfl,rfl⟩:=h;exact gE J [(2,vF (.bool b.Known) b.T.kind b.T.text b.T.leads b.T.kids)] [(8,.ptr 2 0)] [0,5,1] [.cell 8 64];refine gR 11 rfl<|qBe 112 rfl rfl rfl h ?_ ?_<;>intro h;refine gR 3 I ?_;obtain⟨d,t,h⟩:=h;refine qC0 t I<|gR 5 I ?_;obtain⟨rfl,rfl⟩:=h;exact gE J [(2,vF (.bool d.Known) d.T.kind d.T.text d.T.leads d.T.kids)] [(8,.ptr 2 0)] [0,3,1] [.cell 8 64];refine gR 5 I ?_;obtain⟨e,v,h⟩:=h;refine qC0 v I<|gR 4 I ?_;obtain⟨rfl,rfl⟩:=h;exact gE J [(2,vF (.bool e.Known) e.T.kind e.T.text e.T.leads e.T.kids)] [(8,.ptr 2 0)] [0,3,1] [.cell 8 64]
theorem ve(m:Nat)(i:YI)(a b:ae)(e:CHr)(g:Bool)(J:ae)(q0:CHr)(h:y9 g (∃f,bE a b f∧y8 f (∃d,aO e i 6 d∧eE m a b d J q0) (eE m a b e J q0))<|eE m a b e J q0):dq (m+1) i a b e g J q0:=by
 intro K G;refine gR 6 rfl<|qBhZ 64 63 rfl rfl rfl rfl h bD bC ?_ ?_<;>intro h;refine gR 2 I ?_;obtain⟨f,j,h⟩:=h;refine qC0 j rfl<|gR 3 rfl<|qBi 68 rfl rfl rfl h ?_ ?_<;>intro h;refine gR 4 I ?_;obtain⟨d,k,h⟩:=h;refine qC k [0,4] ?_;exact qHX ⟨7,[(6,CHr.L_o d),(3,.var 64 (ae.c b)),(2,.var 64 (ae.c a)),(1,vA (.bool false) 0 []),(0,CHr.o d 6)]⟩<|gR 2 I<|qJ G (h K G) [0,1,2,3,6];exact gR 3 I<|qJ G (h K G) [0,1,2,3,4];exact gR 9 I<|qJ G (h K G) [0,1,2,3,4]
theorem uX(m:Nat)(a c:ae)(d:CHr)(J:ae)(q0:CHr)(h:∃b,da a 5 b∧y8 b (gq m a c d true J q0) (∃e,da a 6 e∧gq m a c d e J q0)):eE (m+1) a c d J q0:=by
 intro K G;refine gR 5 I ?_;obtain⟨b,f,h⟩:=h;refine qC0 f rfl<|gR 1 rfl<|qBiZ 75 74 rfl rfl rfl rfl h ?_ ?_<;>intro h;exact gR 6 I<|qJ G (h K G) [0,1,2,3,4];refine gR 1 I ?_;obtain⟨e,g,h⟩:=h;exact qC0 g I<|gR 4 I<|qJ G (h K G) [0,1,2,3,4]
theorem uP(m:Nat)(b a:ae)(c:CHr)(f:Bool)(G:ae)(q0:CHr)(h:y8 f (b=G∧c=q0)<|∃d,da a 5 d∧y8 d (a=G∧c=q0) (∃e,da a 6 e∧y8 e (a=G∧c=q0) ((ae.mk false<|Tree.node 0 [] [] [])=G∧c=q0))):gq (m+1) b a c f G q0:=by
 intro K J;refine qBi 72 rfl rfl rfl h ?_ ?_<;>intro h;refine gR 12 I ?_;obtain⟨rfl,rfl⟩:=h;exact gE J [(2,vF (.bool b.Known) b.T.kind b.T.text b.T.leads b.T.kids)] [(8,.ptr 2 0)] [0,4,1] [.cell 8 64];refine gR 4 I ?_;obtain⟨d,g,h⟩:=h;refine qC0 g rfl<|gR 1 rfl<|qBiZ 83 82 rfl rfl rfl rfl h ?_ ?_<;>intro h;refine gR 18 I ?_;obtain⟨rfl,rfl⟩:=h;exact gE J [(2,vF (.bool a.Known) a.T.kind a.T.text a.T.leads a.T.kids)] [(8,.ptr 2 0)] [0,4,1] [.cell 8 64];refine gR 1 I ?_;obtain⟨e,i,h⟩:=h;refine qC0 i rfl<|gR 4 rfl<|qBiZ 80 86 rfl rfl rfl rfl h ?_ ?_<;>intro h;refine gR 12 I ?_;obtain⟨rfl,rfl⟩:=h;exact gE J [(2,vF (.bool a.Known) a.T.kind a.T.text a.T.leads a.T.kids)] [(8,.ptr 2 0)] [0,4,1] [.cell 8 64];refine gR 13 I ?_;obtain⟨rfl,rfl⟩:=h;exact gE J [(2,vF (.bool ((ae.mk false (Tree.node 0 [] [] [])).Known)) (((ae.mk false (Tree.node 0 [] [] [])).T).kind) (((ae.mk false (Tree.node 0 [] [] [])).T).text) (((ae.mk false (Tree.node 0 [] [] [])).T).leads) (((ae.mk false (Tree.node 0 [] [] [])).T).kids))] [(8,.ptr 2 0)] [0,4,1] [.cell 8 64] (hH:=⟨⟨_,I,⟨I,(.cons .rfl (.cons .rfl (.cons .rfl (.cons (.nil 1) (.cons (.nil 4) .nil)))))⟩⟩,⟨⟨_,I,⟨I,I,(vH _ c.L).symm⟩⟩,⟨⟨_,I,⟨I,aJ.rfl⟩⟩,trivial⟩⟩⟩)
def nY(m:Nat)(G:CHr)(p1:YI)(a:Tree)(q0:CHr):Prop:=y6 [0] f35 (z8 (.tup []) ⟨2,[(1,CHr.L_o q0),(0,CHr.o q0 1)]⟩) [.seq<|cB<|aj f35] 60 [(0,.ptr 0 0),(1,.row 1<|List.map (V.int .i64) p1),(4,.ptr 1 0)] ⟨3,[(2,CHr.L_o G),(1,.var 29<|ak a),(0,CHr.o G 2)]⟩
def df(m:Nat)(p1:YI)(b:Tree)(a:CHr)(c:Nat)(q0:CHr):Prop:=y4 m [0] f35 (z8 (.tup []) ⟨2,[(1,CHr.L_o q0),(0,CHr.o q0 1)]⟩) (xL<|xF<|aj f35) [.blk 0] 60 [(0,.ptr 0 0),(1,.row 1<|List.map (V.int .i64) p1),(4,.ptr 1 0),(9,qi (c:Int))] ⟨3,[(2,CHr.L_o a),(1,.var 29<|ak b),(0,CHr.o a 2)]⟩
theorem va(m:Nat)(G:CHr)(p1:YI)(q0:CHr)(h:∃a,G.Module=((a:Nat):Int)∧∃b,G.P[a]?=some b∧∃c e,jM b p1 c e∧nY m G p1 c q0):eG G p1 q0:=by
 refine qA 60 [0] func35 λK J=>?_;refine gR 1 I<|qDs [0] 16 18<|qDr (qR 0 3 2<|(3,3)::(qR 4 3 2 [(7,3)])) I I ?_;obtain⟨a,g,h⟩:=h;refine gV 18 (qi ((a:Nat):Int)) I (aT g) I ?_;obtain⟨b,d,h⟩:=h;refine gYd 8 I (by kernel_rfl) (aF (aq d) ah I I I I) I I<|qDr [(9,2),(10,2)] I I ?_;obtain⟨c,e,f,h⟩:=h;apply bK (i:=11) (j:=15) (by kernel_rfl) rfl rfl rfl rfl;exact(cz (L':=[0]) (by kernel_rfl) I I (tH f .rfl [0] I)<|.inl I);exact(bm ah I I);exact qDr (qR 12 3 2 [(15,0),(16,1),(17,1)]) I I<|qDe<|qJ J (h K J) [0,2,1];refine bG 11 f (by kernel_rfl) I (by kernel_rfl) I I .rfl I I ?_;exact qDr [(12,0),(13,2),(14,2),(16,1),(17,1)] I I<|qDe<|qJ J (h K J) [0,2,1]
theorem uq(m:Nat)(p0:CHr)(p1:YI)(a:Tree)(q0:CHr)(h:q9a a.kind 9 (∃d e c,ix p0.P p0.Module a.text d e c∧y9 c (∃b,aO p0 p1 1 b∧df m p1 a b 0 q0) (df m p1 a p0 0 q0))<|df m p1 a p0 0 q0):nY (m+1) p0 p1 a q0:=by
 intro K hK;refine gR 9 rfl<|qXe 27 rfl rfl rfl h ?_ ?_<;>intro hd h;refine gR 2 I<|qDs [0,1] 10 18<|qDr (qR 0 3 2 ((3,3)::(qR 4 3 2 [(7,3),(8,0),(9,0)]))) I I ?_;obtain⟨d,e,c,f,h⟩:=h;refine bG 10 f (by kernel_rfl) I (by kernel_rfl) I I .rfl I I ?_;refine qDr ((11,1)::(qR 12 3 2 (qR 15 3 1 []))) rfl rfl<|qDe<|gR 7 rfl<|qXh 44 rfl rfl rfl h bD bC ?_ ?_<;>intro hd h;refine gR 4 I ?_;obtain⟨b,g,h⟩:=h;refine qC g [0,2] ?_;exact qHX ⟨5,[(4,CHr.L_o b),(1,.var 29 (ak a)),(0,CHr.o b 4)]⟩<|gR 8 I<|go_loop m<|qW hK h [0,1,4];exact gR 9 I<|go_loop m<|qW hK h [0,1,2];exact gR 9 I<|go_loop m<|qW hK h [0,1,2]
theorem ny(m:Nat)(p1:YI)(a:Tree)(d:CHr)(b:Nat)(q0:CHr)(h:y7 (b<a.kids.length) (∃e,cq p1 (b:Int) e∧∃c,eG d e c∧df m p1 a c (b+1) q0)<|d=q0):df (m+1) p1 a d b q0:=by
 refine qj λK J G j=>?_;refine gR 7 rfl<|gV 51 (qi (a.kids.length:Int)) rfl (aN<|aD _) rfl<|gLB 50 rfl (aD _) λf=>gR 3 rfl<|qXh 52 rfl rfl rfl h co cp ?_ ?_<;>intro O h;refine gR 9 I ?_;obtain⟨e,g,h⟩:=h;refine qC0 g I ?_;obtain⟨c,i,h⟩:=h;refine qC i [0,2] ?_;exact qHX ⟨5,[(4,CHr.L_o c),(1,.var 29<|ak a),(0,CHr.o c 4)]⟩<|gR 6 I<|gV 54 (qi ((b+1:Nat):Int)) I (ao (by have :=f;omega)<|by omega) I<|gR 2 I<|go_xloop<|qW G h [0,1,4];refine gR 3 I<|go_xloopE<|gR 1 I ?_;subst h;exact gE G [] [] [0,2] []
def dc(m:Nat)(p1:Int)(a:Tree)(b:CHr)(d:List al)(e:Int)(G:ae)(q0:CHr):Prop:=y4 m [0] f29 (z8 (.agg<|ae.c G) ⟨3,[(1,CHr.L_o q0),(0,CHr.o q0 1)]⟩) (xG<|xI<|aj f29) [.blk 0,.seq<|xA<|xF<|aj f29] 69 [(0,.ptr 0 0),(1,qi p1),(4,.ptr 1 0),(5,.box (ak a) 0),(6,qi (a.kids.length:Int)),(7,.sl 2),(8,qi e)] ⟨4,[(3,CHr.L_o b),(2,.row 107 6<|List.map al.w d),(1,vA (.bool false) 0 []),(0,CHr.o b 3)]⟩
theorem uY(m:Nat)(p0:CHr)(p1:Int)(r0:ae)(q0:CHr)(h:∃b,p0.Module=((b:Nat):Int)∧∃d,p0.P[b]?=some d∧∃c,p1=((c:Nat):Int)∧∃a,d.kids[c]?=some a∧dc m p1 a p0 ([]:List al) ((a.kids.length:Int)-3) r0 q0):eJ p0 p1 r0 q0:=by
 refine qA 69 [0] func29 λK hK=>?_;refine gR 6 I<|qDs [0] 15 16<|qDr (qR 0 3 2<|(3,3)::(qR 4 3 2 [(7,3)])) I I ?_;obtain⟨b,g,h⟩:=h;refine gV 16 (qi ((b:Nat):Int)) I (aT g) I ?_;obtain⟨d,e,h⟩:=h;refine gYd 8 I (by kernel_rfl) (aF (aq e) ah I I I I) I I<|qDr (qR 9 3 2 []) I I ?_;obtain⟨c,i,h⟩:=h;refine gV 20 (qi ((c:Nat):Int)) I (aT i) I ?_;obtain⟨a,f,h⟩:=h;exact gYd 12 I (by kernel_rfl) (aF (aq f) ah I I I I) I I<|qDr [(13,2),(14,0),(15,1)] I I<|qDe<|gR 6 I<|gV 25 (qi (a.kids.length:Int)) I (aN<|aD _) I<|gLB 24 I (aD _) λj=>gR 10 I<|gFP 3 I I I I<|gR 3 I<|gV 27 (qi<|(a.kids.length:Int)-3) I (ao (by have :=j;omega) I) I<|gR 4 I<|go_loop m<|gNS 7 107 6 I I I I<|qW hK h [0,2,4,1]
theorem rL0_semvcsref08_Check_body(m:Nat)(p1:Int)(a:Tree)(i:CHr)(d:List al)(c:Int)(G:ae)(q0:CHr)(h:y7 (0<=c) (∃k,c=((k:Nat):Int)∧∃f,a.kids[k]?=some f∧∃l,c=((l:Nat):Int)∧∃p,a.kids[l]?=some p∧∃q,p.kids[0]?=some q∧∃g j,bA i i.Module q g j∧(d++[(al.mk f.text g)]).length<=1000000000∧InI (c-1)∧dc m p1 a j (d++[(al.mk f.text g)]) (c-1) G q0) (InI ((a.kids.length:Int)-1)∧∃n,((a.kids.length:Int)-1)=((n:Nat):Int)∧∃r,a.kids[n]?=some r∧InI ((a.kids.length:Int)-1)∧∃b e,ep i r [p1,((a.kids.length:Int)-1)] d b e∧b=G∧e=q0)):dc (m+1) p1 a i d c G q0:=by
 refine qj λK O J δ=>?_;refine gR 7 rfl<|qXd 29 rfl rfl rfl h ?_ ?_<;>intro U h;refine gR 5 I<|qDs [0] 20 25<|qDr (qR 0 4 2 []) I I ?_;obtain⟨k,y,h⟩:=h;refine gV 35 (qi ((k:Nat):Int)) I (aT y) I ?_;obtain⟨f,s,h⟩:=h;refine gYd 4 I (by kernel_rfl) (aF (aq s) ah I I I I) I I<|qDr (qR 5 6 2 [(11,3),(12,2),(13,2),(14,0)]) I I ?_;obtain⟨l,z,h⟩:=h;refine gV 46 (qi ((l:Nat):Int)) I (aT z) I ?_;obtain⟨p,t,h⟩:=h;refine bQ 15 I (by kernel_rfl) (aF (aq t) ah I I I I) I I ?_;refine qDr [(16,0),(17,0)] I I ?_;obtain⟨q,v,h⟩:=h;refine bQ 18 I (by kernel_rfl) (aF (aq v) ah I I I I) I I ?_;refine qDr [(19,0)] I I ?_;obtain⟨g,j,β,h⟩:=h;refine Uf 20 β [0,3] (by kernel_rfl) I (by kernel_rfl) I I .rfl ⟨⟨_,I,⟨I,I,(vH _ i.L).symm⟩⟩,⟨⟨_,I,⟨I,aJ.rfl⟩⟩,trivial⟩⟩ I (by kernel_rfl) ?_;rintro _ _ ⟨rfl,rfl⟩;refine qHX ⟨7,[(5,CHr.L_o j),(2,.row 107 6<|List.map al.w d),(1,vA (.bool false) 0 []),(0,CHr.o j 5)]⟩<|qDr [(21,1),(22,1)] I I ?_;obtain⟨hb,h⟩:=h;refine bj 23 (.repl 2<|.row 107 6<|List.map al.w<|d++[(al.mk f.text g)]) I (by kernel_rfl) (bx ah I I I I I (apM al.w d<|al.mk f.text g) (by rw[aB];exact hb)) (okR I) I (by kernel_rfl) I I ?_;refine qDr [(24,1)] I I<|qDe<|gR 4 I ?_;obtain⟨hb,h⟩:=h;exact gR 1 I<|gV 31 (qi<|c-1) I (ao hb I) I<|gR 2 I<|go_xloop<|qW J h [0,1,8,5];refine gR 3 I<|go_xloopE<|gR 8 I ?_;obtain⟨hb,h⟩:=h;refine gR 1 I<|gV 60 (qi<|(a.kids.length:Int)-1) I (ao hb I) I ?_;obtain⟨n,α,h⟩:=h;refine gV 60 (qi ((n:Nat):Int)) I (aT α) I ?_;obtain⟨r,x,h⟩:=h;refine gY (aF (aq x) ah I I I I) I I<|gR 3 I ?_;obtain⟨hb,h⟩:=h;refine gR 1 I<|gV 65 (qi<|(a.kids.length:Int)-1) I (ao hb I) I<|gR 2 I<|gFR 4 I I I I<|gFR 2 I (fi _ (λ_=>I) _) I I ?_;obtain⟨b,e,γ,h⟩:=h;refine qC γ [0,3] ?_;refine qHX ⟨8,[(6,CHr.L_o e),(1,vA (.bool false) 0 []),(0,CHr.o e 6)]⟩<|gR 4 I ?_;obtain⟨rfl,rfl⟩:=h;exact gE J [(2,vF (.bool b.Known) b.T.kind b.T.text b.T.leads b.T.kids)] [(4,.ptr 2 0)] [0,6,1] [.cell 4 64]
structure ac where
 simple:Int
 lists:Int
abbrev ac.c(x:ac):List V:=[.int .i64 x.simple,.int .i64 x.lists]
abbrev ac.w(x:ac):V:=.agg x.c
structure am where
 params:(List ac)
 result:ac
abbrev am.c(x:am):List V:=[.row 2 (List.map ac.w x.params),.int .i64 x.result.simple,.int .i64 x.result.lists]
abbrev am.w(x:am):V:=.agg x.c
structure CKr where
 p:(List Tree)
 targets:(List ay)
 names:(List ((Int×(List UInt8))×ac))
 signatures:(List ((Int×Int)×am))
 module:Int
 path:(List Int)
 faults:(List ai)
 wanted_Module:Int
 wanted_Path:(List Int)
 result_simple:Int
 result_lists:Int
abbrev CKr.faults_o(x:CKr):Ob:=.row 47 3 (List.map ai.w x.faults)
abbrev CKr.path_o(x:CKr):Ob:=.row 3 1 (List.map (V.int .i64) x.path)
abbrev CKr.signatures_o(x:CKr):Ob:=.mp 100 97 (List.map (λp=>(λx=>V.agg [(V.int .i64 x.1),(V.int .i64 x.2)]) p.1) x.signatures) (List.map (λp=>am.w p.2) x.signatures)
abbrev CKr.names_o(x:CKr):Ob:=.mp 176 58 (List.map (λp=>(λx=>V.agg [(V.int .i64 x.1),(V.str x.2)]) p.1) x.names) (List.map (λp=>ac.w p.2) x.names)
abbrev CKr.o(x:CKr)(i0 i1 i2 i3:Nat):Ob:=.var 60 [.row 4 (kidsV x.p),.row 5 (List.map ay.w x.targets),.sl i0,.sl i1,.int .i64 x.module,.sl i2,.sl i3,.int .i64 x.wanted_Module,.row 1 (List.map (V.int .i64) x.wanted_Path),.int .i64 x.result_simple,.int .i64 x.result_lists]
abbrev CKr.z(x:CKr)(M:List (Nat×Ob))(i:Nat):List (Nat×Ob):=(i+1,CKr.faults_o x)::(i,CKr.path_o x)::(M++[(2,CKr.signatures_o x),(1,CKr.names_o x),(0,CKr.o x 1 2 i (i+1))])
abbrev CKr.y(x:CKr)(i:Nat):List (Nat×Ob):=CKr.z x [] i
abbrev CKr.v(x:CKr)(u:V)(G:Hp):Prop:=u=.tup []∧G=⟨5,CKr.y x 3⟩
structure az where
 name:(List UInt8)
 typ:ac
abbrev az.c(x:az):List V:=[.str x.name,.int .i64 x.typ.simple,.int .i64 x.typ.lists]
abbrev vC(a0:Int)(a1:Int):Ob:=.var 58 [.int .i64 a0,.int .i64 a1]
def zD(p1:Int)(G:YI):Prop:=bv [] prog 137 [.nils,qi p1] ⟨0,[]⟩<|z8 (.sl 0) ⟨1,[(0,.row 3 1<|List.map (V.int .i64) G)]⟩
def hO(G:CKr)(p1:Int)(p2:Tree)(J:ac)(q0:CKr):Prop:=bv [] prog 93 [.ptr 0 0,qi p1,.agg<|ak p2] ⟨5,(CKr.y G 3)⟩<|z8 (.agg<|ac.c J) ⟨6,(CKr.y q0 3)⟩
def lV(G:CKr)(p1:Int)(p2:Tree)(J:am)(q0:CKr):Prop:=bv [] prog 53 [.ptr 0 0,qi p1,.agg<|ak p2] ⟨5,(CKr.y G 3)⟩<|z8 (.agg<|am.c J) ⟨6,(CKr.y q0 3)⟩
def fX(G:CKr)(p1:Tree)(p2:am)(q0:CKr):Prop:=bv [] prog 55 [.ptr 0 0,.agg<|ak p1,.agg<|am.c p2] ⟨5,(CKr.y G 3)⟩<|CKr.v q0
def bu(G:CKr)(p1:Tree)(p2:Int)(p3:List az)(J:ac)(q0:CKr):Prop:=bv [] prog 95 [.ptr 0 0,.agg<|ak p1,qi p2,.lk<|List.map az.c p3] ⟨5,(CKr.y G 3)⟩<|z8 (.agg<|ac.c J) ⟨6,(CKr.y q0 3)⟩
def iA(G:CKr)(p1:Tree)(p2:List az)(J:ac)(q0:CKr):Prop:=bv [] prog 135 [.ptr 0 0,.agg<|ak p1,.lk<|List.map az.c p2] ⟨5,(CKr.y G 3)⟩<|z8 (.agg<|ac.c J) ⟨6,(CKr.y q0 3)⟩
def mr(G:CKr)(p1:Tree)(p2:List az)(J:ac)(q0:CKr):Prop:=bv [] prog 166 [.ptr 0 0,.agg<|ak p1,.lk<|List.map az.c p2] ⟨5,(CKr.y G 3)⟩<|z8 (.agg<|ac.c J) ⟨6,(CKr.y q0 3)⟩
def rk(G:CKr)(p1:Tree)(p2:List az)(J:ac)(q0:CKr):Prop:=bv [] prog 167 [.ptr 0 0,.agg<|ak p1,.lk<|List.map az.c p2] ⟨5,(CKr.y G 3)⟩<|z8 (.agg<|ac.c J) ⟨6,(CKr.y q0 3)⟩
def jr(G:CKr)(p1:Tree)(p2:List az)(J:ac)(q0:CKr):Prop:=bv [] prog 168 [.ptr 0 0,.agg<|ak p1,.lk<|List.map az.c p2] ⟨5,(CKr.y G 3)⟩<|z8 (.agg<|ac.c J) ⟨6,(CKr.y q0 3)⟩
def ja(G:CKr)(p1:Tree)(p2:List az)(J:ac)(q0:CKr):Prop:=bv [] prog 169 [.ptr 0 0,.agg<|ak p1,.lk<|List.map az.c p2] ⟨5,(CKr.y G 3)⟩<|z8 (.agg<|ac.c J) ⟨6,(CKr.y q0 3)⟩
def mJ(G:CKr)(p1:(ac×ac))(J:ac)(q0:CKr):Prop:=bv [] prog 184 [.ptr 0 0,.agg [qi p1.1.simple,qi p1.1.lists,qi p1.2.simple,qi p1.2.lists]] ⟨5,(CKr.y G 3)⟩<|z8 (.agg<|ac.c J) ⟨6,(CKr.y q0 3)⟩
def cD(G p1:ac)(J:Bool):Prop:=qS 94 [.agg<|ac.c G,.agg<|ac.c p1]<|.bool J
def mH(G:YT)(J:Bool):Prop:=qS 22 [.row 4<|kidsV G]<|.bool J
def mj(G J:Tree)(O:Int):Prop:=qS 133 [.agg<|ak G]<|.tup [.agg<|ak J,qi O]
def sj(G:(List YI))(J:YI):Prop:=bv [] prog 98 [.row 1<|List.map (λl=>V.row 1<|List.map (V.int .i64) l) G] ⟨0,[]⟩<|z8 (.sl 0) ⟨1,[(0,.row 3 1<|List.map (V.int .i64) J)]⟩
def qQ(G p1:YI)(J:Bool):Prop:=bv [0] prog 136 [.sl 0,.row 1<|List.map (V.int .i64) p1] ⟨1,[(0,.row 3 1<|List.map (V.int .i64) G)]⟩<|z8 (.bool J) ⟨1,[(0,.row 3 1<|List.map (V.int .i64) G)]⟩
def xz(G:Tree)(p1:YI)(J:Tree)(O:Bool):Prop:=qS 50 [.agg<|ak G,.row 1<|List.map (V.int .i64) p1]<|.tup [.agg<|ak J,.bool O]
def aH(G:CKr)(p1:Int)(p2:YI)(q0:CKr):Prop:=bv [] prog 57 [.ptr 0 0,qi p1,.row 1<|List.map (V.int .i64) p2] ⟨5,(CKr.y G 3)⟩<|CKr.v q0
def jk(G:CKr)(J:ay)(q0:CKr):Prop:=bv [] prog 99 [.ptr 0 0] ⟨5,(CKr.y G 3)⟩<|z8 (.agg<|ay.c J) ⟨6,(CKr.y q0 3)⟩
def cZ(G:CKr)(p1:Int)(q0:CKr):Prop:=bv [] prog 54 [.ptr 0 0,qi p1] ⟨5,(CKr.y G 3)⟩<|CKr.v q0
def bc(G q0:CKr):Prop:=bv [] prog 59 [.ptr 0 0] ⟨5,(CKr.y G 3)⟩<|CKr.v q0
def dz(G:CKr)(p1:Tree)(p2:Int)(q0:CKr):Prop:=bv [] prog 58 [.ptr 0 0,.agg<|ak p1,qi p2] ⟨5,(CKr.y G 3)⟩<|CKr.v q0
def ju(G:CKr)(p1:Tree)(p2:List az)(J:ac)(q0:CKr):Prop:=bv [] prog 165 [.ptr 0 0,.agg<|ak p1,.lk<|List.map az.c p2] ⟨5,(CKr.y G 3)⟩<|z8 (.agg<|ac.c J) ⟨6,(CKr.y q0 3)⟩
theorem Ci(m:Nat)(G p1:ac)(J:Bool)(h:((G.simple≠0)->((p1.simple≠0)->(!(G.simple==p1.simple&&G.lists==p1.lists))=J)∧((p1.simple=0)->false=J))∧((G.simple=0)->false=J)):cD G p1 J:=by
 refine⟨I,I,?_⟩;refine qA 18 [] func94 λK O=>?_;refine gR 3 rfl<|gFP 0 rfl rfl rfl rfl<|gR 1 rfl<|gFP 1 rfl rfl rfl rfl<|gR 9 rfl<|qBhZ 8 7 rfl rfl rfl rfl h dY cO ?_ ?_<;>intro h;refine gR 5 rfl<|qBhZ 13 12 rfl rfl rfl rfl h dY cO ?_ ?_<;>intro h;refine gR 2 rfl<|gY (v:=.bool<|!(G.simple==p1.simple&&G.lists==p1.lists)) (DF (neg:=true) underlying58 (by kernel_rfl) (by kernel_rfl) (by decide) (by decide) rfl rfl (by kernel_rfl) (by kernel_rfl) rfl rfl qI qI qI qI (eI underlying3)<|eI underlying3) rfl rfl<|gR 5 rfl ?_;subst h;exact qN [.tmp 4];refine gR 8 I ?_;subst h;exact qN [.tmp 4];refine gR 13 I ?_;subst h;exact qN [.tmp 4]
def lH(m:Nat)(G:YT)(a:Nat)(J:Bool):Prop:=y4 m [] f22 (q9<|.bool J) (xG<|cB<|aj f22) [.blk 0,.seq<|xA<|aj f22] 20 [(5,.row 4<|kidsV G),(6,qi (G.length:Int)),(7,qi (a:Int))] ⟨0,[]⟩
theorem Bo(m:Nat)(p0:YT)(r0:Bool)(h:lH m p0 0 r0):mH p0 r0:=by
 refine⟨I,I,?_⟩;refine qA 20 [] func22 λK hK=>?_;exact gR 10 I<|gV 6 (qi (p0.length:Int)) I (aN<|aD _) I<|gLB 5 I (aD _) λa=>gR 4 I<|go_loop m<|qW hK h []
theorem tV(m:Nat)(J:YT)(a:Nat)(G:Bool)(h:y7 (a<J.length) (∃b,J[a]?=some b∧q3a b.kind 1 (false=G) (∃c,gs b c∧y9 c (false=G) (a+1<=9223372036854775807∧lH m J (a+1) G)))<|true=G):lH (m+1) J a G:=by
 refine qj λK Z U f=>?_;refine gR 6 rfl<|qXh 8 rfl rfl rfl h co cp ?_ ?_<;>intro O h;refine gR 7 I ?_;obtain⟨b,d,h⟩:=h;refine gY (aF (aq d) ah rfl rfl rfl rfl) rfl rfl<|gR 11 rfl<|qXhZ 14 13 rfl rfl rfl rfl h dY cO ?_ ?_<;>intro O h;refine gR 15 I<|go_xloopR<|gR 2 I ?_;subst h;exact qN [.tmp 2];refine gR 1 I ?_;obtain⟨c,e,h⟩:=h;refine qC0 e rfl<|gR 4 rfl<|qXh 18 rfl rfl rfl h bD bC ?_ ?_<;>intro O h;refine gR 9 I<|go_xloopR<|gR 2 I ?_;subst h;exact qN [.tmp 2];refine gR 5 I ?_;obtain⟨hb,h⟩:=h;exact gR 1 I<|gV 19 (qi ((a+1:Nat):Int)) I (ao (by omega)<|by omega) I<|gR 2 I<|go_xloop<|qW U h [];refine gR 3 I<|go_xloopE<|gR 8 I ?_;subst h;exact qN [.tmp 2]
def kQ(m:Nat)(a:Tree)(b:Nat)(G:Tree)(J:Int):Prop:=y4 m [] f133 (q9<|.tup [.agg<|ak G,qi J]) (xL<|cA<|xA<|aj f133) [.blk 0,.seq<|xF<|aj f133] 16 [(1,.ptr 0 0),(2,.ptr 1 0),(4,qi (b:Int))] ⟨2,[(1,vE 0 []),(0,.var 29<|ak a)]⟩
theorem wI(m:Nat)(p0 r0:Tree)(r1:Int)(h:kQ m p0 0 r0 r1):mj p0 r0 r1:=by
 refine⟨I,I,?_⟩;refine qA 16 [] func133 λK hK=>?_;exact gR 14 I<|go_loop m<|qW hK h [0,1]
theorem mY(m:Nat)(a:Tree)(b:Nat)(G:Tree)(J:Int)(h:q9a a.kind 8 (∃c,a.kids[0]?=some c∧b+1<=9223372036854775807∧kQ m c (b+1) G J)<|a=G∧(b:Int)=J):kQ (m+1) a b G J:=by
 refine qj λK U O e=>?_;refine gR 8 rfl<|qXe 7 rfl rfl rfl h ?_ ?_<;>intro Z h;refine gR 8 I ?_;obtain⟨c,d,h⟩:=h;refine gY (aF (aq d) ah I I I I) I I<|gR 6 I ?_;obtain⟨hb,h⟩:=h;exact gR 1 I<|gV 13 (qi ((b+1:Nat):Int)) I (ao (by omega)<|by omega) I<|gR 3 I<|go_xloop<|qW O h [0,1];refine gR 3 I<|go_xloopE<|gR 11 I ?_;obtain⟨rfl,rfl⟩:=h;exact go_sub (F':=(mkF 16 0 [(2,.ptr 0 0),(3,qi (b:Int))])) (H':=⟨1,[(0,vB a.kind a.text a.leads a.kids)]⟩) [1] [] I O pq2 (pqo1 I I) I<|qN [.cell 2 29,.tmp 3]
def qY(m:Nat)(G:(List YI))(a b:Nat)(J:YI):Prop:=y4 m [] f98 (z8 (.sl 0) ⟨1,[(0,.row 3 1<|List.map (V.int .i64) J)]⟩) (xK<|aj f98) [.blk 0,.seq<|xF<|aj f98] 36 [(0,.row 1<|List.map (λl=>V.row 1<|List.map (V.int .i64) l) G),(3,qi (a:Int)),(9,.row 1<|List.map (λl=>V.row 1<|List.map (V.int .i64) l) G),(10,qi (G.length:Int)),(11,qi (b:Int))] ⟨0,[]⟩
def rb(m:Nat)(G:(List YI))(a:YI)(b:Nat)(J:YI):Prop:=y4 m [] f98 (z8 (.sl 0) ⟨1,[(0,.row 3 1<|List.map (V.int .i64) J)]⟩) (xG<|xI<|aj f98) [.blk 2,.seq<|xA<|xF<|aj f98] 36 [(6,.sl 0),(25,.row 1<|List.map (λl=>V.row 1<|List.map (V.int .i64) l) G),(26,qi (G.length:Int)),(27,qi (b:Int))] ⟨1,[(0,.row 3 1<|List.map (V.int .i64) a)]⟩
theorem BI(m:Nat)(p0:(List YI))(r0:YI)(h:qY m p0 0 0 r0):sj p0 r0:=by
 refine qA 36 [] func98 λK hK=>?_;exact gR 15 I<|gV 10 (qi (p0.length:Int)) I (aN<|aB (λl=>V.row 1<|List.map (V.int .i64) l) _) I<|gLB 9 I (aB (λl=>V.row 1<|List.map (V.int .i64) l) _) λa=>gR 4 I<|go_loop m<|qW hK h []
theorem pQ(m:Nat)(p0:(List YI))(b c:Nat)(r0:YI)(h:y7 (c<p0.length) (∃a,p0[c]?=some a∧b+a.length<=9223372036854775807∧y7 (((b+a.length:Nat):Int)<0) False (c+1<=9223372036854775807∧qY m p0 (b+a.length) (c+1) r0))<|∃d,zD (b:Int) d∧rb m p0 d 0 r0):qY (m+1) p0 b c r0:=by
 refine qj λK j1 hK k=>?_;refine gR 6 rfl<|qXh 12 rfl rfl rfl h co cp ?_ ?_<;>intro hd h;refine gR 7 I ?_;obtain⟨a,e,h⟩:=h;refine gY (aF (ax (f:=(λl=>V.row 1<|List.map (V.int .i64) l)) e) ah I I I I) I I<|gR 9 I<|gV 17 (qi (a.length:Int)) I (aN<|aB (V.int .i64) _) I<|gLB 16 I (aB (V.int .i64) _) λi=>?_;obtain⟨hb,h⟩:=h;refine gR 1 rfl<|gV 18 (qi ((b+a.length:Nat):Int)) rfl (ao (by omega)<|by omega) rfl<|gR 9 rfl<|qXd 20 rfl rfl rfl h ?_ ?_<;>intro hd h;exact h.elim;refine gR 5 I ?_;obtain⟨hb,h⟩:=h;exact gR 1 I<|gV 22 (qi ((c+1:Nat):Int)) I (ao (by omega)<|by omega) I<|gR 2 I<|go_xloop<|qW hK h [];refine gR 3 I<|go_xloopE<|gR 5 I ?_;obtain⟨d,g,h⟩:=h;refine qC g [] ?_;exact gHR 0 (List.map (V.int .i64) d) I (vG _ d) I<|gR 8 I<|gV 26 (qi (p0.length:Int)) I (aN<|aB (λl=>V.row 1<|List.map (V.int .i64) l) _) I<|gLB 25 I (aB (λl=>V.row 1<|List.map (V.int .i64) l) _) λj=>gR 4 I<|go_loop m<|qW hK h [0]
theorem pO(m:Nat)(G:(List YI))(b:YI)(a:Nat)(J:YI)(h:y7 (a<G.length) (∃c,G[a]?=some c∧(b++c).length<=1000000000∧a+1<=9223372036854775807∧rb m G (b++c) (a+1) J)<|b=J):rb (m+1) G b a J:=by
 refine qj λK U O e=>?_;refine gR 6 rfl<|qXh 28 rfl rfl rfl h co cp ?_ ?_<;>intro Z h;refine gR 7 I ?_;obtain⟨c,d,h⟩:=h;refine gY (aF (ax (f:=(λl=>V.row 1<|List.map (V.int .i64) l)) d) ah I I I I) I I<|gR 7 I ?_;obtain⟨hb,h⟩:=h;refine gDo (.repl 0<|.row 3 1<|List.map (V.int .i64)<|b++c) (bx ah I I I I I (aax (f:=(V.int .i64)) (l₁:=b) (l₂:=c)).symm (by rw[aB];exact hb)) (okR I) I I I<|gR 5 I ?_;obtain⟨hb,h⟩:=h;exact gR 1 I<|gV 34 (qi ((a+1:Nat):Int)) I (ao (by omega)<|by omega) I<|gR 2 I<|go_xloop<|qW O h [1];refine gR 3 I<|go_xloopE<|gR 9 I ?_;subst h;exact gE O [] [(2,.sl 0)] [0] [.tmp 2]
def lM(m:Nat)(G p1:YI)(a:Nat)(J:Bool):Prop:=y4 m [0] f136 (z8 (.bool J) ⟨1,[(0,.row 3 1<|List.map (V.int .i64) G)]⟩) (xK<|aj f136) [.blk 0,.seq<|xF<|aj f136] 26 [(0,.sl 0),(1,.row 1<|List.map (V.int .i64) p1),(12,qi (G.length:Int)),(13,qi (a:Int))] ⟨1,[(0,.row 3 1<|List.map (V.int .i64) G)]⟩
theorem uF(m:Nat)(p0 p1:YI)(r0:Bool)(h:q3a p0.length p1.length (false=r0)<|lM m p0 p1 0 r0):qQ p0 p1 r0:=by
 refine qA 26 [0] func136 λK hK=>?_;refine gR 10 rfl<|gV 7 (qi (p0.length:Int)) rfl (aN<|aB (V.int .i64) _) rfl<|gLO 0 rfl (aB (V.int .i64) _) λa=>gR 2 rfl<|gV 9 (qi (p1.length:Int)) rfl (aN<|aB (V.int .i64) _) rfl<|gLB 8 rfl (aB (V.int .i64) _) λb=>gR 3 rfl<|qXh 10 rfl rfl rfl h GL Fl ?_ ?_<;>intro hd h;refine gR 8 I ?_;subst h;exact gE hK [] [(4,.bool false)] [0] [.tmp 4];exact gR 8 I<|gV 12 (qi (p0.length:Int)) I (aN<|aB (V.int .i64) _) I<|gR 4 I<|go_loop m<|qW hK h [0]
theorem tW(m:Nat)(G p1:YI)(a:Nat)(J:Bool)(h:y7 (a<G.length) (∃b,G[a]?=some b∧∃c,p1[a]?=some c∧q3a b c (false=J) (a+1<=9223372036854775807∧lM m G p1 (a+1) J))<|true=J):lM (m+1) G p1 a J:=by
 refine qj λK Z O g=>?_;refine gR 6 rfl<|qXh 14 rfl rfl rfl h co cp ?_ ?_<;>intro U h;refine gR 12 I<|qDs [0] 8 9<|qDr [(0,2),(1,2)] I I ?_;obtain⟨b,d,h⟩:=h;refine gYd 2 I (by kernel_rfl) (yIO ah I I I I<|qG<|ax (f:=(V.int .i64)) d) I I ?_;refine xr 3 I (by kernel_rfl) I ah I I I (ax (f:=(V.int .i64)) d) I I ?_;refine qDr [(4,2),(5,0)] I I ?_;obtain⟨c,e,h⟩:=h;refine bQ 6 I (by kernel_rfl) (aF (ax (f:=(V.int .i64)) e) ah I I I I) I I ?_;refine qDr [(7,0),(8,1)] rfl rfl<|qDe<|gR 1 rfl<|qXh 24 rfl rfl rfl h dY cO ?_ ?_<;>intro U h;refine gR 9 I<|go_xloopR<|gR 2 I ?_;subst h;exact gE O [] [(4,.bool false)] [0] [.tmp 4];refine gR 5 I ?_;obtain⟨hb,h⟩:=h;exact gR 1 I<|gV 25 (qi ((a+1:Nat):Int)) I (ao (by omega)<|by omega) I<|gR 2 I<|go_xloop<|qW O h [0];refine gR 3 I<|go_xloopE<|gR 8 I ?_;subst h;exact gE O [] [(4,.bool true)] [0] [.tmp 4]
def sk(m:Nat)(p1:YI)(a:Tree)(b:Nat)(G:Tree)(J:Bool):Prop:=y4 m [] f50 (q9<|.tup [.agg<|ak G,.bool J]) (xG<|cB<|aj f50) [.blk 0,.seq<|xA<|aj f50] 31 [(2,.ptr 0 0),(4,.ptr 1 0),(8,.row 1<|List.map (V.int .i64) p1),(9,qi (p1.length:Int)),(10,qi (b:Int))] ⟨2,[(1,vE 0 []),(0,.var 29<|ak a)]⟩
theorem FH(m:Nat)(p0:Tree)(p1:YI)(r0:Tree)(r1:Bool)(h:sk m p1 p0 0 r0 r1):xz p0 p1 r0 r1:=by
 refine⟨I,I,?_⟩;refine qA 31 [] func50 λK hK=>?_;exact gR 12 I<|gV 9 (qi (p1.length:Int)) I (aN<|aB (V.int .i64) _) I<|gLB 8 I (aB (V.int .i64) _) λa=>gR 4 I<|go_loop m<|qW hK h [0,1]
theorem zC(m:Nat)(p1:YI)(a:Tree)(b:Nat)(G:Tree)(J:Bool)(h:y7 (b<p1.length) (∃c,p1[b]?=some c∧y7 (c<0) ((Tree.node 0 [] [] [])=G∧false=J) (y7 ((a.kids.length:Int)<=c) ((Tree.node 0 [] [] [])=G∧false=J) (∃d,c=((d:Nat):Int)∧∃e,a.kids[d]?=some e∧b+1<=9223372036854775807∧sk m p1 e (b+1) G J)))<|a=G∧true=J):sk (m+1) p1 a b G J:=by
 refine qj λK Z O k=>?_;refine gR 6 rfl<|qXh 11 rfl rfl rfl h co cp ?_ ?_<;>intro U h;refine gR 7 I ?_;obtain⟨c,g,h⟩:=h;refine gY (aF (ax (f:=(V.int .i64)) g) ah rfl rfl rfl rfl) rfl rfl<|gR 10 rfl<|qXdZ 16 15 rfl rfl rfl rfl h ?_ ?_<;>intro U h;refine gR 20 I<|go_xloopR<|gR 2 I ?_;obtain⟨rfl,rfl⟩:=h;exact go_sub (F':=(mkF 31 0 [(4,.ptr 0 0),(5,.bool false)])) (H':=⟨1,[(0,vB ((Tree.node 0 [] [] []).kind) ((Tree.node 0 [] [] []).text) ((Tree.node 0 [] [] []).leads)<|(Tree.node 0 [] [] []).kids)]⟩) [1] [] I O pq2 ⟨⟨_,I,I,(.cons .rfl<|.cons .rfl<|.cons (.nil 1)<|.cons (.nil 4) .nil)⟩,trivial⟩ I<|qN [.cell 4 29,.tmp 5];refine gR 4 rfl<|gV 20 (qi (a.kids.length:Int)) rfl (aN<|aD _) rfl<|gLB 19 rfl (aD _) λl=>gR 4 rfl<|qXd 22 rfl rfl rfl h ?_ ?_<;>intro U h;refine gR 12 I<|go_xloopR<|gR 2 I ?_;obtain⟨rfl,rfl⟩:=h;exact go_sub (F':=(mkF 31 0 [(4,.ptr 0 0),(5,.bool false)])) (H':=⟨1,[(0,vB ((Tree.node 0 [] [] []).kind) ((Tree.node 0 [] [] []).text) ((Tree.node 0 [] [] []).leads)<|(Tree.node 0 [] [] []).kids)]⟩) [1] [] I O pq2 ⟨⟨_,I,I,(.cons .rfl<|.cons .rfl<|.cons (.nil 1)<|.cons (.nil 4) .nil)⟩,trivial⟩ I<|qN [.cell 4 29,.tmp 5];refine gR 7 I ?_;obtain⟨d,j,h⟩:=h;refine gV 26 (qi ((d:Nat):Int)) I (aT j) I ?_;obtain⟨e,i,h⟩:=h;refine gY (aF (aq i) ah I I I I) I I<|gR 6 I ?_;obtain⟨hb,h⟩:=h;exact gR 1 I<|gV 29 (qi ((b+1:Nat):Int)) I (ao (by omega)<|by omega) I<|gR 2 I<|go_xloop<|qW O h [0,1];refine gR 3 I<|go_xloopE<|gR 10 I ?_;obtain⟨rfl,rfl⟩:=h;exact go_sub (F':=(mkF 31 0 [(4,.ptr 0 0),(5,.bool true)])) (H':=⟨1,[(0,vB a.kind a.text a.leads a.kids)]⟩) [1] [] I O pq2 (pqo1 I I) I<|qN [.cell 4 29,.tmp 5]
theorem rS_typing_checker_fault(m:Nat)(G:CKr)(p1:Int)(p2:YI)(q0:CKr)(h:∃a,sj [G.path,p2] a∧(G.faults++[(ai.mk (cv.mk G.module a) p1)]).length<=1000000000∧{G with faults:=(G.faults++[(ai.mk (cv.mk G.module a) p1)])}=q0):aH G p1 p2 q0:=by
 refine qA 31 [2,1,0] func57 λK J=>?_;refine gR 8 I ?_;obtain⟨a,b,h⟩:=h;refine UI 5 b (by kernel_rfl) I I I I I (fi _ (λ_=>I) _) I I ?_;refine gR 3 I<|qDs [0] 17 18<|qDr (qR 0 4 2<|(4,3)::(qR 5 3 2 [(8,3),(9,2),(10,2),(11,0),(12,0)])) I I<|gFR 6 I (fi _ (λ_=>I) _) I I<|qDr [(13,0)] I I ?_;obtain⟨hb,h⟩:=h;refine bj 14 (.repl 4<|.row 47 3<|List.map ai.w<|G.faults++[(ai.mk (cv.mk G.module a) p1)]) I (by kernel_rfl) (bx ah I I I I I (apM ai.w G.faults<|ai.mk (cv.mk G.module a) p1) (by rw[aB];exact hb)) (okR I) I (by kernel_rfl) I I ?_;refine qDr [(15,0),(16,0),(17,1)] I I<|qDe ?_;subst h;exact gE J [] [] [0,1,2,3,8] []
theorem yB(m:Nat)(G:CKr)(J:ay)(q0:CKr)(h:∃a,G.targets[0]?=some a∧1<=G.targets.length∧a=J∧{G with targets:=(G.targets.drop 1)}=q0):jk G J q0:=by
 refine qA 19 [2,1,0] func99 λK O=>?_;refine gR 11 I ?_;obtain⟨a,b,h⟩:=h;refine gY (aF (ax (f:=ay.w) b) ah I I I I) I I<|gR 12 I ?_;obtain⟨hb,h⟩:=h;refine gY (NT (aB ay.w G.targets) ah I I (Cp I) BW hb (aaf _)<|(Ub _ _ _ _).trans<|congrArg _<|BK _ _) I I<|gR 12 I ?_;obtain⟨rfl,rfl⟩:=h;exact gE O [(5,.var 151<|ay.c a)] [(2,.ptr 5 0)] [0,1,2,3,4,5] [.cell 2 151]
theorem wq(m:Nat)(G:CKr)(p1:Int)(q0:CKr)(h:(G.path++[p1]).length<=1000000000∧{G with path:=(G.path++[p1])}=q0):cZ G p1 q0:=by
 refine qA 14 [2,1,0] func54 λK J=>?_;refine gR 8 I ?_;obtain⟨hb,h⟩:=h;refine gDo (.repl 3<|.row 3 1<|List.map (V.int .i64)<|G.path++[p1]) (bx ah I I I I I (apM (V.int .i64) G.path p1) (by rw[aB];exact hb)) (okR I) I I I<|gR 4 I ?_;subst h;exact gE J [] [] [0,1,2,6,4] []
theorem wh(m:Nat)(G q0:CKr)(h:∃a,((G.path.length:Int)-1)=((a:Nat):Int)∧a<=G.path.length∧{G with path:=(G.path.take a)}=q0):bc G q0:=by
 refine qA 16 [2,1,0] func59 λK J=>?_;refine qDs [0] 14 15<|qDr (qR 0 4 2<|(4,3)::(qR 5 5 0 [])) I I<|gV 11 (qi (G.path.length:Int)) I (aN<|aB (V.int .i64) _) I<|gLO 3 I (aB (V.int .i64) _) λc=>qDr [(10,0)] I I<|gV 12 (qi<|(G.path.length:Int)-1) I (ao (by have :=c;omega) I) I ?_;obtain⟨a,b,h⟩:=h;refine gV 12 (qi ((a:Nat):Int)) I (aT b) I ?_;obtain⟨hb,h⟩:=h;refine bj 11 (.repl 3<|.row 3 1<|List.map (V.int .i64)<|G.path.take a) I (by kernel_rfl) (dTr ah I I I I (by rw[aB];exact hb)<|OU _ _ _) (okR I) I (by kernel_rfl) I I ?_;refine qDr [(12,0),(13,0),(14,1)] I I<|qDe ?_;subst h;exact gE J [] [] [0,1,2,5,4] []
theorem iP(m:Nat)(J:CKr)(p1:Tree)(p2:Int)(q0:CKr)(h:∃d,cZ J p2 d∧∃k,p2=((k:Nat):Int)∧∃a,p1.kids[k]?=some a∧q9a a.kind 9 (∃l e,jk d l e∧y8 l.Free (∃f,aH e 1 [] f∧∃g,bc f g∧g=q0) (∃i,bc e i∧i=q0)) (q9a a.kind 8 (∃j,dz d a 0 j∧∃b,bc j b∧b=q0)<|∃c,bc d c∧c=q0)):dz J p1 p2 q0:=by
 refine qA 31 [2,1,0] func58 λK G=>?_;refine gR 3 I<|gFP 5 I I I I<|gR 6 I ?_;obtain⟨d,y,h⟩:=h;refine qC y [0,1,2,3,4] ?_;refine qHX ⟨11,(CKr.y d 9)⟩<|gR 7 I ?_;obtain⟨k,p,h⟩:=h;refine gV 12 (qi ((k:Nat):Int)) I (aT p) I ?_;obtain⟨a,n,h⟩:=h;refine gY (aF (aq n) ah rfl rfl rfl rfl) rfl rfl<|gR 19 rfl<|qBeZ 17 18 rfl rfl rfl rfl h ?_ ?_<;>intro h;refine gR 4 I ?_;obtain⟨l,e,q,h⟩:=h;refine qC q [0,1,2,9,10] ?_;refine qHX ⟨18,(CKr.z e [(11,.var 29<|ak a)] 15)⟩<|gR 3 rfl<|qBi 21 rfl rfl rfl h ?_ ?_<;>intro h;refine gR 3 I ?_;obtain⟨f,r,h⟩:=h;refine qC r [0,1,2,15,16] (hs:=(.cons .rfl<|.cons .rfl<|.cons (.nil 1) .nil)) ?_;refine qHX ⟨23,(CKr.z f [(11,.var 29<|ak a)] 21)⟩<|gR 5 I ?_;obtain⟨g,s,h⟩:=h;refine qC s [0,1,2,21,22] ?_;refine qHX ⟨28,(CKr.z g [(11,.var 29<|ak a)] 26)⟩<|gR 1 I ?_;subst h;exact gE G [] [] [0,1,2,26,27] [];refine gR 6 I ?_;obtain⟨i,t,h⟩:=h;refine qC t [0,1,2,15,16] ?_;refine qHX ⟨23,(CKr.z i [(11,.var 29<|ak a)] 21)⟩<|gR 1 I ?_;subst h;exact gE G [] [] [0,1,2,21,22] [];refine gR 7 rfl<|qBeZ 24 25 rfl rfl rfl rfl h ?_ ?_<;>intro h;refine gR 4 I ?_;obtain⟨j,v,h⟩:=h;refine qC v [0,1,2,9,10] ?_;refine qHX ⟨17,(CKr.z j [(11,.var 29<|ak a)] 15)⟩<|gR 5 I ?_;obtain⟨b,w,h⟩:=h;refine qC w [0,1,2,15,16] ?_;refine qHX ⟨22,(CKr.z b [(11,.var 29<|ak a)] 20)⟩<|gR 1 I ?_;subst h;exact gE G [] [] [0,1,2,20,21] [];refine gR 6 I ?_;obtain⟨c,x,h⟩:=h;refine qC x [0,1,2,9,10] ?_;refine qHX ⟨17,(CKr.z c [(11,.var 29<|ak a)] 15)⟩<|gR 1 I ?_;subst h;exact gE G [] [] [0,1,2,15,16] []
def fC(m:Nat)(G:CKr)(p1:Tree)(a:List az)(J:ac)(q0:CKr):Prop:=y4 m [2,1,0] f165 (z8 (.agg<|ac.c J) ⟨6,(CKr.y q0 3)⟩) (xG<|cB<|aj f165) [.blk 0,.seq<|xA<|aj f165] 29 [(0,.ptr 0 0),(4,.box (ak p1) 0),(6,.ptr 3 0),(7,.lk<|List.map az.c a)] ⟨6,(CKr.z G [(3,vC 0 0)] 4)⟩
theorem rS_typing_checker_variable(m:Nat)(p0:CKr)(p1:Tree)(p2:List az)(r0:ac)(q0:CKr)(h:fC m p0 p1 p2 r0 q0):ju p0 p1 p2 r0 q0:=by
 refine qA 29 [2,1,0] func165 λK hK=>?_;exact gR 3 I<|gFP 5 I I I I<|gR 11 I<|go_loop m<|qW hK h [0,1,2,6,3,4]
theorem mC(m:Nat)(G:CKr)(p1:Tree)(e:List az)(J:ac)(q0:CKr)(h:((e=[])->∃b,aH G 1 [] b∧(ac.mk 0 0)=J∧b=q0)∧(∀(a:az) (d:List az),e=a::d->q9a a.name p1.text (a.typ=J∧G=q0) (fC m G p1 d J q0))):fC (m+1) G p1 e J q0:=by
 refine qj λK U O g=>?_;refine gR 4 I ?_;rcases e with _|⟨a,d⟩
 replace h:=h.1 rfl;refine gS 7 (.nilp) I SR I<|gS 9 (.nilp) I SR I<|gY (Ud underlying138 I) I I<|gR 5 I<|go_xloopE<|gR 5 I ?_;obtain⟨b,f,h⟩:=h;refine qC f [0,1,2,4,5] (hs:=(.cons .rfl<|.cons .rfl<|.cons (.nil 1) .nil)) ?_;refine qHX ⟨11,(CKr.z b [(3,vC 0 0)] 9)⟩<|gR 9 I ?_;obtain⟨rfl,rfl⟩:=h;exact gE O [(5,.var 58<|ac.c<|ac.mk 0 0)] [(6,.ptr 5 0)] [0,1,2,9,10,3] [.cell 6 58];replace h:=h.2 a d rfl;refine gS 7 (.box [.str a.name,qi a.typ.simple,qi a.typ.lists,.lk<|List.map az.c d] 0) rfl (St rfl) rfl<|gS 9 (.box [.str a.name,qi a.typ.simple,qi a.typ.lists,.lk<|List.map az.c d] 0) rfl (St rfl) rfl<|gY (Ui underlying138 rfl) rfl rfl<|gR 8 rfl<|qDs [] 7 7<|qDr (qR 0 4 2<|qR 4 3 0 []) rfl rfl<|qDe<|gR 1 rfl<|qXe 21 rfl rfl rfl h ?_ ?_<;>intro Z h;refine gR 13 I<|go_xloopR<|gR 2 I ?_;obtain⟨rfl,rfl⟩:=h;exact gE O [(5,.var 58<|ac.c a.typ)] [(6,.ptr 5 0)] [0,1,2,4,5,3] [.cell 6 58];exact gR 11 I<|go_xloop<|qW O h [0,1,2,3,4,5]
theorem lR(m:Nat)(O:CKr)(p1:Tree)(p2:Int)(p3:List az)(G:ac)(q0:CKr)(h:∃d,cZ O p2 d∧∃i,p2=((i:Nat):Int)∧∃k,p1.kids[i]?=some k∧∃b a,iA d k p3 b a∧q9a a.module a.wanted_Module (∃j,qQ a.path a.wanted_Path j∧y8 j (∃e,bc ({a with result_simple:=b.simple,result_lists:=b.lists}) e∧b=G∧e=q0) (∃f,bc a f∧b=G∧f=q0)) (∃g,bc a g∧b=G∧g=q0)):bu O p1 p2 p3 G q0:=by
 refine qA 50 [2,1,0] func95 λK J=>?_;refine gR 3 I<|gFP 5 I I I I<|gR 7 I ?_;obtain⟨d,s,h⟩:=h;refine qC s [0,1,2,3,4] ?_;refine qHX ⟨12,(CKr.z d [(6,vC 0 0)] 10)⟩<|gR 8 I ?_;obtain⟨i,n,h⟩:=h;refine gV 16 (qi ((i:Nat):Int)) I (aT n) I ?_;obtain⟨k,l,h⟩:=h;refine gY (aF (aq l) ah I I I I) I I<|gR 2 I ?_;obtain⟨b,a,t,h⟩:=h;refine qC t [0,1,2,10,11] ?_;refine qHX ⟨18,(CKr.z a [(6,vC 0 0)] 15)⟩<|gR 6 rfl<|qDs [0] 22 22<|qDr (qR 0 3 2<|(3,3)::(qR 4 7 0 [])) rfl rfl<|qBeZ 31 30 rfl rfl rfl rfl h ?_ ?_<;>intro h;refine qDr (qR 11 3 2<|(14,3)::(qR 15 5 0 [])) I I ?_;obtain⟨j,v,h⟩:=h;refine qDC 20 v [15] I ?_;refine qHX ⟨20,((18,.var 58<|ac.c b)::CKr.z a [(6,vC 0 0)] 15)⟩<|qDr [(21,0)] rfl rfl<|qDe<|gR 1 rfl<|qBi 42 rfl rfl rfl h ?_ ?_<;>intro h;refine gR 9 I<|go_sub (F':=(mkF 50 0 [(0,.ptr 0 0),(8,.ptr 3 0),(9,.ptr 4 0)])) (H':=⟨7,[(6,CKr.faults_o a),(5,CKr.path_o a),(4,.var 58<|ac.c b),(3,vC 0 0),(2,CKr.signatures_o a),(1,CKr.names_o a),(0,CKr.o {a with result_simple:=b.simple,result_lists:=b.lists} 1 2 5 6)]⟩) [0,1,2,6,18,15,16] [2,1,0] I J pq3 ⟨⟨_,I,I,I,(vH _ a.faults).symm⟩,⟨_,I,I,I,(vG _ a.path).symm⟩,pqo I I,pqo I I,⟨_,I,I,I,I,I⟩,⟨_,I,I,I,I,I⟩,(pqo1 I I)⟩ I<|gR 3 I ?_;obtain⟨e,p,h⟩:=h;refine qC p [0,1,2,5,6] ?_;refine qHX ⟨12,(CKr.z e [(4,.var 58<|ac.c b),(3,vC 0 0)] 10)⟩<|gR 9 I ?_;obtain⟨rfl,rfl⟩:=h;exact gE J [(5,.var 58<|ac.c b)] [(8,.ptr 5 0)] [0,1,2,10,11,3] [.cell 8 58];refine gR 6 I ?_;obtain⟨f,q,h⟩:=h;refine qC q [0,1,2,15,16] ?_;refine qHX ⟨25,(CKr.z f [(18,.var 58<|ac.c b),(6,vC 0 0)] 23)⟩<|gR 9 I ?_;obtain⟨rfl,rfl⟩:=h;exact gE J [(5,.var 58<|ac.c b)] [(8,.ptr 5 0)] [0,1,2,23,24,6] [.cell 8 58];refine qDr (qR 11 4 2<|qR 15 7 0 []) I I<|qDe<|gR 7 I ?_;obtain⟨g,r,h⟩:=h;refine qC r [0,1,2,15,16] ?_;refine qHX ⟨24,(CKr.z g [(18,.var 58<|ac.c b),(6,vC 0 0)] 22)⟩<|gR 9 I ?_;obtain⟨rfl,rfl⟩:=h;exact gE J [(5,.var 58<|ac.c b)] [(8,.ptr 5 0)] [0,1,2,22,23,6] [.cell 8 58]
def eP(m:Nat)(G:CKr)(p1:Tree)(p2:List az)(a:Bool)(J:ac)(q0:CKr):Prop:=y5 [2,1,0] f135 (z8 (.agg<|ac.c J) ⟨6,(CKr.y q0 3)⟩) (cB<|xC<|xE<|cB<|aj f135) [.blk 0,.seq<|xA<|aj f135] 72 [(0,.ptr 0 0),(2,.lk<|List.map az.c p2),(4,.box (ak p1) 0),(6,.ptr 3 0),(9,qi p1.kind),(16,.bool a)] ⟨6,(CKr.z G [(3,vC 0 0)] 4)⟩
theorem il(m:Nat)(J:CKr)(p1:Tree)(p2:List az)(O:ac)(q0:CKr)(h:q9a p1.kind 10 ((ac.mk 5 0)=O∧J=q0)<|q9a p1.kind 11 ((ac.mk 6 0)=O∧J=q0)<|q9a p1.kind 13 (eP m J p1 p2 true O q0)<|eP m J p1 p2 (p1.kind==14) O q0):iA J p1 p2 O q0:=by
 refine qA 72 [2,1,0] func135 λK G=>?_;refine gR 3 rfl<|gFP 5 rfl rfl rfl rfl<|gR 17 rfl<|qBeZ 10 11 rfl rfl rfl rfl h ?_ ?_<;>intro h;refine gR 10 I ?_;obtain⟨rfl,rfl⟩:=h;exact gE G [(5,.var 58<|ac.c<|ac.mk 5 0)] [(6,.ptr 5 0)] [0,1,2,3,4,6] [.cell 6 58];refine gR 7 rfl<|qBeZ 13 14 rfl rfl rfl rfl h ?_ ?_<;>intro h;refine gR 10 I ?_;obtain⟨rfl,rfl⟩:=h;exact gE G [(5,.var 58<|ac.c<|ac.mk 6 0)] [(6,.ptr 5 0)] [0,1,2,3,4,6] [.cell 6 58];refine gR 8 rfl<|qBeZ 16 17 rfl rfl rfl rfl h ?_ ?_<;>intro h;exact gR 3 I<|qJ G (h K G) [0,1,2,6,3,4];exact gR 6 I<|qJ G (h K G) [0,1,2,6,3,4]
theorem bp(m:Nat)(G:CKr)(p1:Tree)(p2:List az)(v:Bool)(J:ac)(q0:CKr)(h:y8 v ((ac.mk 7 0)=J∧G=q0)<|q9a p1.kind 12 (∃p f,ju G p1 p2 p f∧p=J∧f=q0)<|q9a p1.kind 16 (∃q g,mr G p1 p2 q g∧q=J∧g=q0)<|q9a p1.kind 18 (∃r i,rk G p1 p2 r i∧r=J∧i=q0)<|q9a p1.kind 19 (∃s j,jr G p1 p2 s j∧s=J∧j=q0)<|q9a p1.kind 20 (∃t a,bu G p1 0 p2 t a∧∃k b,bu a p1 1 (az.mk p1.text t::p2) k b∧k=J∧b=q0)<|q9a p1.kind 21 (∃l d,ja G p1 p2 l d∧l=J∧d=q0)<|q9a p1.kind 22 (∃n e,bu G p1 0 p2 n e∧n=J∧e=q0)<|(ac.mk 0 0)=J∧G=q0):eP (m+1) G p1 p2 v J q0:=by
 intro K O;refine qBi 16 rfl rfl rfl h ?_ ?_<;>intro h;refine gR 10 I ?_;obtain⟨rfl,rfl⟩:=h;exact gE O [(5,.var 58 (ac.c (ac.mk 7 0)))] [(6,.ptr 5 0)] [0,1,2,4,5,3] [.cell 6 58];refine gR 7 rfl<|qBeZ 20 21 rfl rfl rfl rfl h ?_ ?_<;>intro h;refine gR 6 I ?_;obtain⟨p,f,w,h⟩:=h;refine qC w [0,1,2,4,5] ?_;refine qHX ⟨12,(CKr.z f [(3,vC 0 0)] 9)⟩<|gR 6 I ?_;obtain⟨rfl,rfl⟩:=h;exact gE O [(5,.var 58 (ac.c p))] [(6,.ptr 5 0)] [0,1,2,9,10,3] [.cell 6 58];refine gR 7 rfl<|qBeZ 26 27 rfl rfl rfl rfl h ?_ ?_<;>intro h;refine gR 6 I ?_;obtain⟨q,g,x,h⟩:=h;refine qC x [0,1,2,4,5] ?_;refine qHX ⟨12,(CKr.z g [(3,vC 0 0)] 9)⟩<|gR 6 I ?_;obtain⟨rfl,rfl⟩:=h;exact gE O [(5,.var 58 (ac.c q))] [(6,.ptr 5 0)] [0,1,2,9,10,3] [.cell 6 58];refine gR 7 rfl<|qBeZ 32 33 rfl rfl rfl rfl h ?_ ?_<;>intro h;refine gR 6 I ?_;obtain⟨r,i,y,h⟩:=h;refine qC y [0,1,2,4,5] ?_;refine qHX ⟨12,(CKr.z i [(3,vC 0 0)] 9)⟩<|gR 6 I ?_;obtain⟨rfl,rfl⟩:=h;exact gE O [(5,.var 58 (ac.c r))] [(6,.ptr 5 0)] [0,1,2,9,10,3] [.cell 6 58];refine gR 7 rfl<|qBeZ 38 39 rfl rfl rfl rfl h ?_ ?_<;>intro h;refine gR 6 I ?_;obtain⟨s,j,z,h⟩:=h;refine qC z [0,1,2,4,5] ?_;refine qHX ⟨12,(CKr.z j [(3,vC 0 0)] 9)⟩<|gR 6 I ?_;obtain⟨rfl,rfl⟩:=h;exact gE O [(5,.var 58 (ac.c s))] [(6,.ptr 5 0)] [0,1,2,9,10,3] [.cell 6 58];refine gR 7 rfl<|qBeZ 44 45 rfl rfl rfl rfl h ?_ ?_<;>intro h;refine gR 6 I ?_;obtain⟨t,a,α,h⟩:=h;refine qC α [0,1,2,4,5] ?_;refine qHX ⟨12,(CKr.z a [(3,vC 0 0)] 9)⟩<|gR 14 I<|gFP 13 I I I I ?_;obtain⟨k,b,β,h⟩:=h;refine qC β [0,1,2,9,10] (hs:=(.cons .rfl (.cons .rfl (.cons .rfl (.cons (lkC I) .nil))))) ?_;refine qHX ⟨20,(CKr.z b [(12,.var 58 (ac.c t)),(3,vC 0 0)] 17)⟩<|gR 6 I ?_;obtain⟨rfl,rfl⟩:=h;exact gE O [(5,.var 58 (ac.c k))] [(6,.ptr 5 0)] [0,1,2,17,18,3] [.cell 6 58];refine gR 7 rfl<|qBeZ 59 60 rfl rfl rfl rfl h ?_ ?_<;>intro h;refine gR 6 I ?_;obtain⟨l,d,γ,h⟩:=h;refine qC γ [0,1,2,4,5] ?_;refine qHX ⟨12,(CKr.z d [(3,vC 0 0)] 9)⟩<|gR 6 I ?_;obtain⟨rfl,rfl⟩:=h;exact gE O [(5,.var 58 (ac.c l))] [(6,.ptr 5 0)] [0,1,2,9,10,3] [.cell 6 58];refine gR 7 rfl<|qBeZ 65 66 rfl rfl rfl rfl h ?_ ?_<;>intro h;refine gR 6 I ?_;obtain⟨n,e,δ,h⟩:=h;refine qC δ [0,1,2,4,5] ?_;refine qHX ⟨12,(CKr.z e [(3,vC 0 0)] 9)⟩<|gR 6 I ?_;obtain⟨rfl,rfl⟩:=h;exact gE O [(5,.var 58 (ac.c n))] [(6,.ptr 5 0)] [0,1,2,9,10,3] [.cell 6 58];refine gR 11 I ?_;obtain⟨rfl,rfl⟩:=h;exact gE O [(5,.var 58 (ac.c (ac.mk 0 0)))] [(6,.ptr 5 0)] [0,1,2,4,5,3] [.cell 6 58]
def iM:KeyT prog 176 (Int×YB) (λx=>V.agg [(V.int .i64 x.1),(V.str x.2)]):=Ts (λx=>x.1) (λx=>x.2) (λx y h1 h2=>Prod.ext h1 h2) underlying176 (by kernel_rfl) (by decide) (by decide) rfl rfl underlying3 underlying9
def dD:KeyT prog 100 (Int×Int) (λx=>V.agg [(V.int .i64 x.1),(V.int .i64 x.2)]):=OR (λx=>x.1) (λx=>x.2) (λx y h1 h2=>Prod.ext h1 h2) underlying100 (by kernel_rfl) (by decide) (by decide) rfl rfl underlying3 underlying3
def jZ(G:YT)(J:CKr):Prop:=bv [] prog 24 [.row 4<|kidsV G] ⟨0,[]⟩<|z8 (.ptr 0 0) ⟨5,(CKr.y J 3)⟩
def jR(m:Nat)(G:CKr)(p1:Int)(a:Tree)(b d e:Int)(f:Bool)(J:ac)(q0:CKr):Prop:=y6 [2,1,0] f93 (z8 (.agg<|ac.c J) ⟨6,(CKr.y q0 3)⟩) [.seq<|xA<|xF<|aj f93] 79 [(0,.ptr 0 0),(1,qi p1),(6,.ptr 3 0),(7,.ptr 4 0),(8,qi b),(9,.ptr 5 0),(10,.ptr 6 0),(11,.bool f)] ⟨9,(CKr.z G [(6,vC d e),(5,.var 176 [qi p1,.str a.text]),(4,.var 29<|ak a),(3,vC 0 0)] 7)⟩
def oK(m:Nat)(G:CKr)(p1:Int)(a:Tree)(b d e:Int)(f:Tree)(g:Int)(J:ac)(q0:CKr):Prop:=y6 [2,1,0] f93 (z8 (.agg<|ac.c J) ⟨6,(CKr.y q0 3)⟩) [.seq<|cB<|xJ<|cA<|xA<|xF<|aj f93,.seq<|xI<|xA<|aj f93] 79 [(0,.ptr 0 0),(6,.ptr 3 0),(8,qi b),(9,.ptr 4 0),(10,.ptr 5 0),(12,.ptr 6 0),(13,qi g)] ⟨9,(CKr.z G [(6,.var 29<|ak f),(5,vC d e),(4,.var 176 [qi p1,.str a.text]),(3,vC 0 0)] 7)⟩
theorem jH(m:Nat)(G:CKr)(p1:Int)(p2:Tree)(O:ac)(q0:CKr)(h:∃a b,mj p2 a b∧q3a a.kind 9 ((ac.mk a.kind b)=O∧G=q0) (((aI (p1,a.text) G.names=none)->jR m G p1 a b 0 0 false O q0)∧(∀(d:ac),aI (p1,a.text) G.names=some d->jR m G p1 a b d.simple d.lists true O q0))):hO G p1 p2 O q0:=by
 refine qA 79 [2,1,0] func93 λK J=>?_;refine gR 3 I<|gFP 5 I I I I<|gR 6 I ?_;obtain⟨a,b,e,h⟩:=h;refine qC0 e rfl<|gR 16 rfl<|qBh 23 rfl rfl rfl h dY cO ?_ ?_<;>intro h;refine gR 12 I ?_;obtain⟨rfl,rfl⟩:=h;exact gE J [(5,.var 58<|ac.c<|ac.mk a.kind b)] [(6,.ptr 5 0)] [0,1,2,3,4,6] [.cell 6 58];refine gR 14 I<|qDs [0,8] 10 12<|qDr (qR 0 3 2 [(3,3),(4,3)]) I I ?_;rcases c:aI (p1,a.text) G.names with _|d
 replace h:=h.1 c;apply bK (i:=5) (j:=9) (by kernel_rfl) rfl rfl rfl rfl;exact(rr (.nop) (vu iM (encV:=ac.w) (k:=(p1,a.text)) (l:=G.names) (zv:=.agg [qi 0,qi 0]) c underlying55 zeroValue58 (by kernel_rfl) I I I I) trivial<|by kernel_rfl);exact(bm ah I I);exact qDr (qR 6 3 2 [(9,0),(10,1),(11,1)]) I I<|qDe<|qJ J (h K J) [0,1,2,6,7,8,9,3,4];refine bj 5 (.nop) I (by kernel_rfl) (vu iM (encV:=ac.w) (k:=(p1,a.text)) (l:=G.names) (zv:=.agg [qi 0,qi 0]) c underlying55 zeroValue58 (by kernel_rfl) I I I I) trivial I (by kernel_rfl) I I ?_;exact qDr [(6,0),(7,2),(8,2),(10,1),(11,1)] I I<|qDe<|qJ J (h K J) [0,1,2,6,7,8,9,3,4];replace h:=h.2 d c;apply bK (i:=5) (j:=9) (by kernel_rfl) rfl rfl rfl rfl;exact(rr (.nop) (vZ iM (encV:=ac.w) (k:=(p1,a.text)) (l:=G.names) (zv:=.agg [qi 0,qi 0]) c underlying55 zeroValue58 (by kernel_rfl) I I I I) trivial<|by kernel_rfl);exact(bm ah I I);exact qDr (qR 6 3 2 [(9,0),(10,1),(11,1)]) I I<|qDe<|qJ J (h K J) [0,1,2,6,7,8,9,3,4];refine bj 5 (.nop) I (by kernel_rfl) (vZ iM (encV:=ac.w) (k:=(p1,a.text)) (l:=G.names) (zv:=.agg [qi 0,qi 0]) c underlying55 zeroValue58 (by kernel_rfl) I I I I) trivial I (by kernel_rfl) I I ?_;exact qDr [(6,0),(7,2),(8,2),(10,1),(11,1)] I I<|qDe<|qJ J (h K J) [0,1,2,6,7,8,9,3,4]
theorem og(m:Nat)(J:CKr)(p1:Int)(d:Tree)(c a b:Int)(e:Bool)(O:ac)(q0:CKr)(h:y9 e (∃f g,tx J.p p1 d f g∧oK m J p1 d c a b f g O q0)<|q3a a 0 (InI (b+c)∧(ac.mk a<|b+c)=O∧J=q0)<|(ac.mk a b)=O∧J=q0):jR (m+1) J p1 d c a b e O q0:=by
 intro K G;refine gR 8 rfl<|qBh 42 rfl rfl rfl h bD bC ?_ ?_<;>intro h;refine gR 2 I<|qDs [0,4] 11 13<|qDr (qR 0 3 2 [(3,3),(4,2),(5,3)]) I I ?_;obtain⟨f,g,k,h⟩:=h;apply bK (i:=6) (j:=10) (by kernel_rfl) rfl rfl rfl rfl;exact(cz (L':=[0,4]) (by kernel_rfl) I I (tH k .rfl [0,4] I) (.inl I));exact(bm ah I I);exact qDr (qR 7 3 2 [(10,0),(11,1),(12,1)]) I I<|qDe<|qJ G (h K G) [0,1,2,3,5,6,9,7,8];refine bG 6 k (by kernel_rfl) I (by kernel_rfl) I I .rfl I I ?_;exact qDr [(7,0),(8,2),(9,2),(11,1),(12,1)] I I<|qDe<|qJ G (h K G) [0,1,2,3,5,6,9,7,8];refine gR 11 rfl<|qBh 72 rfl rfl rfl h dY cO ?_ ?_<;>intro h;refine gR 5 I ?_;obtain⟨hb,h⟩:=h;refine gR 1 I<|gV 76 (qi (b+c)) I (ao hb I) I<|gR 11 I ?_;obtain⟨rfl,rfl⟩:=h;exact gE G [(5,.var 58 (ac.c (ac.mk a (b+c))))] [(6,.ptr 5 0)] [0,1,2,7,8,3] [.cell 6 58];refine gR 10 I ?_;obtain⟨rfl,rfl⟩:=h;exact gE G [(5,.var 58 (ac.c (ac.mk a b)))] [(6,.ptr 5 0)] [0,1,2,7,8,3] [.cell 6 58]
theorem uW(m:Nat)(G:CKr)(p1:Int)(f:Tree)(g c e:Int)(j:Tree)(i:Int)(J:ac)(q0:CKr)(h:q9a i 0 (∃a b,mj j a b∧q3a a.kind 0 (InI (b+g)∧(ac.mk a.kind<|b+g)=J∧{G with names:=(ca (p1,f.text) (ac.mk a.kind b) G.names)}=q0) ((ac.mk a.kind b)=J∧{G with names:=(ca (p1,f.text) (ac.mk a.kind b) G.names)}=q0)) (q3a c 0 (InI (e+g)∧(ac.mk c<|e+g)=J∧{G with names:=(ca (p1,f.text) (ac.mk c e) G.names)}=q0) ((ac.mk c e)=J∧{G with names:=(ca (p1,f.text) (ac.mk c e) G.names)}=q0))):oK (m+1) G p1 f g c e j i J q0:=by
 intro K O;refine gR 8 rfl<|qBe 54 rfl rfl rfl h ?_ ?_<;>intro h;refine gR 4 I ?_;obtain⟨a,b,n,h⟩:=h;refine qC0 n rfl<|gR 16 rfl<|qDs [0,4,5] 6 7<|qDr (qR 0 3 2 [(3,3),(4,3),(5,0)]) rfl rfl<|bj 6 (.set 1 (.mp 176 58 (List.map (λp=>(λx=>V.agg [(V.int .i64 x.1),(V.str x.2)]) p.1) (ca (p1,f.text) (ac.mk a.kind b) G.names)) (List.map (λp=>ac.w p.2)<|ca (p1,f.text) (ac.mk a.kind b) G.names))) rfl (by kernel_rfl) (As iM (encV:=ac.w) (k:=(p1,f.text)) (d:=(ac.mk a.kind b)) (l:=G.names) underlying55 rfl rfl rfl rfl rfl rfl rfl rfl) (okM rfl) rfl (by kernel_rfl) rfl rfl<|qDe<|gR 9 rfl<|qBh 72 rfl rfl rfl h dY cO ?_ ?_<;>intro h;refine gR 5 I ?_;obtain⟨hb,h⟩:=h;refine gR 1 I<|gV 76 (qi<|b+g) I (ao hb I) I<|gR 11 I ?_;obtain⟨rfl,rfl⟩:=h;exact gE O [(5,.var 58<|ac.c<|ac.mk a.kind<|b+g)] [(6,.ptr 5 0)] [0,1,2,7,8,3] [.cell 6 58];refine gR 10 I ?_;obtain⟨rfl,rfl⟩:=h;exact gE O [(5,.var 58<|ac.c<|ac.mk a.kind b)] [(6,.ptr 5 0)] [0,1,2,7,8,3] [.cell 6 58];refine gR 3 rfl<|qDs [0,4,5] 6 7<|qDr (qR 0 3 2 [(3,3),(4,3),(5,0)]) rfl rfl<|bj 6 (.set 1<|.mp 176 58 (List.map (λp=>(λx=>V.agg [(V.int .i64 x.1),(V.str x.2)]) p.1)<|ca (p1,f.text) (ac.mk c e) G.names)<|List.map (λp=>ac.w p.2)<|ca (p1,f.text) (ac.mk c e) G.names) rfl (by kernel_rfl) (As iM (encV:=ac.w) (k:=(p1,f.text)) (d:=(ac.mk c e)) (l:=G.names) underlying55 rfl rfl rfl rfl rfl rfl rfl rfl) (okM rfl) rfl (by kernel_rfl) rfl rfl<|qDe<|gR 9 rfl<|qBh 72 rfl rfl rfl h dY cO ?_ ?_<;>intro h;refine gR 5 I ?_;obtain⟨hb,h⟩:=h;refine gR 1 I<|gV 76 (qi<|e+g) I (ao hb I) I<|gR 11 I ?_;obtain⟨rfl,rfl⟩:=h;exact gE O [(5,.var 58<|ac.c<|ac.mk c<|e+g)] [(6,.ptr 5 0)] [0,1,2,7,8,3] [.cell 6 58];refine gR 10 I ?_;obtain⟨rfl,rfl⟩:=h;exact gE O [(5,.var 58<|ac.c<|ac.mk c e)] [(6,.ptr 5 0)] [0,1,2,7,8,3] [.cell 6 58]
def it(m:Nat)(p1:Int)(p2:Tree)(b:Nat)(a:CKr)(d:List ac)(e:Nat)(G:am)(q0:CKr):Prop:=y4 m [2,1,0] f53 (z8 (.agg<|am.c G) ⟨6,(CKr.y q0 3)⟩) (xG<|xF<|aj f53) [.blk 0,.seq<|xI<|aj f53] 47 [(0,.ptr 0 0),(1,qi p1),(5,.box (ak p2) 0),(6,.ptr 3 0),(7,.ptr 4 0),(8,qi<|(p2.kids.length:Int)-2),(18,.row 4<|kidsV<|p2.kids.take b),(19,qi (((p2.kids.take b).length:Nat):Int)),(20,qi (e:Int))] ⟨8,((7,.row 58 2<|List.map ac.w d)::CKr.z a [(4,.var 97 [.sl 7,qi 0,qi 0]),(3,.var 97 [.nils,qi 0,qi 0])] 5)⟩
theorem xx(m:Nat)(p0:CKr)(p1:Int)(p2:Tree)(r0:am)(q0:CKr)(h:∃a,((p2.kids.length:Int)-2)=((a:Nat):Int)∧a<=p2.kids.length∧it m p1 p2 a p0 ([]:List ac) 0 r0 q0):lV p0 p1 p2 r0 q0:=by
 refine qA 47 [2,1,0] func53 λK hK=>?_;refine gR 3 I<|gFP 5 I I I I<|gR 13 I<|gV 13 (qi (p2.kids.length:Int)) I (aN<|aD _) I<|gLB 12 I (aD _) λc=>gR 1 I<|gV 14 (qi<|(p2.kids.length:Int)-2) I (ao (by have :=c;omega) I) I<|gR 9 I ?_;obtain⟨a,b,h⟩:=h;refine gV 17 (qi ((a:Nat):Int)) I (aT b) I ?_;obtain⟨hb',h⟩:=h;exact gY (NT (aD p2.kids) ah I I BW (Cp I) (aao _) hb'<|((RC _ _ _).trans<|congrArg _<|yF _ _)) I I<|gR 1 I<|gV 19 (qi (((p2.kids.take a).length:Nat):Int)) I (aN<|aD _) I<|gLB 18 I (aD _) λd=>gR 4 I<|go_loop m<|gNC 7 0 58 2 I I I I<|qW hK h [0,1,2,6,7,3,4,8]
theorem pH(m:Nat)(p1:Int)(p2:Tree)(g:Nat)(k:CKr)(a:List ac)(d:Nat)(G:am)(q0:CKr)(h:y7 (d<((p2.kids.take g).length)) (∃i,(p2.kids.take g)[d]?=some i∧∃l,i.kids[0]?=some l∧∃e b,hO k p1 l e b∧(a++[e]).length<=1000000000∧d+1<=9223372036854775807∧it m p1 p2 g b (a++[e]) (d+1) G q0) (∃j,((p2.kids.length:Int)-2)=((j:Nat):Int)∧∃n,p2.kids[j]?=some n∧∃f c,hO k p1 n f c∧(am.mk a f)=G∧c=q0)):it (m+1) p1 p2 g k a d G q0:=by
 refine qj λK O J x=>?_;refine gR 6 rfl<|qXh 21 rfl rfl rfl h co cp ?_ ?_<;>intro U h;refine gR 7 I ?_;obtain⟨i,p,h⟩:=h;refine gY (aF (aq p) ah I I I I) I I<|gR 5 I<|qDs [4,8] 12 13<|qDr [(0,2),(1,3),(2,2),(3,2),(4,0),(5,0)] I I ?_;obtain⟨l,q,h⟩:=h;refine bQ 6 I (by kernel_rfl) (aF (aq q) ah I I I I) I I ?_;refine qDr [(7,0)] I I ?_;obtain⟨e,b,t,h⟩:=h;refine qDC 8 t [0,1,2,5,6] I ?_;refine qHX ⟨15,(CKr.z b [(8,.var 29<|ak i),(7,.row 58 2<|List.map ac.w a),(4,.var 97 [.sl 7,qi 0,qi 0]),(3,.var 97 [.nils,qi 0,qi 0])] 12)⟩<|qDr [(9,0)] I I ?_;obtain⟨hb,h⟩:=h;refine bj 10 (.repl 7<|.row 58 2<|List.map ac.w<|a++[e]) I (by kernel_rfl) (bx ah I I I I I (apM ac.w a e) (by rw[aB];exact hb)) (okR I) I (by kernel_rfl) I I ?_;refine qDr [(11,0),(12,1)] I I<|qDe<|gR 3 I ?_;obtain⟨hb,h⟩:=h;exact gR 1 I<|gV 36 (qi ((d+1:Nat):Int)) I (ao (by omega)<|by omega) I<|gR 2 I<|go_xloop<|qW J h [0,1,2,3,4,12,13,16];refine gR 3 I<|go_xloopE<|gR 9 I ?_;obtain⟨j,s,h⟩:=h;refine gV 41 (qi ((j:Nat):Int)) I (aT s) I ?_;obtain⟨n,r,h⟩:=h;refine gY (aF (aq r) ah I I I I) I I<|gR 1 I ?_;obtain⟨f,c,v,h⟩:=h;refine qC v [0,1,2,5,6] ?_;refine qHX ⟨14,(CKr.z c [(7,.row 58 2<|List.map ac.w a),(4,.var 97 [.sl 7,qi 0,qi 0]),(3,.var 97 [.nils,qi 0,qi 0])] 11)⟩<|gR 11 I<|gFR 7 I (fi _ (λ_=>I) _) I I ?_;obtain⟨rfl,rfl⟩:=h;exact gE J [(5,.var 97 [.row 2<|List.map ac.w<|(am.mk a f).params,qi<|((am.mk a f).result).simple,qi<|((am.mk a f).result).lists])] [(6,.ptr 5 0)] [0,1,2,11,12,3] [.cell 6 97]
def gz(m:Nat)(G:YT)(b:Nat)(a J:CKr):Prop:=y4 m [] f24 (z8 (.ptr 0 0) ⟨5,(CKr.y J 3)⟩) (xK<|aj f24) [.blk 0,.seq<|xF<|aj f24] 47 [(3,.ptr 0 0),(15,.row 4<|kidsV G),(16,qi (G.length:Int)),(17,qi (b:Int))] ⟨5,(CKr.y a 3)⟩
def gx(m:Nat)(G:YT)(b:Tree)(e:Nat)(a:CKr)(c d:Nat)(U:CKr):Prop:=∀(K:Ctx) (J O:Nat),av K []->m<=J->m<=O->qLG K f24 (z8 (.ptr 0 0) ⟨5,(CKr.y U 3)⟩) (xL<|xA<|cK<|cA<|xA<|xK<|aj f24) [.loop (xL<|xA<|cK<|cA<|xA<|xK<|aj f24) J,.blk 2,.blk 1,.seq<|xF<|xK<|aj f24,.loop (xK<|aj f24) O,.blk 0,.seq<|xF<|aj f24] 47 (mkF 47 0 [(3,.ptr 0 0),(4,qi (c:Int)),(15,.row 4<|kidsV G),(16,qi (G.length:Int)),(17,qi (d:Int)),(23,.row 4<|kidsV b.kids),(24,qi (b.kids.length:Int)),(25,qi (e:Int))]) ⟨5,(CKr.y a 3)⟩
def sn(m:Nat)(G:YT)(b:Tree)(a:CKr)(c d e:Nat)(U:CKr):Prop:=∀(K:Ctx) (J O:Nat),av K []->m<=J->m<=O->Go prog K (bodyPost prog f24<|SP K<|z8 (.ptr 0 0) ⟨5,(CKr.y U 3)⟩) (.ex .normal) [.blk 3,.seq<|xF<|xL<|xA<|cK<|cA<|xA<|xK<|aj f24,.loop (xL<|xA<|cK<|cA<|xA<|xK<|aj f24) J,.blk 2,.blk 1,.seq<|xF<|xK<|aj f24,.loop (xK<|aj f24) O,.blk 0,.seq<|xF<|aj f24] 47 (mkF 47 0 [(3,.ptr 0 0),(4,qi (c:Int)),(15,.row 4<|kidsV G),(16,qi (G.length:Int)),(17,qi (d:Int)),(23,.row 4<|kidsV b.kids),(24,qi (b.kids.length:Int)),(25,qi (e:Int))]) ⟨5,(CKr.y a 3)⟩
theorem yD(m:Nat)(p0:YT)(r0:CKr)(h:∃a,pc p0 a∧gz m p0 0 (CKr.mk p0 a ([]:(List<|(Int×YB)×ac)) ([]:(List<|(Int×Int)×am)) 0 ([]:YI) ([]:List ai) 0 [] 0 0) r0):jZ p0 r0:=by
 refine qA 47 [] func24 λK hK=>?_;refine gR 9 I ?_;obtain⟨a,b,h⟩:=h;refine qC0 b I<|gDo (.new<|.mp 176 58 [] []) (dMM 176 58) trivial I I I<|gHM 0 (List.map (λp=>(λx=>V.agg [(V.int .i64 x.1),(V.str x.2)]) p.1) ([]:(List<|(Int×YB)×ac))) (List.map (λp=>ac.w p.2) ([]:(List<|(Int×YB)×ac))) I I I I<|gDo (.new<|.mp 100 97 [] []) (dMM 100 97) trivial I I I<|gHM 1 (List.map (λp=>(λx=>V.agg [(V.int .i64 x.1),(V.int .i64 x.2)]) p.1) ([]:(List<|(Int×Int)×am))) (List.map (λp=>am.w p.2) ([]:(List<|(Int×Int)×am))) I I I I<|gR 10 I<|gV 16 (qi (p0.length:Int)) I (aN<|aD _) I ?_;exact gLB 15 I (aD _) λc=>gR 4 I<|go_loop m<|gNC 2 5 3 1 I I I I<|gNC 2 6 47 3 I I I I<|qJH hK (h K _ hK<|by omega) [2,0,1,3,4] ⟨⟨_,I,⟨I,I,I⟩⟩,⟨⟨_,I,⟨I,I,I⟩⟩,⟨⟨_,I,⟨I,I,I,I⟩⟩,⟨⟨_,I,⟨I,I,I,I⟩⟩,⟨⟨_,I,⟨I,(.cons .rfl<|.cons .rfl<|.cons .rfl<|.cons .rfl<|.cons .rfl<|.cons .rfl<|.cons .rfl<|.cons .rfl<|.cons (.nil 1)<|.cons .rfl<|.cons .rfl .nil)⟩⟩,trivial⟩⟩⟩⟩⟩
theorem rj(m:Nat)(p0:YT)(a:Nat)(b r0:CKr)(h:y7 (a<p0.length) (∃c,p0[a]?=some c∧gx m p0 c 0 b a a r0)<|b=r0):gz (m+1) p0 a b r0:=by
 refine qj λK j1 hK f=>?_;refine gR 6 rfl<|qXh 18 rfl rfl rfl h co cp ?_ ?_<;>intro hd h;refine gR 8 I ?_;obtain⟨c,d,h⟩:=h;exact gY (aF (aq d) ah I I I I) I I<|gR 11 I<|gV 24 (qi (c.kids.length:Int)) I (aN<|aD _) I<|gLB 23 I (aD _) λe=>gR 4 I<|go_loop m<|qJ hK (h K _ _ hK (by omega)<|by omega) [0,1,2,3,4];refine gR 3 I<|go_xloopE<|gR 9 I ?_;subst h;exact gE hK [] [(2,.ptr 0 0)] [0,1,2,3,4] [.tmp 2]
theorem ma(m:Nat)(J:YT)(q:Tree)(c:Nat)(e:CKr)(b n:Nat)(O:CKr)(h:y7 (c<q.kids.length) (∃g,q.kids[c]?=some g∧q9a g.kind 2 (∃f a,lV e (b:Int) g f a∧sn m J q ({a with signatures:=(ca ((b:Int),(c:Int)) f a.signatures)}) b n c O) (c+1<=9223372036854775807∧gx m J q (c+1) e b n O))<|n+1<=9223372036854775807∧gz m J (n+1) e O):gx (m+1) J q c e b n O:=by
 intro K U Z G v y;obtain⟨U,rfl⟩:∃j,U=j+1:=⟨U-1,by omega⟩;obtain⟨Z,rfl⟩:∃j,Z=j+1:=⟨Z-1,by omega⟩;refine gR 6 rfl<|qXh 26 rfl rfl rfl h co cp ?_ ?_<;>intro hd h;refine gR 8 I ?_;obtain⟨g,r,h⟩:=h;refine gY (aF (aq r) ah rfl rfl rfl rfl) rfl rfl<|gR 13 rfl<|qXe 32 rfl rfl rfl h ?_ ?_<;>intro hd h;refine gR 1 I<|qDs [] 12 12<|qDr (qR 0 3 2 (qR 4 5 2 [])) I I ?_;apply bK (i:=3) (j:=9) (by kernel_rfl) rfl rfl rfl rfl;exact(bm ah I I);exact(bm ah I I);refine qDr [(9,0)] I I ?_;obtain⟨f,a,t,h⟩:=h;refine qDC 10 t [0,1,2,3,4] I ?_;refine qHX ⟨12,(CKr.z a [(5,.var 29 (ak g))] 9)⟩<|bj 11 (.set 2 (.mp 100 97 (List.map (λp=>(λx=>V.agg [(V.int .i64 x.1),(V.int .i64 x.2)]) p.1) (ca ((b:Int),(c:Int)) f a.signatures)) (List.map (λp=>am.w p.2)<|ca ((b:Int),(c:Int)) f a.signatures))) I (by kernel_rfl) (As dD (encV:=am.w) (k:=((b:Int),(c:Int))) (d:=f) (l:=a.signatures) underlying56 I I I I I I I I) (okM I) I (by kernel_rfl) I I ?_;exact qDe<|qJ G (h K _ _ G (by omega)<|by omega) [0,1,2,9,10];obtain⟨f,a,s,h⟩:=h;apply bK (i:=3) (j:=10) (by kernel_rfl) rfl rfl rfl rfl;exact(bm ah I I);exact(cz (L':=[]) (by kernel_rfl) I I (fS (H:=⟨6,((5,.var 29<|ak g)::CKr.y e 3)⟩) s [0,1,2,3,4] .rfl ⟨⟨_,I,⟨I,I,(vH _ e.faults).symm⟩⟩,⟨⟨_,I,⟨I,I,(vG _ e.path).symm⟩⟩,⟨⟨_,I,⟨I,I,I,I⟩⟩,⟨⟨_,I,⟨I,I,I,I⟩⟩,⟨⟨_,I,⟨I,aJ.rfl⟩⟩,trivial⟩⟩⟩⟩⟩ I [] I)<|.inl I);refine qDC 10 s [0,1,2,3,4] I ?_;refine qHX ⟨12,(CKr.z a [(5,.var 29<|ak g)] 9)⟩<|bj 11 (.set 2<|.mp 100 97 (List.map (λp=>(λx=>V.agg [(V.int .i64 x.1),(V.int .i64 x.2)]) p.1)<|ca ((b:Int),(c:Int)) f a.signatures)<|List.map (λp=>am.w p.2)<|ca ((b:Int),(c:Int)) f a.signatures) I (by kernel_rfl) (As dD (encV:=am.w) (k:=((b:Int),(c:Int))) (d:=f) (l:=a.signatures) underlying56 I I I I I I I I) (okM I) I (by kernel_rfl) I I ?_;exact qDe<|qJ G (h K _ _ G (by omega)<|by omega) [0,1,2,9,10];refine qHX ⟨12,(CKr.z a [(5,.var 29<|ak g)] 9)⟩<|qDr [(3,0)] I I<|bj 11 (.set 2<|.mp 100 97 (List.map (λp=>(λx=>V.agg [(V.int .i64 x.1),(V.int .i64 x.2)]) p.1)<|ca ((b:Int),(c:Int)) f a.signatures)<|List.map (λp=>am.w p.2)<|ca ((b:Int),(c:Int)) f a.signatures) I (by kernel_rfl) (As dD (encV:=am.w) (k:=((b:Int),(c:Int))) (d:=f) (l:=a.signatures) underlying56 I I I I I I I I) (okM I) I (by kernel_rfl) I I ?_;exact qDe<|qJ G (h K _ _ G (by omega)<|by omega) [0,1,2,9,10];refine gR 5 I ?_;obtain⟨hb,h⟩:=h;exact gR 1 I<|gV 44 (qi ((c+1:Nat):Int)) I (ao (by omega)<|by omega) I<|gR 2 I<|go_xloop<|qJ G (h K _ _ G (by omega)<|by omega) [0,1,2,3,4];refine gR 3 I<|go_xloopE<|gR 4 I ?_;obtain⟨hb,h⟩:=h;exact gR 1 I<|gV 45 (qi ((n+1:Nat):Int)) I (ao (by omega)<|by omega) I<|gR 2 I<|go_xloop<|qW G h [0,1,2,3,4]
theorem yA(m:Nat)(O:YT)(b:Tree)(c:CKr)(d e a:Nat)(U:CKr)(h:a+1<=9223372036854775807∧gx m O b (a+1) c d e U):sn (m+1) O b c d e a U:=by
 intro K G J Z f g;obtain⟨G,rfl⟩:∃j,G=j+1:=⟨G-1,by omega⟩;obtain⟨J,rfl⟩:∃j,J=j+1:=⟨J-1,by omega⟩;refine gR 3 I ?_;obtain⟨hb,h⟩:=h;exact gR 1 I<|gV 44 (qi ((a+1:Nat):Int)) I (ao (by omega) (by omega)) I<|gR 2 I<|go_xloop<|qJ Z (h K _ _ Z (by omega) (by omega)) [0,1,2,3,4]
def L0_typing_checker_call(m:Nat)(p1:Tree)(p2:List az)(a:CKr)(b:List ac)(d e:Int)(f:Nat)(G:ac)(q0:CKr):Prop:=y4 m [2,1,0] f166 (z8 (.agg<|ac.c G) ⟨6,(CKr.y q0 3)⟩) (xG<|xI<|aj f166) [.blk 0,.seq<|xA<|xF<|aj f166] 75 [(0,.ptr 0 0),(2,.lk<|List.map az.c p2),(6,.ptr 3 0),(8,.ptr 4 0),(38,.row 4<|kidsV p1.kids),(39,qi (p1.kids.length:Int)),(40,qi (f:Int))] ⟨7,(CKr.z a [(4,.var 97 [.row 2<|List.map ac.w b,qi d,qi e]),(3,vC 0 0)] 5)⟩
theorem xO(m:Nat)(p0:CKr)(p1:Tree)(p2:List az)(r0:ac)(q0:CKr)(h:∃b a,jk p0 b a∧y8 b.Free (∃e,aH a 1 [] e∧L0_typing_checker_call m p1 p2 e [] 0 0 0 r0 q0) (((aI (b.Module,b.Def) a.signatures=none)->q3a 0 (p1.kids.length:Int) (∃f,aH a 3 [] f∧L0_typing_checker_call m p1 p2 f [] 0 0 0 r0 q0) (L0_typing_checker_call m p1 p2 a [] 0 0 0 r0 q0))∧(∀(d:am),aI (b.Module,b.Def) a.signatures=some d->q3a d.params.length p1.kids.length (∃g,aH a 3 [] g∧L0_typing_checker_call m p1 p2 g d.params d.result.simple d.result.lists 0 r0 q0) (L0_typing_checker_call m p1 p2 a d.params d.result.simple d.result.lists 0 r0 q0)))):mr p0 p1 p2 r0 q0:=by
 refine qA 75 [2,1,0] func166 λK hK=>?_;refine gR 3 I<|gFP 5 I I I I<|gR 6 I ?_;obtain⟨b,a,j,h⟩:=h;refine qC j [0,1,2,3,4] ?_;refine qHX ⟨13,(CKr.z a [(6,vC 0 0)] 10)⟩<|gR 16 rfl<|qXi 15 rfl rfl rfl h ?_ ?_<;>intro hd h;refine gR 3 I ?_;obtain⟨e,n,h⟩:=h;refine qC n [0,1,2,10,11] (hs:=(.cons .rfl<|.cons .rfl<|.cons (.nil 1) .nil)) ?_;exact qHX ⟨20,(CKr.z e [(14,.var 97 [.nils,qi 0,qi 0]),(13,.var 151<|ay.c b),(6,vC 0 0)] 18)⟩<|gR 8 I<|gV 39 (qi (p1.kids.length:Int)) I (aN<|aD _) I<|gLB 38 I (aD _) λr=>gR 4 I<|go_loop m<|qJH hK (h K _ hK<|by omega) [0,1,2,6,14,18,19] ⟨⟨_,I,⟨I,I,(vH _ e.faults).symm⟩⟩,⟨⟨_,I,⟨I,I,(vG _ e.path).symm⟩⟩,⟨⟨_,I,⟨I,(.cons (.nil 2)<|.cons .rfl<|.cons .rfl .nil)⟩⟩,⟨⟨_,I,⟨I,aJ.rfl⟩⟩,⟨⟨_,I,⟨I,I,I,I⟩⟩,⟨⟨_,I,⟨I,I,I,I⟩⟩,⟨⟨_,I,⟨I,aJ.rfl⟩⟩,trivial⟩⟩⟩⟩⟩⟩⟩;refine gR 2 I<|qDs [0,13] 10 11<|qDr (qR 0 3 2<|(3,3)::(4,2)::(5,3)::(qR 6 3 0 [])) I I ?_;rcases i:aI (b.Module,b.Def) a.signatures with _|d
 replace h:=h.1 i;refine bj (v:=some<|.agg [.nils,qi 0,qi 0]) 9 (.nop) I (by kernel_rfl) (vu dD (encV:=am.w) (k:=(b.Module,b.Def)) (l:=a.signatures) (zv:=.agg [.nils,qi 0,qi 0]) i underlying56 zeroValue97 (by kernel_rfl) I I I I) trivial I (by kernel_rfl) I I ?_;refine qDr [(10,1)] rfl rfl<|qDe<|gR 9 rfl<|gV 33 (qi (p1.kids.length:Int)) rfl (aN<|aD _) rfl<|gLB 32 rfl (aD _) λs=>gR 3 rfl<|qXh 34 rfl rfl rfl h dY cO ?_ ?_<;>intro hd h;refine gR 3 I ?_;obtain⟨f,p,h⟩:=h;refine qC p [0,1,2,10,11] (hs:=(.cons .rfl<|.cons .rfl<|.cons (.nil 1) .nil)) ?_;exact qHX ⟨20,(CKr.z f [(14,.var 97 [.nils,qi 0,qi 0]),(13,.var 151<|ay.c b),(6,vC 0 0)] 18)⟩<|gR 8 I<|gV 39 (qi (p1.kids.length:Int)) I (aN<|aD _) I<|gR 4 I<|go_loop m<|qJH hK (h K _ hK<|by omega) [0,1,2,6,14,18,19] ⟨⟨_,I,⟨I,I,(vH _ f.faults).symm⟩⟩,⟨⟨_,I,⟨I,I,(vG _ f.path).symm⟩⟩,⟨⟨_,I,⟨I,(.cons (.nil 2)<|.cons .rfl<|.cons .rfl .nil)⟩⟩,⟨⟨_,I,⟨I,aJ.rfl⟩⟩,⟨⟨_,I,⟨I,I,I,I⟩⟩,⟨⟨_,I,⟨I,I,I,I⟩⟩,⟨⟨_,I,⟨I,aJ.rfl⟩⟩,trivial⟩⟩⟩⟩⟩⟩⟩;exact gR 9 I<|gV 39 (qi (p1.kids.length:Int)) I (aN<|aD _) I<|gR 4 I<|go_loop m<|qJH hK (h K _ hK<|by omega) [0,1,2,6,14,10,11] ⟨⟨_,I,⟨I,I,(vH _ a.faults).symm⟩⟩,⟨⟨_,I,⟨I,I,(vG _ a.path).symm⟩⟩,⟨⟨_,I,⟨I,(.cons (.nil 2)<|.cons .rfl<|.cons .rfl .nil)⟩⟩,⟨⟨_,I,⟨I,aJ.rfl⟩⟩,⟨⟨_,I,⟨I,I,I,I⟩⟩,⟨⟨_,I,⟨I,I,I,I⟩⟩,⟨⟨_,I,⟨I,aJ.rfl⟩⟩,trivial⟩⟩⟩⟩⟩⟩⟩;replace h:=h.2 d i;refine bj (v:=some<|.agg<|am.c d) 9 (.nop) I (by kernel_rfl) (vZ dD (encV:=am.w) (k:=(b.Module,b.Def)) (l:=a.signatures) (zv:=.agg [.nils,qi 0,qi 0]) i underlying56 zeroValue97 (by kernel_rfl) I I I I) trivial I (by kernel_rfl) I I ?_;refine qDr [(10,1)] rfl rfl<|qDe<|gR 6 rfl<|gV 30 (qi (d.params.length:Int)) rfl (aN<|aB ac.w _) rfl<|gLB 29 rfl (aB ac.w _) λt=>gR 3 rfl<|gV 33 (qi (p1.kids.length:Int)) rfl (aN<|aD _) rfl<|gLB 32 rfl (aD _) λx=>gR 3 rfl<|qXh 34 rfl rfl rfl h GL Fl ?_ ?_<;>intro hd h;refine gR 3 I ?_;obtain⟨g,q,h⟩:=h;refine qC q [0,1,2,10,11] (hs:=(.cons .rfl<|.cons .rfl<|.cons (.nil 1) .nil)) ?_;exact qHX ⟨20,(CKr.z g [(14,.var 97<|am.c d),(13,.var 151<|ay.c b),(6,vC 0 0)] 18)⟩<|gR 8 I<|gV 39 (qi (p1.kids.length:Int)) I (aN<|aD _) I<|gR 4 I<|go_loop m<|qW hK h [0,1,2,6,14,18,19];exact gR 9 I<|gV 39 (qi (p1.kids.length:Int)) I (aN<|aD _) I<|gR 4 I<|go_loop m<|qW hK h [0,1,2,6,14,10,11]
theorem pr(m:Nat)(p1:Tree)(p2:List az)(q:CKr)(b:List ac)(d e:Int)(a:Nat)(G:ac)(q0:CKr)(h:y7 (a<p1.kids.length) (∃l,p1.kids[a]?=some l∧∃i,cZ q (a:Int) i∧∃n j,bu i l 0 p2 n j∧∃g,bc j g∧y7 (a<b.length) (∃r,b[a]?=some r∧∃p,cD n r p∧y8 p (∃k,aH g 4 [(a:Int),0] k∧L0_typing_checker_call m p1 p2 k b d e (a+1) G q0) (L0_typing_checker_call m p1 p2 g b d e (a+1) G q0)) (a+1<=9223372036854775807∧L0_typing_checker_call m p1 p2 g b d e (a+1) G q0))<|(ac.mk d e)=G∧q=q0):L0_typing_checker_call (m+1) p1 p2 q b d e a G q0:=by
 refine qj λK U J γ=>?_;refine gR 6 rfl<|qXh 41 rfl rfl rfl h co cp ?_ ?_<;>intro O h;refine gR 8 I ?_;obtain⟨l,s,h⟩:=h;refine gY (aF (aq s) ah I I I I) I I<|gR 10 I ?_;obtain⟨i,x,h⟩:=h;refine qC x [0,1,2,5,6] ?_;refine qHX ⟨13,(CKr.z i [(7,.var 29<|ak l),(4,.var 97 [.row 2<|List.map ac.w b,qi d,qi e]),(3,vC 0 0)] 11)⟩<|gR 7 I ?_;obtain⟨n,j,y,h⟩:=h;refine qC y [0,1,2,11,12] ?_;refine qHX ⟨19,(CKr.z j [(7,.var 29<|ak l),(4,.var 97 [.row 2<|List.map ac.w b,qi d,qi e]),(3,vC 0 0)] 16)⟩<|gR 7 I ?_;obtain⟨g,z,h⟩:=h;refine qC z [0,1,2,16,17] ?_;refine qHX ⟨25,(CKr.z g [(19,.var 58<|ac.c n),(7,.var 29<|ak l),(4,.var 97 [.row 2<|List.map ac.w b,qi d,qi e]),(3,vC 0 0)] 23)⟩<|gR 3 rfl<|qDs [4,19] 14 14<|qDr ((0,2)::(qR 1 3 0 [])) rfl rfl<|gV 57 (qi (b.length:Int)) rfl (aN<|aB ac.w _) rfl<|gLB 56 rfl (aB ac.w _) λv=>qDr [(4,0),(5,0)] rfl rfl<|qXhZ 59 58 rfl rfl rfl rfl h co cp ?_ ?_<;>intro O h;refine qDr [(6,3),(7,2),(8,3),(9,0)] I I ?_;obtain⟨r,t,h⟩:=h;refine bQ 10 I (by kernel_rfl) (aF (ax (f:=ac.w) t) ah I I I I) I I ?_;refine qDr [(11,0)] I I ?_;obtain⟨p,α,h⟩:=h;refine bG 12 α (by kernel_rfl) I (by kernel_rfl) I I .rfl I I ?_;refine qDr [(13,0)] rfl rfl<|qDe<|gR 1 rfl<|qXi 67 rfl rfl rfl h ?_ ?_<;>intro O h;refine gR 5 I<|gFR 25 I I I I ?_;obtain⟨k,β,h⟩:=h;refine qC β [0,1,2,23,24] ?_;exact qHX ⟨31,(CKr.z k [(19,.var 58<|ac.c n),(7,.var 29<|ak l),(4,.var 97 [.row 2<|List.map ac.w b,qi d,qi e]),(3,vC 0 0)] 29)⟩<|gR 5 I<|gV 72 (qi ((a+1:Nat):Int)) I (ao (by have :=v;omega)<|by omega) I<|gR 2 I<|go_xloop<|qW J h [0,1,2,3,4,29,30];exact gR 6 I<|gV 72 (qi ((a+1:Nat):Int)) I (ao (by have :=v;omega)<|by omega) I<|gR 2 I<|go_xloop<|qW J h [0,1,2,3,4,23,24];refine qDr (qR 6 3 2<|qR 9 5 0 []) I I<|qDe<|gR 6 I ?_;obtain⟨hb,h⟩:=h;exact gR 1 I<|gV 72 (qi ((a+1:Nat):Int)) I (ao (by omega)<|by omega) I<|gR 2 I<|go_xloop<|qW J h [0,1,2,3,4,23,24];refine gR 3 I<|go_xloopE<|gR 10 I ?_;obtain⟨rfl,rfl⟩:=h;exact gE J [(5,.var 58<|ac.c<|ac.mk d e)] [(6,.ptr 5 0)] [0,1,2,5,6,3] [.cell 6 58]
def L0_typing_checker_list(m:Nat)(p1:Tree)(p2:List az)(a:CKr)(b d:Int)(e:Nat)(G:ac)(q0:CKr):Prop:=y4 m [2,1,0] f167 (z8 (.agg<|ac.c G) ⟨6,(CKr.y q0 3)⟩) (xK<|aj f167) [.blk 0,.seq<|xF<|aj f167] 41 [(0,.ptr 0 0),(2,.lk<|List.map az.c p2),(4,.box (ak p1) 0),(6,.ptr 3 0),(7,.ptr 4 0),(12,qi (p1.kids.length:Int)),(13,qi (e:Int))] ⟨7,(CKr.z a [(4,vC b d),(3,vC 0 0)] 5)⟩
theorem xf(m:Nat)(p0:CKr)(p1:Tree)(p2:List az)(r0:ac)(q0:CKr)(h:L0_typing_checker_list m p1 p2 p0 0 0 0 r0 q0):rk p0 p1 p2 r0 q0:=by
 refine qA 41 [2,1,0] func167 λK hK=>?_;exact gR 3 I<|gFP 5 I I I I<|gR 14 I<|gV 12 (qi (p1.kids.length:Int)) I (aN<|aD _) I<|gLB 11 I (aD _) λa=>gR 4 I<|go_loop m<|qW hK h [0,1,2,6,7,3,4]
theorem pz(m:Nat)(p1:Tree)(p2:List az)(j:CKr)(b d:Int)(a:Nat)(G:ac)(q0:CKr)(h:y7 (a<p1.kids.length) (∃e f,bu j p1 (a:Int) p2 e f∧q9a b 0 (∃k,cD e e k∧y8 k (∃g,aH f 6 [(a:Int)] g∧a+1<=9223372036854775807∧L0_typing_checker_list m p1 p2 g e.simple e.lists (a+1) G q0) (a+1<=9223372036854775807∧L0_typing_checker_list m p1 p2 f e.simple e.lists (a+1) G q0)) (∃l,cD e (ac.mk b d) l∧y8 l (∃i,aH f 6 [(a:Int)] i∧a+1<=9223372036854775807∧L0_typing_checker_list m p1 p2 i b d (a+1) G q0) (a+1<=9223372036854775807∧L0_typing_checker_list m p1 p2 f b d (a+1) G q0)))<|q3a b 0 (InI (d+1)∧(ac.mk b<|d+1)=G∧j=q0)<|(ac.mk b d)=G∧j=q0):L0_typing_checker_list (m+1) p1 p2 j b d a G q0:=by
 refine qj λK U J t=>?_;refine gR 6 rfl<|qXh 14 rfl rfl rfl h co cp ?_ ?_<;>intro O h;refine gR 17 I ?_;obtain⟨e,f,n,h⟩:=h;refine qC n [0,1,2,5,6] ?_;refine qHX ⟨13,(CKr.z f [(4,vC b d),(3,vC 0 0)] 10)⟩<|gR 12 rfl<|qXe 23 rfl rfl rfl h ?_ ?_<;>intro O h;refine gR 10 I ?_;obtain⟨k,p,h⟩:=h;refine qC0 p rfl<|gR 2 rfl<|qXi 27 rfl rfl rfl h ?_ ?_<;>intro O h;refine gR 5 I<|gFR 14 I I I I ?_;obtain⟨g,q,h⟩:=h;refine qC q [0,1,2,10,11] ?_;refine qHX ⟨20,(CKr.z g [(13,.var 58<|ac.c e),(4,.var 58<|ac.c e),(3,vC 0 0)] 18)⟩<|gR 4 I ?_;obtain⟨hb,h⟩:=h;exact gR 1 I<|gV 32 (qi ((a+1:Nat):Int)) I (ao (by omega)<|by omega) I<|gR 2 I<|go_xloop<|qW J h [0,1,2,3,4,18,19];refine gR 5 I ?_;obtain⟨hb,h⟩:=h;exact gR 1 I<|gV 32 (qi ((a+1:Nat):Int)) I (ao (by omega)<|by omega) I<|gR 2 I<|go_xloop<|qW J h [0,1,2,3,4,10,11];refine gR 7 I ?_;obtain⟨l,r,h⟩:=h;refine qC0 r rfl<|gR 2 rfl<|qXi 27 rfl rfl rfl h ?_ ?_<;>intro O h;refine gR 5 I<|gFR 14 I I I I ?_;obtain⟨i,s,h⟩:=h;refine qC s [0,1,2,10,11] ?_;refine qHX ⟨20,(CKr.z i [(13,.var 58<|ac.c e),(4,vC b d),(3,vC 0 0)] 18)⟩<|gR 4 I ?_;obtain⟨hb,h⟩:=h;exact gR 1 I<|gV 32 (qi ((a+1:Nat):Int)) I (ao (by omega)<|by omega) I<|gR 2 I<|go_xloop<|qW J h [0,1,2,3,4,18,19];refine gR 5 I ?_;obtain⟨hb,h⟩:=h;exact gR 1 I<|gV 32 (qi ((a+1:Nat):Int)) I (ao (by omega)<|by omega) I<|gR 2 I<|go_xloop<|qW J h [0,1,2,3,4,10,11];refine gR 3 rfl<|go_xloopE<|gR 10 rfl<|qXh 35 rfl rfl rfl h dY cO ?_ ?_<;>intro O h;refine gR 4 I ?_;obtain⟨hb,h⟩:=h;refine gR 1 I<|gV 38 (qi<|d+1) I (ao hb I) I<|gR 11 I ?_;obtain⟨rfl,rfl⟩:=h;exact gE J [(5,.var 58<|ac.c<|ac.mk b<|d+1)] [(6,.ptr 5 0)] [0,1,2,5,6,3] [.cell 6 58];refine gR 10 I ?_;obtain⟨rfl,rfl⟩:=h;exact gE J [(5,.var 58<|ac.c<|ac.mk b d)] [(6,.ptr 5 0)] [0,1,2,5,6,3] [.cell 6 58]
def fD(m:Nat)(p1:Tree)(p2:List az)(a:CKr)(G:ac)(q0:CKr):Prop:=y5 [2,1,0] f168 (z8 (.agg<|ac.c G) ⟨6,(CKr.y q0 3)⟩) (xA<|aj f168) [] 37 [(0,.ptr 0 0),(2,.lk<|List.map az.c p2),(4,.box (ak p1) 0),(6,.ptr 3 0)] ⟨6,(CKr.z a [(3,vC 0 0)] 4)⟩
theorem uy(m:Nat)(O:CKr)(p1:Tree)(p2:List az)(J:ac)(q0:CKr)(h:∃d a,bu O p1 0 p2 d a∧∃c,cD d (ac.mk 7 0) c∧y8 c (∃b,aH a 4 [0] b∧fD m p1 p2 b J q0) (fD m p1 p2 a J q0)):jr O p1 p2 J q0:=by
 refine qA 37 [2,1,0] func168 λK G=>?_;refine gR 3 I<|gFP 5 I I I I<|gR 5 I<|qDs [] 6 6<|qDr (qR 0 3 2 [(4,2)]) I I ?_;obtain⟨d,a,e,h⟩:=h;refine qDC 3 e [0,1,2,3,4] I ?_;refine qHX ⟨13,(CKr.z a [(6,vC 0 0)] 10)⟩ ?_;obtain⟨c,f,h⟩:=h;refine bG 5 f (by kernel_rfl) I (by kernel_rfl) I I .rfl I I ?_;refine qDe<|gR 1 rfl<|qBi 14 rfl rfl rfl h ?_ ?_<;>intro h;refine gR 4 I<|gFR 13 I I I I ?_;obtain⟨b,g,h⟩:=h;refine qC g [0,1,2,10,11] ?_;exact qHX ⟨19,(CKr.z b [(6,vC 0 0)] 17)⟩<|gR 2 I<|qJ G (h K G) [0,1,2,6,17,18];exact gR 3 I<|qJ G (h K G) [0,1,2,6,10,11]
theorem uf(m:Nat)(p1:Tree)(p2:List az)(i:CKr)(G:ac)(q0:CKr)(h:∃a f,bu i p1 1 p2 a f∧∃b d,bu f p1 2 p2 b d∧∃g,cD a b g∧y8 g (∃e,aH d 6 [2] e∧q9a a.simple 0 (b=G∧e=q0) (a=G∧e=q0)) (q9a a.simple 0 (b=G∧d=q0)<|a=G∧d=q0)):fD (m+1) p1 p2 i G q0:=by
 intro K J;refine gR 5 I ?_;obtain⟨a,f,j,h⟩:=h;refine qC j [0,1,2,4,5] ?_;refine qHX ⟨12,(CKr.z f [(3,vC 0 0)] 9)⟩<|gR 9 I ?_;obtain⟨b,d,k,h⟩:=h;refine qC k [0,1,2,9,10] ?_;refine qHX ⟨19,(CKr.z d [(12,.var 58 (ac.c a)),(3,vC 0 0)] 16)⟩<|gR 9 I ?_;obtain⟨g,l,h⟩:=h;refine qC0 l rfl<|gR 2 rfl<|qBi 28 rfl rfl rfl h ?_ ?_<;>intro h;refine gR 4 I<|gFR 20 I I I I ?_;obtain⟨e,n,h⟩:=h;refine qC n [0,1,2,16,17] ?_;refine qHX ⟨26,(CKr.z e [(19,.var 58 (ac.c b)),(12,.var 58 (ac.c a)),(3,vC 0 0)] 24)⟩<|gR 10 rfl<|qBe 34 rfl rfl rfl h ?_ ?_<;>intro h;refine gR 9 I ?_;obtain⟨rfl,rfl⟩:=h;exact gE J [(5,.var 58 (ac.c b))] [(6,.ptr 5 0)] [0,1,2,24,25,3] [.cell 6 58];refine gR 10 I ?_;obtain⟨rfl,rfl⟩:=h;exact gE J [(5,.var 58 (ac.c a))] [(6,.ptr 5 0)] [0,1,2,24,25,3] [.cell 6 58];refine gR 11 rfl<|qBe 34 rfl rfl rfl h ?_ ?_<;>intro h;refine gR 9 I ?_;obtain⟨rfl,rfl⟩:=h;exact gE J [(5,.var 58 (ac.c b))] [(6,.ptr 5 0)] [0,1,2,16,17,3] [.cell 6 58];refine gR 10 I ?_;obtain⟨rfl,rfl⟩:=h;exact gE J [(5,.var 58 (ac.c a))] [(6,.ptr 5 0)] [0,1,2,16,17,3] [.cell 6 58]
def iG(m:Nat)(p1:Tree)(b d:ac)(a:CKr)(G:ac)(q0:CKr):Prop:=y6 [2,1,0] f169 (z8 (.agg<|ac.c G) ⟨6,(CKr.y q0 3)⟩) [.seq<|xA<|aj f169] 55 [(0,.ptr 0 0),(4,.box (ak p1) 0),(6,.ptr 3 0),(7,.ptr 4 0)] ⟨7,(CKr.z a [(4,.var 197 [qi b.simple,qi b.lists,qi d.simple,qi d.lists]),(3,vC 0 0)] 5)⟩
def mE(m:Nat)(p1:Tree)(b d:ac)(a:CKr)(G:ac)(q0:CKr):Prop:=y5 [2,1,0] f169 (z8 (.agg<|ac.c G) ⟨6,(CKr.y q0 3)⟩) (xG<|xI<|aj f169) [.loop (xG<|xI<|aj f169) 3,.blk 0,.seq<|xA<|xF<|aj f169] 55 [(0,.ptr 0 0),(4,.box (ak p1) 0),(6,.ptr 3 0),(37,.agg [qi b.simple,qi b.lists,qi d.simple,qi d.lists]),(38,qi 0)] ⟨6,(CKr.z a [(3,vC 0 0)] 4)⟩
def fh(m:Nat)(p1:Tree)(b d:ac)(a:CKr)(G:ac)(q0:CKr):Prop:=y5 [2,1,0] f169 (z8 (.agg<|ac.c G) ⟨6,(CKr.y q0 3)⟩) (xG<|xI<|aj f169) [.loop (xG<|xI<|aj f169) 2,.blk 0,.seq<|xA<|xF<|aj f169] 55 [(0,.ptr 0 0),(4,.box (ak p1) 0),(6,.ptr 3 0),(37,.agg [qi b.simple,qi b.lists,qi d.simple,qi d.lists]),(38,qi 1)] ⟨6,(CKr.z a [(3,vC 0 0)] 4)⟩
def ff(m:Nat)(p1:Tree)(b d:ac)(a:CKr)(G:ac)(q0:CKr):Prop:=y5 [2,1,0] f169 (z8 (.agg<|ac.c G) ⟨6,(CKr.y q0 3)⟩) (xG<|xI<|aj f169) [.loop (xG<|xI<|aj f169) 1,.blk 0,.seq<|xA<|xF<|aj f169] 55 [(0,.ptr 0 0),(4,.box (ak p1) 0),(6,.ptr 3 0),(37,.agg [qi b.simple,qi b.lists,qi d.simple,qi d.lists]),(38,qi 2)] ⟨6,(CKr.z a [(3,vC 0 0)] 4)⟩
theorem um(m:Nat)(J:CKr)(p1:Tree)(p2:List az)(O:ac)(q0:CKr)(h:∃d a,bu J p1 0 p2 d a∧∃c b,bu a p1 1 p2 c b∧iG m p1 d c b O q0):ja J p1 p2 O q0:=by
 refine qA 55 [2,1,0] func169 λK G=>?_;refine gR 3 I<|gFP 5 I I I I<|gR 4 I<|qDs [] 10 11<|qDr (qR 0 3 2<|qR 4 3 2 []) I I ?_;obtain⟨d,a,e,h⟩:=h;apply bK (i:=3) (j:=9) (by kernel_rfl) rfl rfl rfl rfl;exact(cz (L':=[]) (by kernel_rfl) I I (fS (H:=⟨7,((6,vC 0 0)::CKr.y J 3)⟩) e [0,1,2,3,4] .rfl ⟨⟨_,I,⟨I,I,(vH _ J.faults).symm⟩⟩,⟨⟨_,I,⟨I,I,(vG _ J.path).symm⟩⟩,⟨⟨_,I,⟨I,I,I,I⟩⟩,⟨⟨_,I,⟨I,I,I,I⟩⟩,⟨⟨_,I,⟨I,aJ.rfl⟩⟩,trivial⟩⟩⟩⟩⟩ I [] I)<|.inl I);exact(bm ah I I);refine qHX ⟨13,(CKr.z a [(6,vC 0 0)] 10)⟩ ?_;obtain⟨c,b,f,h⟩:=h;apply bK (i:=7) (j:=9) (by kernel_rfl) rfl rfl rfl rfl;exact(cz (L':=[]) (by kernel_rfl) I I (fS (H:=⟨13,(CKr.z a [(6,vC 0 0)] 10)⟩) f [0,1,2,10,11] .rfl ⟨⟨_,I,⟨I,I,(vH _ a.faults).symm⟩⟩,⟨⟨_,I,⟨I,I,(vG _ a.path).symm⟩⟩,⟨⟨_,I,⟨I,I,I,I⟩⟩,⟨⟨_,I,⟨I,I,I,I⟩⟩,⟨⟨_,I,⟨I,aJ.rfl⟩⟩,trivial⟩⟩⟩⟩⟩ I [] I)<|.inl I);exact(bm ah I I);exact qHX ⟨19,(CKr.z b [(6,vC 0 0)] 16)⟩<|qDr [(8,2),(9,0),(10,1)] I I<|qDe<|qJ G (h K G) [0,1,2,6,19,16,17];refine qDC 7 f [0,1,2,10,11] I ?_;exact qHX ⟨20,(CKr.z b [(13,.var 197 [qi 0,qi 0,qi 0,qi 0]),(6,vC 0 0)] 17)⟩<|qDr [(8,0),(10,1)] I I<|qDe<|qJ G (h K G) [0,1,2,6,13,17,18];refine qDC 3 e [0,1,2,3,4] I ?_;refine qHX ⟨14,(CKr.z a [(7,.var 197 [qi 0,qi 0,qi 0,qi 0]),(6,vC 0 0)] 11)⟩ ?_;obtain⟨c,b,g,h⟩:=h;refine qDC 7 g [0,1,2,11,12] I ?_;exact qHX ⟨20,(CKr.z b [(7,.var 197 [qi 0,qi 0,qi 0,qi 0]),(6,vC 0 0)] 17)⟩<|qDr [(8,0),(10,1)] I I<|qDe<|qJ G (h K G) [0,1,2,6,7,17,18]
theorem tm(m:Nat)(p1:Tree)(a b:ac)(f:CKr)(r0:ac)(q0:CKr)(h:q9a p1.text [43] (∃g c,mJ f (a,b) g c∧g=r0∧c=q0)<|q9a p1.text [61,61] (∃i,cD a b i∧y8 i (∃d,aH f 6 [1] d∧(ac.mk 7 0)=r0∧d=q0) ((ac.mk 7 0)=r0∧f=q0))<|mE m p1 a b f r0 q0):iG (m+1) p1 a b f r0 q0:=by
 intro K hK;refine gR 9 rfl<|qBe 21 rfl rfl rfl h ?_ ?_<;>intro h;refine gR 5 I ?_;obtain⟨g,c,j,h⟩:=h;refine qC j [0,1,2,5,6] ?_;refine qHX ⟨13,(CKr.z c [(4,.var 197 [qi a.simple,qi a.lists,qi b.simple,qi b.lists]),(3,vC 0 0)] 10)⟩<|gR 5 I ?_;obtain⟨rfl,rfl⟩:=h;exact gE hK [(5,.var 58 (ac.c g))] [(6,.ptr 5 0)] [0,1,2,10,11,3] [.cell 6 58];refine gR 11 rfl<|qBe 27 rfl rfl rfl h ?_ ?_<;>intro h;refine gR 4 I<|gY (yIP (len:=2) (e:=58) (sz:=2) ah I I I I I I I I) I I<|gR 1 I<|gY (yIP (len:=2) (e:=58) (sz:=2) ah I I I I I I I I) I I<|gR 1 I ?_;obtain⟨i,k,h⟩:=h;refine qC0 k rfl<|gR 2 rfl<|qBi 32 rfl rfl rfl h ?_ ?_<;>intro h;refine gR 4 I<|gFR 7 I I I I ?_;obtain⟨d,l,h⟩:=h;refine qC l [0,1,2,5,6] ?_;refine qHX ⟨13,(CKr.z d [(4,.var 197 [qi a.simple,qi a.lists,qi b.simple,qi b.lists]),(3,vC 0 0)] 11)⟩<|gR 10 I ?_;obtain⟨rfl,rfl⟩:=h;exact gE hK [(5,.var 58 (ac.c (ac.mk 7 0)))] [(6,.ptr 5 0)] [0,1,2,11,12,3] [.cell 6 58];refine gR 11 I ?_;obtain⟨rfl,rfl⟩:=h;exact gE hK [(5,.var 58 (ac.c (ac.mk 7 0)))] [(6,.ptr 5 0)] [0,1,2,5,6,3] [.cell 6 58];exact gR 11 I<|go_loop 3<|qJ hK (h K hK) [0,1,2,3,5,6]
theorem tj(m:Nat)(p1:Tree)(b f:ac)(g:CKr)(J:ac)(q0:CKr)(h:∃d,cD b (ac.mk 5 0) d∧y8 d (∃a,aH g 4 [0] a∧fh m p1 b f a J q0) (fh m p1 b f g J q0)):mE (m+1) p1 b f g J q0:=by
 intro K G;refine gR 14 rfl<|gY (KJ (len:=2) (e:=58) (sz:=2) (k:=0) ah rfl rfl (by kernel_rfl) rfl rfl (by decide) rfl) rfl rfl<|gR 9 rfl ?_;obtain⟨d,i,h⟩:=h;refine qC0 i rfl<|gR 2 rfl<|qXi 44 rfl rfl rfl h ?_ ?_<;>intro O h;refine gR 5 I<|gFR 7 I I I I ?_;obtain⟨a,j,h⟩:=h;refine qC j [0,1,2,4,5] ?_;exact qHX ⟨13,(CKr.z a [(6,.var 58 (ac.c b)),(3,vC 0 0)] 11)⟩<|gR 5 I<|gV 49 (qi 1) I (ao (by omega) (by omega)) I<|gR 2 I<|go_xloop<|qJ G (h K G) [0,1,2,3,11,12];exact gR 6 I<|gV 49 (qi 1) I (ao (by omega) (by omega)) I<|gR 2 I<|go_xloop<|qJ G (h K G) [0,1,2,3,4,5]
theorem rL2_typing_checker_operation(m:Nat)(p1:Tree)(f b:ac)(g:CKr)(J:ac)(q0:CKr)(h:∃d,cD b (ac.mk 5 0) d∧y8 d (∃a,aH g 4 [1] a∧ff m p1 f b a J q0) (ff m p1 f b g J q0)):fh (m+1) p1 f b g J q0:=by
 intro K G;refine gR 14 rfl<|gY (KJ (len:=2) (e:=58) (sz:=2) (k:=1) ah rfl rfl (by kernel_rfl) rfl rfl (by decide) rfl) rfl rfl<|gR 9 rfl ?_;obtain⟨d,i,h⟩:=h;refine qC0 i rfl<|gR 2 rfl<|qXi 44 rfl rfl rfl h ?_ ?_<;>intro O h;refine gR 5 I<|gFR 7 I I I I ?_;obtain⟨a,j,h⟩:=h;refine qC j [0,1,2,4,5] ?_;exact qHX ⟨13,(CKr.z a [(6,.var 58 (ac.c b)),(3,vC 0 0)] 11)⟩<|gR 5 I<|gV 49 (qi 2) I (ao (by omega) (by omega)) I<|gR 2 I<|go_xloop<|qJ G (h K G) [0,1,2,3,11,12];exact gR 6 I<|gV 49 (qi 2) I (ao (by omega) (by omega)) I<|gR 2 I<|go_xloop<|qJ G (h K G) [0,1,2,3,4,5]
theorem rL3_typing_checker_operation(m:Nat)(p1:Tree)(b c:ac)(a:CKr)(G:ac)(q0:CKr)(h:q9a p1.text [60] ((ac.mk 7 0)=G∧a=q0)<|(ac.mk 5 0)=G∧a=q0):ff (m+1) p1 b c a G q0:=by
 intro K J;refine gR 9 rfl<|go_xloopE<|gR 10 rfl<|qBe 52 rfl rfl rfl h ?_ ?_<;>intro h;refine gR 9 I ?_;obtain⟨rfl,rfl⟩:=h;exact gE J [(5,.var 58 (ac.c (ac.mk 7 0)))] [(6,.ptr 5 0)] [0,1,2,4,5,3] [.cell 6 58];refine gR 10 I ?_;obtain⟨rfl,rfl⟩:=h;exact gE J [(5,.var 58 (ac.c (ac.mk 5 0)))] [(6,.ptr 5 0)] [0,1,2,4,5,3] [.cell 6 58]
def rz(m:Nat)(G:CKr)(p1:(ac×ac))(J:ac)(q0:CKr):Prop:=y5 [2,1,0] f184 (z8 (.agg<|ac.c J) ⟨6,(CKr.y q0 3)⟩) (xG<|xF<|aj f184) [.loop (xG<|xF<|aj f184) 3,.blk 0,.seq<|xI<|aj f184] 49 [(0,.ptr 0 0),(3,.box [qi p1.1.simple,qi p1.1.lists,qi p1.2.simple,qi p1.2.lists] 0),(4,.ptr 3 0),(5,.bool false),(6,.ptr 4 0),(9,.agg [qi p1.1.simple,qi p1.1.lists,qi p1.2.simple,qi p1.2.lists]),(10,qi 0)] ⟨7,(CKr.z G [(4,vC 0 0),(3,vC 0 0)] 5)⟩
def iO(m:Nat)(G:CKr)(p1:(ac×ac))(a:Bool)(J:ac)(q0:CKr):Prop:=y5 [2,1,0] f184 (z8 (.agg<|ac.c J) ⟨6,(CKr.y q0 3)⟩) (cB<|xD<|cK<|cA<|xA<|xG<|xF<|aj f184) [.blk 2,.blk 1,.seq<|xF<|xG<|xF<|aj f184,.loop (xG<|xF<|aj f184) 3,.blk 0,.seq<|xI<|aj f184] 49 [(0,.ptr 0 0),(3,.box [qi p1.1.simple,qi p1.1.lists,qi p1.2.simple,qi p1.2.lists] 0),(4,.ptr 3 0),(5,.bool false),(6,.ptr 4 0),(7,qi 0),(8,.ptr 5 0),(9,.agg [qi p1.1.simple,qi p1.1.lists,qi p1.2.simple,qi p1.2.lists]),(10,qi 0),(14,.bool a)] ⟨8,(CKr.z G [(5,.var 58<|ac.c p1.1),(4,vC 0 0),(3,vC 0 0)] 6)⟩
def fU(m:Nat)(p1:(ac×ac))(a:CKr)(b:Bool)(d e:Int)(G:ac)(q0:CKr):Prop:=y5 [2,1,0] f184 (z8 (.agg<|ac.c G) ⟨6,(CKr.y q0 3)⟩) (xG<|xF<|aj f184) [.loop (xG<|xF<|aj f184) 2,.blk 0,.seq<|xI<|aj f184] 49 [(0,.ptr 0 0),(3,.box [qi p1.1.simple,qi p1.1.lists,qi p1.2.simple,qi p1.2.lists] 0),(4,.ptr 3 0),(5,.bool b),(6,.ptr 4 0),(9,.agg [qi p1.1.simple,qi p1.1.lists,qi p1.2.simple,qi p1.2.lists]),(10,qi 1)] ⟨7,(CKr.z a [(4,vC d e),(3,vC 0 0)] 5)⟩
def iJ(m:Nat)(p1:(ac×ac))(a:CKr)(b:Bool)(d e:Int)(f:Bool)(G:ac)(q0:CKr):Prop:=y5 [2,1,0] f184 (z8 (.agg<|ac.c G) ⟨6,(CKr.y q0 3)⟩) (cB<|xD<|cK<|cA<|xA<|xG<|xF<|aj f184) [.blk 2,.blk 1,.seq<|xF<|xG<|xF<|aj f184,.loop (xG<|xF<|aj f184) 2,.blk 0,.seq<|xI<|aj f184] 49 [(0,.ptr 0 0),(3,.box [qi p1.1.simple,qi p1.1.lists,qi p1.2.simple,qi p1.2.lists] 0),(4,.ptr 3 0),(5,.bool b),(6,.ptr 4 0),(7,qi 1),(8,.ptr 5 0),(9,.agg [qi p1.1.simple,qi p1.1.lists,qi p1.2.simple,qi p1.2.lists]),(10,qi 1),(14,.bool f)] ⟨8,(CKr.z a [(5,.var 58<|ac.c p1.2),(4,vC d e),(3,vC 0 0)] 6)⟩
def ee(m:Nat)(p1:(ac×ac))(b d:Int)(a:CKr)(e:Bool)(G:ac)(q0:CKr):Prop:=y5 [2,1,0] f184 (z8 (.agg<|ac.c G) ⟨6,(CKr.y q0 3)⟩) (xG<|xF<|aj f184) [.loop (xG<|xF<|aj f184) 1,.blk 0,.seq<|xI<|aj f184] 49 [(0,.ptr 0 0),(3,.box [qi p1.1.simple,qi p1.1.lists,qi p1.2.simple,qi p1.2.lists] 0),(4,.ptr 3 0),(5,.bool e),(6,.ptr 4 0),(9,.agg [qi p1.1.simple,qi p1.1.lists,qi p1.2.simple,qi p1.2.lists]),(10,qi 2)] ⟨7,(CKr.z a [(4,vC b d),(3,vC 0 0)] 5)⟩
theorem yc(m:Nat)(p0:CKr)(p1:(ac×ac))(r0:ac)(q0:CKr)(h:rz m p0 p1 r0 q0):mJ p0 p1 r0 q0:=by
 refine qA 49 [2,1,0] func184 λK hK=>?_;exact gR 3 I<|gFP 5 I I I I<|gR 21 I<|go_loop 3<|qJ hK (h K hK) [0,1,2,6,7,3,4]
theorem xg(m:Nat)(J:CKr)(p1:(ac×ac))(O:ac)(q0:CKr)(h:y7 (p1.1.simple=5∧p1.1.lists=0) (iO m J p1 true O q0)<|iO m J p1 (p1.1.simple==6&&p1.1.lists==0) O q0):rz (m+1) J p1 O q0:=by
 intro K G;refine gR 14 rfl<|gY (KJ (len:=2) (e:=58) (sz:=2) (k:=0) ah rfl rfl (by kernel_rfl) rfl rfl (by decide) rfl) rfl rfl<|gR 10 rfl<|gY (v:=.bool (p1.1.simple==5&&p1.1.lists==0)) (DF (neg:=false) underlying58 (by kernel_rfl) (by kernel_rfl) (by decide) (by decide) rfl rfl (by kernel_rfl) (by kernel_rfl) rfl rfl qI qI qI qI (eI underlying3) (eI underlying3)) rfl rfl<|gR 1 rfl<|qBhZ 18 17 rfl rfl rfl rfl h Kx KD ?_ ?_<;>intro h;exact gR 7 I<|qJ G (h K G) [0,1,2,3,4,7,5,6];exact gR 2 rfl<|gY (v:=.bool (p1.1.simple==6&&p1.1.lists==0)) (DF (neg:=false) underlying58 (by kernel_rfl) (by kernel_rfl) (by decide) (by decide) rfl rfl (by kernel_rfl) (by kernel_rfl) rfl rfl qI qI qI qI (eI underlying3) (eI underlying3)) rfl rfl<|gR 4 rfl<|qJ G (h K G) [0,1,2,3,4,7,5,6]
theorem xd(m:Nat)(J:CKr)(p1:(ac×ac))(b:Bool)(O:ac)(q0:CKr)(h:y8 b (fU m p1 J false p1.1.simple p1.1.lists O q0)<|q3a p1.1.simple 0 (∃a,aH J 4 [0] a∧fU m p1 a true 0 0 O q0) (fU m p1 J false 0 0 O q0)):iO (m+1) J p1 b O q0:=by
 intro K G;refine qXi 14 rfl rfl rfl h ?_ ?_<;>intro U h;exact gR 18 I<|gV 35 (qi 1) I (ao (by omega) (by omega)) I<|gR 2 I<|go_xloop<|qJ G (h K G) [0,1,2,3,4,6,7];refine gR 9 rfl<|qXhZ 27 30 rfl rfl rfl rfl h dY cO ?_ ?_<;>intro U h;refine gR 10 I<|gFR 8 I I I I ?_;obtain⟨a,d,h⟩:=h;refine qC d [0,1,2,6,7] ?_;exact qHX ⟨14,(CKr.z a [(5,.var 58 (ac.c p1.1)),(4,vC 0 0),(3,vC 0 0)] 12)⟩<|gR 6 I<|gV 35 (qi 1) I (ao (by omega) (by omega)) I<|gR 2 I<|go_xloop<|qJ G (h K G) [0,1,2,3,4,12,13];exact gR 7 I<|gV 35 (qi 1) I (ao (by omega) (by omega)) I<|gR 2 I<|go_xloop<|qJ G (h K G) [0,1,2,3,4,6,7]
theorem rL2_typing_checker_sum(m:Nat)(p1:(ac×ac))(a:CKr)(b:Bool)(c d:Int)(J:ac)(q0:CKr)(h:y7 (p1.2.simple=5∧p1.2.lists=0) (iJ m p1 a b c d true J q0)<|iJ m p1 a b c d (p1.2.simple==6&&p1.2.lists==0) J q0):fU (m+1) p1 a b c d J q0:=by
 intro K G;refine gR 14 rfl<|gY (KJ (len:=2) (e:=58) (sz:=2) (k:=1) ah rfl rfl (by kernel_rfl) rfl rfl (by decide) rfl) rfl rfl<|gR 10 rfl<|gY (v:=.bool (p1.2.simple==5&&p1.2.lists==0)) (DF (neg:=false) underlying58 (by kernel_rfl) (by kernel_rfl) (by decide) (by decide) rfl rfl (by kernel_rfl) (by kernel_rfl) rfl rfl qI qI qI qI (eI underlying3) (eI underlying3)) rfl rfl<|gR 1 rfl<|qBhZ 18 17 rfl rfl rfl rfl h Kx KD ?_ ?_<;>intro h;exact gR 7 I<|qJ G (h K G) [0,1,2,3,4,7,5,6];exact gR 2 rfl<|gY (v:=.bool (p1.2.simple==6&&p1.2.lists==0)) (DF (neg:=false) underlying58 (by kernel_rfl) (by kernel_rfl) (by decide) (by decide) rfl rfl (by kernel_rfl) (by kernel_rfl) rfl rfl qI qI qI qI (eI underlying3) (eI underlying3)) rfl rfl<|gR 4 rfl<|qJ G (h K G) [0,1,2,3,4,7,5,6]
theorem xn(m:Nat)(p1:(ac×ac))(d:CKr)(f:Bool)(b e:Int)(g:Bool)(J:ac)(q0:CKr)(h:y8 g (q9a b 0 (ee m p1 p1.2.simple p1.2.lists d f J q0)<|ee m p1 b e d f J q0)<|q3a p1.2.simple 0 (∃a,aH d 4 [1] a∧ee m p1 b e a true J q0) (ee m p1 b e d f J q0)):iJ (m+1) p1 d f b e g J q0:=by
 intro K G;refine qXi 14 rfl rfl rfl h ?_ ?_<;>intro O h;refine gR 8 rfl<|qXe 25 rfl rfl rfl h ?_ ?_<;>intro O h;exact gR 10 I<|gV 35 (qi 2) I (ao (by omega) (by omega)) I<|gR 2 I<|go_xloop<|qJ G (h K G) [0,1,2,3,4,6,7];exact gR 7 I<|gV 35 (qi 2) I (ao (by omega) (by omega)) I<|gR 2 I<|go_xloop<|qJ G (h K G) [0,1,2,3,4,6,7];refine gR 9 rfl<|qXhZ 27 30 rfl rfl rfl rfl h dY cO ?_ ?_<;>intro O h;refine gR 10 I<|gFR 8 I I I I ?_;obtain⟨a,i,h⟩:=h;refine qC i [0,1,2,6,7] ?_;exact qHX ⟨14,(CKr.z a [(5,.var 58 (ac.c p1.2)),(4,vC b e),(3,vC 0 0)] 12)⟩<|gR 6 I<|gV 35 (qi 2) I (ao (by omega) (by omega)) I<|gR 2 I<|go_xloop<|qJ G (h K G) [0,1,2,3,4,12,13];exact gR 7 I<|gV 35 (qi 2) I (ao (by omega) (by omega)) I<|gR 2 I<|go_xloop<|qJ G (h K G) [0,1,2,3,4,6,7]
theorem xc(m:Nat)(p1:(ac×ac))(a b:Int)(d:CKr)(g:Bool)(G:ac)(q0:CKr)(h:y9 g (∃f,cD p1.1 p1.2 f∧y8 f (∃c,aH d 6 [1] c∧(ac.mk a b)=G∧c=q0) ((ac.mk a b)=G∧d=q0))<|(ac.mk a b)=G∧d=q0):ee (m+1) p1 a b d g G q0:=by
 intro K J;refine gR 9 rfl<|go_xloopE<|gR 8 rfl<|qBhZ 38 37 rfl rfl rfl rfl h bD bC ?_ ?_<;>intro h;refine gY (yIA (len:=2) (e:=58) (sz:=2) ah rfl rfl rfl rfl rfl rfl (by decide) rfl (Nat.le_of_ble_eq_true rfl)) rfl rfl<|gR 1 rfl<|gY (yIA (len:=2) (e:=58) (sz:=2) ah rfl rfl rfl rfl rfl rfl (by decide) rfl (Nat.le_of_ble_eq_true rfl)) rfl rfl<|gR 1 rfl ?_;obtain⟨f,i,h⟩:=h;refine qC0 i rfl<|gR 3 rfl<|qBi 44 rfl rfl rfl h ?_ ?_<;>intro h;refine gR 4 I<|gFR 7 I I I I ?_;obtain⟨c,j,h⟩:=h;refine qC j [0,1,2,5,6] ?_;refine qHX ⟨13,(CKr.z c [(4,vC a b),(3,vC 0 0)] 11)⟩<|gR 9 I ?_;obtain⟨rfl,rfl⟩:=h;exact gE J [(5,.var 58 (ac.c (ac.mk a b)))] [(4,.ptr 5 0)] [0,1,2,11,12,3] [.cell 4 58];refine gR 10 I ?_;obtain⟨rfl,rfl⟩:=h;exact gE J [(5,.var 58 (ac.c (ac.mk a b)))] [(4,.ptr 5 0)] [0,1,2,5,6,3] [.cell 4 58];refine gR 18 I ?_;obtain⟨rfl,rfl⟩:=h;exact gE J [(5,.var 58 (ac.c (ac.mk a b)))] [(4,.ptr 5 0)] [0,1,2,5,6,3] [.cell 4 58]
open Go.RowKit Go.Shelf Lx Sx
def Bb:Go.Shelf.Ren:=⟨fun|4=>137|n=>n,fun|22=>23|25=>3|3=>3|4=>4|9=>9|0=>0|20=>20|n=>n,fun|n=>n⟩
theorem NM:Go.Proofs.Lays8.n4 prog Bb:={
 mixed:=by kernel_rfl
 f4:=⟨ "slices.Grow[[]int,int]",by decide,func137.trans (congrArg some (by kernel_rfl))⟩
 t0:=underlying0
 a0:=isAgg0
 z0:=sizeOf0
 v0:=zeroValue0
 t3:=underlying3
 a3:=isAgg3
 z3:=sizeOf3
 v3:=zeroValue3
 t4:=underlying4
 a4:=isAgg4
 z4:=sizeOf4
 v4:=zeroValue4
 t9:=underlying9
 a9:=isAgg9
 z9:=sizeOf9
 v9:=zeroValue9
 t20:=underlying20
 a20:=isAgg20
 z20:=sizeOf20
 v20:=zeroValue20
 t22:=underlying23
 a22:=isAgg23
 z22:=sizeOf23
 v22:=zeroValue23}
theorem Qz{w:World}{g n c:Nat}{e:TypeId}{C xs:List Value}(h:Blk w g e C)(G:C.length=c)(J:n<=c)(O:c<=maxLen)(hx:C.take n=xs):w.ownsRow 0 e 1 (.slice (some ⟨g,0,none⟩) n c) n xs:=by refine⟨by rw[<-hx,aau];omega,.inr ⟨g,c,C.toArray,rfl,aao _,h,J,O,by simp[G],by simpa using hx⟩⟩
theorem NW(w:World)(n:Nat)(hn:n<=1000000000):Calls prog 137 #[.slice none 0 0,.int .i64 (n:Int)] w λe w'=>∃v,e=.returned v∧w'.ownsRow 0 3 1 v 0 []∧Chg [] w w'∧∀b,v.ownBlock=some b->w.heap.size<=b:=by
 have L:=NM;by_cases h0:n=0
 ·subst h0;refine(Any8.slices_Grow_room L none 0 0 0 w (by omega) (by omega) (by omega)<|by omega).mono ?_;rintro e w' ⟨rfl,rfl⟩;exact⟨_,rfl,⟨rfl,.inl ⟨rfl,rfl⟩⟩,Chg.refl _ _,λb hb=>by cases hb⟩
 ·have hi:(prog.info? 3).map (λi=>(i.zero,i.size,i.bytes))=some (some<|.int .i64 0,1,8):=by kernel_rfl
  obtain⟨i0,h1,U⟩:=Option.map_eq_some_iff.1 hi;simp only[Prod.mk.injEq]at U;obtain⟨h2,h3,h4⟩:=U;refine(Any8.slices_Grow_grow L i0 (.int .i64 0) h1 h2 (by omega) none 0 0 n [] w (by omega) (by omega) (by rw[h4];omega) (by omega) (by simp) (λ_=>rfl) λa h=>by cases h).mono ?_;rintro e w' ⟨rfl,rfl⟩;have J:=grownCap_ge w (0+n) 0<|Bb.t 25;have O:=grownCap_le_maxLen w (0+n) 0 (Bb.t 25) (by simp only[maxLen];omega);obtain⟨G,hG⟩:∃G,G=grownCap w (0+n) 0 (Bb.t 25):=⟨_,rfl⟩;rw[<-hG]at J O⊢;obtain⟨C,Z⟩:∃C:List Value,C=(Builtin.zeroCells (Value.int .i64 0).cells<|0+n-0).toList++(Builtin.zeroCells (Value.int .i64 0).cells<|G-(0+n)).toList:=⟨_,rfl⟩;have e:(([]:List Value).toArray++Builtin.zeroCells (Value.int .i64 0).cells (0+n-0)++Builtin.zeroCells (Value.int .i64 0).cells (G-(0+n)))=C.toArray:=by rw[Z];apply Array.ext';simp
  rw[e];have hz:∀k,(Builtin.zeroCells (Value.int .i64 0).cells k).toList.length=k*1:=λk=>size_zeroCells _ _;have hl:C.length=G:=by rw[Z,aab,hz,hz];omega
  refine⟨_,rfl,Qz (Blk.new w.drew _ C) hl (aao _) O (by simp),(Chg.drew w).trans (Chg.alloc _ _) (by simp),λb hb=>?_⟩;simp only[Value.ownBlock,aad]at hb;omega
theorem SE(n:Nat)(Z:n<=1000000000):zD (n:Int) []:=λS w ρ xs hr hx=>by
 simp only[LRel,VRel]at hx;obtain⟨x,ys,rfl,rfl,y,zs,rfl,rfl,rfl⟩:=hx;refine(NW w n Z).mono λe w' hR=>?_;obtain⟨v,rfl,O,g3,g4⟩:=hR;have hf:(⟨0,[]⟩:Hp).get 0=.free:=rfl;have J:=eff_new (x:=v) (o:=.row 3 1 (([]:YI).map (V.int .i64))) hr hf g3 ⟨v,[],bh _ _ _,O,by simp[CRel]⟩ (λb hb=>by obtain⟨q,U,e2⟩:=hb;rw[bh]at U;cases U;exact g4 b e2)
 have G:cn (⟨0,[]⟩:Hp).get 0 (.row 3 1<|([]:YI).map<|V.int .i64)=(⟨1,[(0,.row 3 1<|([]:YI).map<|V.int .i64)]⟩:Hp).get:=by
  funext j
  match j with
  |0=>rfl
  |n+1=>rfl
 rw[G]at J;have hi:Inv ⟨w,S,λb=>∃id,own ρ id ((⟨0,[]⟩:Hp).get id) b,xt [] (⟨0,[]⟩:Hp).get ρ⟩ S w ρ (⟨0,[]⟩:Hp).get:=⟨ChgP.refl _ _,λ_ h=>h,λ_ h=>.inl h,λid b hb=>.inl ⟨id,hb⟩,λid x h=>by
  simp only[xt]at h;split at h
  ·exact h
  ·cases h⟩
 exact⟨v,S,fc ρ 0 v,_,_,rfl,⟨rfl,rfl⟩,J.hr,hi.eff J,by simp only[VRel];exact⟨bh _ _ _,Dw O⟩⟩
open Go.RowKit Lx
theorem qmm{P:Program}{f:FuncId}{a:Array Value}{w:World}{v:Ending}{Q:Ending->World->Prop}(h:Calls P f a w λe w'=>e=v∧w=w')(k:Q v w):Calls P f a w Q:=h.mono λe w' z=>by obtain⟨rfl,rfl⟩:=z;exact k
variable{w':World}
theorem qEx{w:World}(h:Ext w w':=by repeat (first|exact Ext.refl _|apply Ext.alloc|(refine Ext.setCell ?_ (aaf _) _))):Ext w w':=h
theorem cb{a b:Bool}(h:a=b):Ending.returned (.bool a)=.returned (.bool b):=by rw[h]
theorem bZ{k:IntKind}{a b:Int}(h:a=b):Ending.returned (.int k a)=.returned (.int k b):=by rw[h]
theorem yZ(n m:Nat):((n:Int)==(m:Int))=(n==m):=by rw[Bool.eq_iff_iff];simp;omega
theorem fQ(c:UInt8)(w:World):Calls prog 155 #[.int .u8 (c.toNat:Int)] w λe w'=>e=.returned (.bool<|di c)∧w=w':=by
 go_enter func155,ntmps155
 go_wp2<;>(go_ret;go_light;refine⟨cb ?_,rfl⟩;(first|rw[Bool.eq_iff_iff]|skip);simp_all[di]<;>omega)
theorem cW(c:UInt8)(w:World):Calls prog 188 #[.int .u8 (c.toNat:Int)] w λe w'=>e=.returned (.bool<|di c)∧w=w':=by
 go_enter func188,ntmps188
 go_wp2<;>(go_ret;go_light;refine⟨cb ?_,rfl⟩;(first|rw[Bool.eq_iff_iff]|skip);simp_all[di]<;>omega)
theorem fO(c:UInt8)(w:World):Calls prog 156 #[.int .u8 (c.toNat:Int)] w λe w'=>e=.returned (.bool<|upperB c)∧w=w':=by
 go_enter func156,ntmps156
 go_wp2<;>(go_ret;go_light;refine⟨cb ?_,rfl⟩;(first|rw[Bool.eq_iff_iff]|skip);simp_all[upperB]<;>omega)
theorem bB(c:UInt8)(w:World):Calls prog 189 #[.int .u8 (c.toNat:Int)] w λe w'=>e=.returned (.bool<|upperB c)∧w=w':=by
 go_enter func189,ntmps189
 go_wp2<;>(go_ret;go_light;refine⟨cb ?_,rfl⟩;(first|rw[Bool.eq_iff_iff]|skip);simp_all[upperB]<;>omega)
theorem fw(c:UInt8)(w:World):Calls prog 117 #[.int .u8 (c.toNat:Int)] w λe w'=>e=.returned (.bool<|ci c)∧w=w':=by
 go_enter func117,ntmps117
 go_wp2<;>(go_ret;go_light;refine⟨cb ?_,rfl⟩;(first|rw[Bool.eq_iff_iff]|skip);simp_all[ci]<;>omega)
theorem ej(c:UInt8)(w:World):Calls prog 187 #[.int .u8 (c.toNat:Int)] w λe w'=>e=.returned (.bool<|ci c)∧w=w':=by
 go_enter func187,ntmps187
 go_wp2<;>(go_ret;go_light;refine⟨cb ?_,rfl⟩;(first|rw[Bool.eq_iff_iff]|skip);simp_all[ci]<;>omega)
theorem RQ(c:UInt8)(w:World):Calls prog 77 #[.int .u8 (c.toNat:Int)] w λe w'=>e=.returned (.bool<|cM c)∧w=w':=by
 go_enter func77,ntmps77
 go_wp2<;>(go_ret;go_light;refine⟨cb ?_,rfl⟩;(first|rw[Bool.eq_iff_iff]|skip);simp_all[cM]<;>omega)
theorem mw(c:UInt8)(w:World):Calls prog 170 #[.int .u8 (c.toNat:Int)] w λe w'=>e=.returned (.bool<|cM c)∧w=w':=by
 go_enter func170,ntmps170
 go_wp2<;>(go_ret;go_light;refine⟨cb ?_,rfl⟩;(first|rw[Bool.eq_iff_iff]|skip);simp_all[cM]<;>omega)
theorem cG(c:UInt8)(w:World):Calls prog 186 #[.int .u8 (c.toNat:Int)] w λe w'=>e=.returned (.bool<|fG c)∧w=w':=by
 go_enter func186,ntmps186
 go_wp2<;>(go_ret;go_light;refine⟨cb ?_,rfl⟩;(first|rw[Bool.eq_iff_iff]|skip);simp_all[fG]<;>omega)
theorem bW(c:UInt8)(w:World):Calls prog 115 #[.int .u8 (c.toNat:Int)] w λe w'=>e=.returned (.bool<|bO c)∧w=w':=by
 cases G:di c<;>cases h1:upperB c
 all_goals
  go_enter func115,ntmps115
  go_wp2_with (first|(go_at_call 155;refine qmm (fQ _ _) ?_)|(go_at_call 156;refine qmm (fO _ _) ?_))
  all_goals (go_ret;go_light;refine⟨cb ?_,rfl⟩;(first|(simp[bO,G,h1];done)|with_reducible exact yZ _ _|((first|rw[Bool.eq_iff_iff]|skip);simp_all[bO]<;>omega)))
theorem ew(c:UInt8)(w:World):Calls prog 78 #[.int .u8 (c.toNat:Int)] w λe w'=>e=.returned (.bool<|bo c)∧w=w':=by
 cases G:cM c
 all_goals
  go_enter func78,ntmps78
  go_wp2_with (first|(go_at_call 77;refine qmm (RQ _ _) ?_))
  all_goals (go_ret;go_light;refine⟨cb ?_,rfl⟩;(first|(simp[bo,fG,cM,G];done)|with_reducible exact yZ _ _|((first|rw[Bool.eq_iff_iff]|skip);simp_all[bo,fG,cM]<;>omega)))
theorem bF(c:UInt8)(w:World):Calls prog 185 #[.int .u8 (c.toNat:Int)] w λe w'=>e=.returned (.bool<|bo c)∧w=w':=by
 cases G:cM c<;>cases h1:fG c
 all_goals
  go_enter func185,ntmps185
  go_wp2_with (first|(go_at_call 170;refine qmm (mw _ _) ?_)|(go_at_call 186;refine qmm (cG _ _) ?_))
  all_goals (go_ret;go_light;refine⟨cb ?_,rfl⟩;(first|(simp[bo,G,h1];done)|with_reducible exact yZ _ _|((first|rw[Bool.eq_iff_iff]|skip);simp_all[bo]<;>omega)))
theorem vj(c:UInt8)(w:World):Calls prog 200 #[.int .u8 (c.toNat:Int)] w λe w'=>e=.returned (.bool<|bi c)∧w=w':=by
 cases G:di c<;>cases h1:upperB c<;>cases h2:ci c
 all_goals
  go_enter func200,ntmps200
  go_wp2_with (first|(go_at_call 188;refine qmm (cW _ _) ?_)|(go_at_call 189;refine qmm (bB _ _) ?_)|(go_at_call 187;refine qmm (ej _ _) ?_))
  all_goals (go_ret;go_light;refine⟨cb ?_,rfl⟩;(first|(simp[bi,bO,G,h1,h2];done)|with_reducible exact yZ _ _|((first|rw[Bool.eq_iff_iff]|skip);simp_all[bi,bO]<;>omega)))
theorem JP(w:World):Calls prog 158 #[.string ⟨([109,111,100,117,108,101]:YB).toArray⟩] w λe w'=>e=.returned (.bool true)∧w=w':=by
 go_enter func158,ntmps158
 go_wp2
 go_ret
 exact⟨I,I⟩
theorem Kd(w:World):Calls prog 158 #[.string ⟨([100,101,102]:YB).toArray⟩] w λe w'=>e=.returned (.bool true)∧w=w':=by
 go_enter func158,ntmps158
 go_wp2
 go_ret
 exact⟨I,I⟩
theorem KW(w:World):Calls prog 158 #[.string ⟨([116,121,112,101]:YB).toArray⟩] w λe w'=>e=.returned (.bool true)∧w=w':=by
 go_enter func158,ntmps158
 go_wp2
 go_ret
 exact⟨I,I⟩
theorem KT(w:World):Calls prog 158 #[.string ⟨([108,101,116]:YB).toArray⟩] w λe w'=>e=.returned (.bool true)∧w=w':=by
 go_enter func158,ntmps158
 go_wp2
 go_ret
 exact⟨I,I⟩
theorem Kg(w:World):Calls prog 158 #[.string ⟨([105,110]:YB).toArray⟩] w λe w'=>e=.returned (.bool true)∧w=w':=by
 go_enter func158,ntmps158
 go_wp2
 go_ret
 exact⟨I,I⟩
theorem KC(w:World):Calls prog 158 #[.string ⟨([105,102]:YB).toArray⟩] w λe w'=>e=.returned (.bool true)∧w=w':=by
 go_enter func158,ntmps158
 go_wp2
 go_ret
 exact⟨I,I⟩
theorem KU(w:World):Calls prog 158 #[.string ⟨([116,104,101,110]:YB).toArray⟩] w λe w'=>e=.returned (.bool true)∧w=w':=by
 go_enter func158,ntmps158
 go_wp2
 go_ret
 exact⟨I,I⟩
theorem Kc(w:World):Calls prog 158 #[.string ⟨([101,108,115,101]:YB).toArray⟩] w λe w'=>e=.returned (.bool true)∧w=w':=by
 go_enter func158,ntmps158
 go_wp2
 go_ret
 exact⟨I,I⟩
theorem KO(w:World):Calls prog 158 #[.string ⟨([116,114,117,101]:YB).toArray⟩] w λe w'=>e=.returned (.bool true)∧w=w':=by
 go_enter func158,ntmps158
 go_wp2
 go_ret
 exact⟨I,I⟩
theorem Ka(w:World):Calls prog 158 #[.string ⟨([102,97,108,115,101]:YB).toArray⟩] w λe w'=>e=.returned (.bool true)∧w=w':=by
 go_enter func158,ntmps158
 go_wp2
 go_ret
 exact⟨I,I⟩
theorem HV(w:World):Calls prog 158 #[.string ⟨([73,110,116]:YB).toArray⟩] w λe w'=>e=.returned (.bool true)∧w=w':=by
 go_enter func158,ntmps158
 go_wp2
 go_ret
 exact⟨I,I⟩
theorem Ie(w:World):Calls prog 158 #[.string ⟨([84,101,120,116]:YB).toArray⟩] w λe w'=>e=.returned (.bool true)∧w=w':=by
 go_enter func158,ntmps158
 go_wp2
 go_ret
 exact⟨I,I⟩
theorem Iv(w:World):Calls prog 158 #[.string ⟨([66,111,111,108]:YB).toArray⟩] w λe w'=>e=.returned (.bool true)∧w=w':=by
 go_enter func158,ntmps158
 go_wp2
 go_ret
 exact⟨I,I⟩
theorem HU(l:YB)(w:World)(U:(l==[109,111,100,117,108,101])=false)(Z:(l==[100,101,102])=false)(b2:(l==[116,121,112,101])=false)(b3:(l==[108,101,116])=false)(b4:(l==[105,110])=false)(b5:(l==[105,102])=false)(b6:(l==[116,104,101,110])=false)(b7:(l==[101,108,115,101])=false)(b8:(l==[116,114,117,101])=false)(b9:(l==[102,97,108,115,101])=false)(G:(l==[73,110,116])=false)(J:(l==[84,101,120,116])=false)(O:(l==[66,111,111,108])=false):Calls prog 158 #[.string ⟨l.toArray⟩] w λe w'=>e=.returned (.bool false)∧w=w':=by
 go_enter func158,ntmps158
 go_wp2
 go_ret
 exact⟨I,I⟩
theorem cX(l:YB)(w:World):Calls prog 158 #[.string ⟨l.toArray⟩] w λe w'=>e=.returned (.bool<|ng l)∧w=w':=by
 by_cases U:l=[109,111,100,117,108,101]
 ·subst U;exact JP w
 by_cases h1:l=[100,101,102]
 ·subst h1;exact Kd w
 by_cases h2:l=[116,121,112,101]
 ·subst h2;exact KW w
 by_cases Z:l=[108,101,116]
 ·subst Z;exact KT w
 by_cases h4:l=[105,110]
 ·subst h4;exact Kg w
 by_cases h5:l=[105,102]
 ·subst h5;exact KC w
 by_cases h6:l=[116,104,101,110]
 ·subst h6;exact KU w
 by_cases h7:l=[101,108,115,101]
 ·subst h7;exact Kc w
 by_cases h8:l=[116,114,117,101]
 ·subst h8;exact KO w
 by_cases h9:l=[102,97,108,115,101]
 ·subst h9;exact Ka w
 by_cases G:l=[73,110,116]
 ·subst G;exact HV w
 by_cases J:l=[84,101,120,116]
 ·subst J;exact Ie w
 by_cases O:l=[66,111,111,108]
 ·subst O;exact Iv w
 have hr:ng l=false:=by simp[ng,Ld,U,h1,h2,Z,h4,h5,h6,h7,h8,h9,G,J,O]
 rw[hr];exact HU l w (by simpa using U) (by simpa using h1) (by simpa using h2) (by simpa using Z) (by simpa using h4) (by simpa using h5) (by simpa using h6) (by simpa using h7) (by simpa using h8) (by simpa using h9) (by simpa using G) (by simpa using J) (by simpa using O)
theorem JO(w:World):Calls prog 196 #[.string ⟨([109,111,100,117,108,101]:YB).toArray⟩] w λe w'=>e=.returned (.bool true)∧w=w':=by
 go_enter func196,ntmps196
 go_wp2
 go_ret
 exact⟨I,I⟩
theorem KK(w:World):Calls prog 196 #[.string ⟨([100,101,102]:YB).toArray⟩] w λe w'=>e=.returned (.bool true)∧w=w':=by
 go_enter func196,ntmps196
 go_wp2
 go_ret
 exact⟨I,I⟩
theorem KP(w:World):Calls prog 196 #[.string ⟨([116,121,112,101]:YB).toArray⟩] w λe w'=>e=.returned (.bool true)∧w=w':=by
 go_enter func196,ntmps196
 go_wp2
 go_ret
 exact⟨I,I⟩
theorem Kf(w:World):Calls prog 196 #[.string ⟨([108,101,116]:YB).toArray⟩] w λe w'=>e=.returned (.bool true)∧w=w':=by
 go_enter func196,ntmps196
 go_wp2
 go_ret
 exact⟨I,I⟩
theorem Lf(w:World):Calls prog 196 #[.string ⟨([105,110]:YB).toArray⟩] w λe w'=>e=.returned (.bool true)∧w=w':=by
 go_enter func196,ntmps196
 go_wp2
 go_ret
 exact⟨I,I⟩
theorem JI(w:World):Calls prog 196 #[.string ⟨([105,102]:YB).toArray⟩] w λe w'=>e=.returned (.bool true)∧w=w':=by
 go_enter func196,ntmps196
 go_wp2
 go_ret
 exact⟨I,I⟩
theorem Ky(w:World):Calls prog 196 #[.string ⟨([116,104,101,110]:YB).toArray⟩] w λe w'=>e=.returned (.bool true)∧w=w':=by
 go_enter func196,ntmps196
 go_wp2
 go_ret
 exact⟨I,I⟩
theorem JU(w:World):Calls prog 196 #[.string ⟨([101,108,115,101]:YB).toArray⟩] w λe w'=>e=.returned (.bool true)∧w=w':=by
 go_enter func196,ntmps196
 go_wp2
 go_ret
 exact⟨I,I⟩
theorem Lg(w:World):Calls prog 196 #[.string ⟨([116,114,117,101]:YB).toArray⟩] w λe w'=>e=.returned (.bool true)∧w=w':=by
 go_enter func196,ntmps196
 go_wp2
 go_ret
 exact⟨I,I⟩
theorem Lc(w:World):Calls prog 196 #[.string ⟨([102,97,108,115,101]:YB).toArray⟩] w λe w'=>e=.returned (.bool true)∧w=w':=by
 go_enter func196,ntmps196
 go_wp2
 go_ret
 exact⟨I,I⟩
theorem Il(w:World):Calls prog 196 #[.string ⟨([73,110,116]:YB).toArray⟩] w λe w'=>e=.returned (.bool true)∧w=w':=by
 go_enter func196,ntmps196
 go_wp2
 go_ret
 exact⟨I,I⟩
theorem Ig(w:World):Calls prog 196 #[.string ⟨([84,101,120,116]:YB).toArray⟩] w λe w'=>e=.returned (.bool true)∧w=w':=by
 go_enter func196,ntmps196
 go_wp2
 go_ret
 exact⟨I,I⟩
theorem Ij(w:World):Calls prog 196 #[.string ⟨([66,111,111,108]:YB).toArray⟩] w λe w'=>e=.returned (.bool true)∧w=w':=by
 go_enter func196,ntmps196
 go_wp2
 go_ret
 exact⟨I,I⟩
theorem Im(l:YB)(w:World)(U:(l==[109,111,100,117,108,101])=false)(Z:(l==[100,101,102])=false)(b2:(l==[116,121,112,101])=false)(b3:(l==[108,101,116])=false)(b4:(l==[105,110])=false)(b5:(l==[105,102])=false)(b6:(l==[116,104,101,110])=false)(b7:(l==[101,108,115,101])=false)(b8:(l==[116,114,117,101])=false)(b9:(l==[102,97,108,115,101])=false)(G:(l==[73,110,116])=false)(J:(l==[84,101,120,116])=false)(O:(l==[66,111,111,108])=false):Calls prog 196 #[.string ⟨l.toArray⟩] w λe w'=>e=.returned (.bool false)∧w=w':=by
 go_enter func196,ntmps196
 go_wp2
 go_ret
 exact⟨I,I⟩
theorem eC(l:YB)(w:World):Calls prog 196 #[.string ⟨l.toArray⟩] w λe w'=>e=.returned (.bool<|ng l)∧w=w':=by
 by_cases U:l=[109,111,100,117,108,101]
 ·subst U;exact JO w
 by_cases h1:l=[100,101,102]
 ·subst h1;exact KK w
 by_cases h2:l=[116,121,112,101]
 ·subst h2;exact KP w
 by_cases Z:l=[108,101,116]
 ·subst Z;exact Kf w
 by_cases h4:l=[105,110]
 ·subst h4;exact Lf w
 by_cases h5:l=[105,102]
 ·subst h5;exact JI w
 by_cases h6:l=[116,104,101,110]
 ·subst h6;exact Ky w
 by_cases h7:l=[101,108,115,101]
 ·subst h7;exact JU w
 by_cases h8:l=[116,114,117,101]
 ·subst h8;exact Lg w
 by_cases h9:l=[102,97,108,115,101]
 ·subst h9;exact Lc w
 by_cases G:l=[73,110,116]
 ·subst G;exact Il w
 by_cases J:l=[84,101,120,116]
 ·subst J;exact Ig w
 by_cases O:l=[66,111,111,108]
 ·subst O;exact Ij w
 have hr:ng l=false:=by simp[ng,Ld,U,h1,h2,Z,h4,h5,h6,h7,h8,h9,G,J,O]
 rw[hr];exact Im l w (by simpa using U) (by simpa using h1) (by simpa using h2) (by simpa using Z) (by simpa using h4) (by simpa using h5) (by simpa using h6) (by simpa using h7) (by simpa using h8) (by simpa using h9) (by simpa using G) (by simpa using J) (by simpa using O)
set_option maxHeartbeats 1000000 in
theorem SH(s:ByteArray)(c:Int)(w:World):Calls prog 159 #[.string s,.int .u8 c] w λe w'=>e=.returned (.int .i64<|Lib.indexByte s.data.toList c.toNat.toUInt8)∧w=w':=by
 go_enter func159,ntmps159
 go_wp2
 rw[run_callFunc_extern func178 (by kernel_rfl) (by kernel_rfl) (by kernel_rfl) (e:=Extern.BytealgIndexByte.indexByte) (by kernel_rfl),Lib.run_indexByteString];simp only[Result.andThen];rw[Oper.upon_value]
 go_wp2
 go_ret
 exact⟨I,I⟩
theorem JH(s:ByteArray)(c:Int)(w:World):Calls prog 120 #[.string s,.int .u8 c] w λe w'=>e=.returned (.int .i64<|Lib.indexByte s.data.toList c.toNat.toUInt8)∧w=w':=by
 go_enter func120,ntmps120
 go_wp2_with (go_at_call 159;refine qmm (SH _ _ _) ?_)
 go_ret
 exact⟨I,I⟩
set_option maxHeartbeats 400000 in
theorem iI(l:YB)(w:World)(hl:l.length<=281474976710656):Calls prog 157 #[.string ⟨l.toArray⟩] w λe w'=>e=.returned (.int .i64 (spanN bi l:Nat))∧w=w':=by
 go_enter func157,ntmps157
 go_wp2_with fail
 go_loop [3] (λn=>∃k:Nat,k<=l.length∧n=.int .i64 k∧Hid (spanN bi l=k+spanN bi (l.drop k))) (λn=>l.length-(intOf n).toNat)
 case atStart=>exact⟨0,by omega,rfl,Lib.hid<|by simp⟩
 case round=>
  obtain⟨k,hk,rfl,hrel⟩:=hrel;by_cases hlt:k<l.length
  ·obtain⟨c,hc⟩:∃c,({data:=l.toArray}:ByteArray)[k]'hlt=c:=⟨_,rfl⟩;have HC:=Lib.hid (show l[k]=c from hc)
   go_wp2_with (first|(go_at_call 115;refine qmm (bW _ _) ?_)|(go_at_call 117;refine qmm (fw _ _) ?_))
   all_goals go_light
   ·go_round
    case rel=>exact⟨k+1,by omega,by go_num,Lib.hid (by rw[hrel.out,pd hlt HC.out<|zz<|.inl ‹_›];omega)⟩
    case measure=>simp[intOf];omega
   ·go_round
    case rel=>exact⟨k+1,by omega,by go_num,Lib.hid (by rw[hrel.out,pd hlt HC.out<|zz<|.inr<|.inl ‹_›];omega)⟩
    case measure=>simp[intOf];omega
   ·go_round
    case rel=>exact⟨k+1,by omega,by go_num,Lib.hid (by rw[hrel.out,pd hlt HC.out<|zz<|.inr<|.inr ‹_›];omega)⟩
    case measure=>simp[intOf];omega
   ·go_ret
    exact⟨bZ (by rw[hrel.out,uR hlt HC.out<|If ‹_› ‹_› ‹_›];omega),I⟩
  ·go_wp2_with fail
   go_ret
   exact⟨bZ (by rw[hrel.out,wY<|by omega];omega),I⟩
set_option maxHeartbeats 1000000 in
theorem mz(l:YB)(w:World)(hl:l.length<=281474976710656):Calls prog 118 #[.string ⟨l.toArray⟩] w λe w'=>e=.returned (.tuple #[.int .i64 ((gM l).1:Nat),.int .i64 ((gM l).2:Nat)])∧w=w':=by
 go_enter func118,ntmps118
 go_wp2_with fail
 go_loop [4] (λn=>∃k:Nat,k<=l.length∧n=.int .i64 k∧Hid (spanN ci l=k+spanN ci (l.drop k))) (λn=>l.length-(intOf n).toNat)
 case atStart=>exact⟨0,by omega,rfl,Lib.hid<|by simp⟩
 case round=>
  obtain⟨k,hk,rfl,hrel⟩:=hrel;by_cases hlt:k<l.length
  ·obtain⟨c,hc⟩:∃c,({data:=l.toArray}:ByteArray)[k]'hlt=c:=⟨_,rfl⟩;have HC:=Lib.hid<|show l[k]=c from hc;cases hd:ci c
   ·have HN:=Lib.hid (show spanN ci l=k from by rw[hrel.out,uR hlt HC.out hd];omega);have hk0:=hk;by_cases h1:1<k
    ·have h0:0<l.length:=by omega
     obtain⟨c0,hc0⟩:∃c,({data:=l.toArray}:ByteArray)[0]'h0=c:=⟨_,rfl⟩;have HC0:=Lib.hid<|show l[0]=c0 from hc0;cases h48:((c0.toNat:Int)==48)
     ·have HG:=Lib.hid (show 1<k->¬(l.getD 0 0).toNat=48 from λ_=>by rw[aU h0 HC0.out];exact cP (m:=48) h48);by_cases h15:15<k
      ·go_wp2_with (go_at_call 117;refine qmm (fw _ _) ?_)
       go_ret2
       exact⟨by rw[sm HN.out HG.out h15];rfl,I⟩
      ·go_wp2_with (go_at_call 117;refine qmm (fw _ _) ?_)
       go_ret2
       exact⟨by rw[kR HN.out HG.out h15];rfl,I⟩
     ·go_wp2_with (go_at_call 117;refine qmm (fw _ _) ?_)
      go_ret2
      exact⟨by rw[sE HN.out h1 h0 HC0.out h48];rfl,I⟩
    ·go_wp2_with (go_at_call 117;refine qmm (fw _ _) ?_)
     go_ret2
     exact⟨by rw[kR HN.out (λh=>absurd h h1)<|by omega];rfl,I⟩
   ·go_wp2_with (go_at_call 117;refine qmm (fw _ _) ?_)
    go_light
    go_round
    case rel=>exact⟨k+1,by omega,by go_num,Lib.hid (by rw[hrel.out,pd hlt HC.out hd];omega)⟩
    case measure=>simp[intOf];omega
  ·have HN:=Lib.hid (show spanN ci l=k from by rw[hrel.out,wY<|by omega];omega);have hk0:=hk;by_cases h1:1<k
   ·have h0:0<l.length:=by omega
    obtain⟨c0,hc0⟩:∃c,({data:=l.toArray}:ByteArray)[0]'h0=c:=⟨_,rfl⟩;have HC0:=Lib.hid<|show l[0]=c0 from hc0;cases h48:((c0.toNat:Int)==48)
    ·have HG:=Lib.hid (show 1<k->¬(l.getD 0 0).toNat=48 from λ_=>by rw[aU h0 HC0.out];exact cP (m:=48) h48);by_cases h15:15<k
     ·go_wp2_with (go_at_call 117;refine qmm (fw _ _) ?_)
      go_ret2
      exact⟨by rw[sm HN.out HG.out h15];rfl,I⟩
     ·go_wp2_with (go_at_call 117;refine qmm (fw _ _) ?_)
      go_ret2
      exact⟨by rw[kR HN.out HG.out h15];rfl,I⟩
    ·go_wp2_with (go_at_call 117;refine qmm (fw _ _) ?_)
     go_ret2
     exact⟨by rw[sE HN.out h1 h0 HC0.out h48];rfl,I⟩
   ·go_wp2_with (go_at_call 117;refine qmm (fw _ _) ?_)
    go_ret2
    exact⟨by rw[kR HN.out (λh=>absurd h h1)<|by omega];rfl,I⟩
set_option maxHeartbeats 1000000 in
theorem mn(l:YB)(w:World)(h0:0<l.length)(hl:l.length<=281474976710656):Calls prog 119 #[.string ⟨l.toArray⟩] w λe w'=>e=.returned (.tuple #[.int .i64 ((quotedT l.tail 1).1:Nat),.int .i64 ((quotedT l.tail 1).2:Nat)])∧w=w':=by
 obtain⟨r,hr⟩:∃r,quotedT l.tail 1=r:=⟨_,rfl⟩;rw[hr];have HR:=Lib.hid hr;clear hr
 go_enter func119,ntmps119
 go_wp2_with fail
 go_loop [4,5] (λn c=>∃k:Nat,k<=l.length∧n=.int .i64 k∧Hid (r=quotedT (l.drop k) k)) (λn _=>l.length-(intOf n).toNat)
 case atStart=>exact⟨1,by omega,rfl,Lib.hid<|by rw[<-HR.out,List.drop_one]⟩
 case round=>
  obtain⟨k,hk,rfl,hrel⟩:=hrel;by_cases hlt:k<l.length
  ·obtain⟨c,hc⟩:∃c,({data:=l.toArray}:ByteArray)[k]'hlt=c:=⟨_,rfl⟩;have HC:=Lib.hid<|show l[k]=c from hc;have HS:=Lib.hid<|Gk hlt HC.out;cases ha:bo c
   ·go_wp2_with (go_at_call 78;refine qmm (ew _ _) ?_)
    go_ret2
    exact⟨by rw[hrel.out,HS.out,if_pos ha];rfl,I⟩
   cases h34:((c.toNat:Int)==34)
   rotate_left
   ·go_wp2_with (go_at_call 78;refine qmm (ew _ _) ?_)
    go_ret2
    exact⟨by rw[hrel.out,HS.out,if_neg (by simp[ha]),if_pos<|eZ (m:=34) h34];rfl,rfl⟩
   cases h92:((c.toNat:Int)==92)
   rotate_left
   ·go_wp2_with (go_at_call 78;refine qmm (ew _ _) ?_)
    go_ret2
    exact⟨by rw[hrel.out,HS.out,if_neg (by simp[ha]),if_neg<|cP (m:=34) h34,if_pos<|.inl<|eZ (m:=92) h92];rfl,rfl⟩
   by_cases h32:(c.toNat:Int)<32
   ·go_wp2_with (go_at_call 78;refine qmm (ew _ _) ?_)
    go_ret2
    exact⟨by rw[hrel.out,HS.out,if_neg (by simp[ha]),if_neg<|cP (m:=34) h34,if_pos<|.inr<|by omega];rfl,rfl⟩
   ·go_wp2_with (go_at_call 78;refine qmm (ew _ _) ?_)
    go_light
    go_round
    case rel=>exact⟨k+1,by omega,by go_num,Lib.hid<|by rw[hrel.out,HS.out,if_neg (by simp[ha]),if_neg<|cP (m:=34) h34,if_neg (by have :=cP (m:=92) h92;omega)]⟩
    case measure=>simp[intOf];omega
  ·go_wp2_with (go_at_call 78;refine qmm (ew _ _) ?_)
   go_ret2
   exact⟨by rw[hrel.out,Ic<|by omega];rfl,I⟩
set_option maxHeartbeats 4000000 in
theorem rY(l:YB)(w:World)(h0:0<l.length)(hl:l.length<=281474976710656):Calls prog 116 #[.string ⟨l.toArray⟩] w λe w'=>e=.returned (.tuple #[.int .i64 ((ce l).1:Nat),.int .i64 ((ce l).2.1:Nat),.int .i64 ((ce l).2.2:Nat)])∧w=w':=by
 obtain⟨n,hn⟩:∃n,spanN bi l=n:=⟨_,rfl⟩;have hnl:n<=l.length:=by have :=oH bi l;omega
 have HN:=Lib.hid hn;clear hn;obtain⟨c0,hc0⟩:∃c,({data:=l.toArray}:ByteArray)[0]'h0=c:=⟨_,rfl⟩;have HC0:=Lib.hid<|show l[0]=c0 from hc0;have hx:=Ca;have hx2:=uA
 go_enter func116,ntmps116
 go_wp2_with fail
 refine(iI _ _ hl).mono ?_;rintro e w' ⟨rfl,rfl⟩;rw[HN.out];cases hr:ng<|l.take n
 rotate_left
 ·cases hu:upperB c0
  all_goals
   have HQ:=Lib.hid<|lq HN.out<|Ly HN.out hr;by_cases G:24<n
   ·skip
    have HW:=Lib.hid (show ce l=(0,0,3)from by rw[HQ.out,cg,if_pos G])
    go_wp2_with (first|(go_at_call 157;refine qmm (iI _ _ (by simp;omega)) ?_)|(go_at_call 158;refine qmm (cX _ _) ?_)|(go_at_call 156;refine qmm (fO _ _) ?_)|(go_at_call 155;refine qmm (fQ _ _) ?_)|(go_at_call 115;refine qmm (bW _ _) ?_))
    go_ret3
    exact⟨by rw[HW.out];rfl,I⟩
   ·skip
    have HW:=Lib.hid (show ce l=(7,n,0)from by rw[HQ.out,cg,if_neg G,if_pos hr])
    go_wp2_with (first|(go_at_call 157;refine qmm (iI _ _ (by simp;omega)) ?_)|(go_at_call 158;refine qmm (cX _ _) ?_)|(go_at_call 156;refine qmm (fO _ _) ?_)|(go_at_call 155;refine qmm (fQ _ _) ?_)|(go_at_call 115;refine qmm (bW _ _) ?_))
    go_ret3
    exact⟨by rw[HW.out];rfl,I⟩
 cases hu:upperB c0
 ·skip
  have HQ:=Lib.hid<|lq HN.out<|LA h0 HC0.out hu;by_cases G:24<n
  ·skip
   have HW:=Lib.hid (show ce l=(0,0,3)from by rw[HQ.out,cg,if_pos G])
   go_wp2_with (first|(go_at_call 157;refine qmm (iI _ _ (by simp;omega)) ?_)|(go_at_call 158;refine qmm (cX _ _) ?_)|(go_at_call 156;refine qmm (fO _ _) ?_)|(go_at_call 155;refine qmm (fQ _ _) ?_)|(go_at_call 115;refine qmm (bW _ _) ?_))
   go_ret3
   exact⟨by rw[HW.out];rfl,I⟩
  ·cases J:di c0
   ·skip
    have HW:=Lib.hid (show ce l=(2,n,0)from by rw[HQ.out,cg,if_neg G,if_neg (by simp[hr]),if_neg (by rw[aU h0 HC0.out];simp[J])])
    go_wp2_with (first|(go_at_call 157;refine qmm (iI _ _ (by simp;omega)) ?_)|(go_at_call 158;refine qmm (cX _ _) ?_)|(go_at_call 156;refine qmm (fO _ _) ?_)|(go_at_call 155;refine qmm (fQ _ _) ?_)|(go_at_call 115;refine qmm (bW _ _) ?_))
    go_ret3
    exact⟨by rw[HW.out];rfl,I⟩
   ·skip
    have HW:=Lib.hid (show ce l=(1,n,0)from by rw[HQ.out,cg,if_neg G,if_neg (by simp[hr]),if_pos (by rw[aU h0 HC0.out];exact J)])
    go_wp2_with (first|(go_at_call 157;refine qmm (iI _ _ (by simp;omega)) ?_)|(go_at_call 158;refine qmm (cX _ _) ?_)|(go_at_call 156;refine qmm (fO _ _) ?_)|(go_at_call 155;refine qmm (fQ _ _) ?_)|(go_at_call 115;refine qmm (bW _ _) ?_))
    go_ret3
    exact⟨by rw[HW.out];rfl,I⟩
 by_cases h2:n+1<l.length
 rotate_left
 ·have h2':¬((n:Int)+1<l.length):=by omega
  have HQ:=Lib.hid<|lq HN.out<|Lv HN.out h2;by_cases G:24<n
  ·skip
   have HW:=Lib.hid (show ce l=(0,0,3)from by rw[HQ.out,cg,if_pos G])
   go_wp2_with (first|(go_at_call 157;refine qmm (iI _ _ (by simp;omega)) ?_)|(go_at_call 158;refine qmm (cX _ _) ?_)|(go_at_call 156;refine qmm (fO _ _) ?_)|(go_at_call 155;refine qmm (fQ _ _) ?_)|(go_at_call 115;refine qmm (bW _ _) ?_))
   go_ret3
   exact⟨by rw[HW.out];rfl,I⟩
  ·cases J:di c0
   ·skip
    have HW:=Lib.hid (show ce l=(2,n,0)from by rw[HQ.out,cg,if_neg G,if_neg (by simp[hr]),if_neg (by rw[aU h0 HC0.out];simp[J])])
    go_wp2_with (first|(go_at_call 157;refine qmm (iI _ _ (by simp;omega)) ?_)|(go_at_call 158;refine qmm (cX _ _) ?_)|(go_at_call 156;refine qmm (fO _ _) ?_)|(go_at_call 155;refine qmm (fQ _ _) ?_)|(go_at_call 115;refine qmm (bW _ _) ?_))
    go_ret3
    exact⟨by rw[HW.out];rfl,I⟩
   ·skip
    have HW:=Lib.hid (show ce l=(1,n,0)from by rw[HQ.out,cg,if_neg G,if_neg (by simp[hr]),if_pos (by rw[aU h0 HC0.out];exact J)])
    go_wp2_with (first|(go_at_call 157;refine qmm (iI _ _ (by simp;omega)) ?_)|(go_at_call 158;refine qmm (cX _ _) ?_)|(go_at_call 156;refine qmm (fO _ _) ?_)|(go_at_call 155;refine qmm (fQ _ _) ?_)|(go_at_call 115;refine qmm (bW _ _) ?_))
    go_ret3
    exact⟨by rw[HW.out];rfl,I⟩
 have hn1:n<l.length:=by omega
 obtain⟨c1,hc1⟩:∃c,({data:=l.toArray}:ByteArray)[n]'hn1=c:=⟨_,rfl⟩;have HC1:=Lib.hid<|show l[n]=c1 from hc1;obtain⟨c2,hc2⟩:∃c,({data:=l.toArray}:ByteArray)[n+1]'h2=c:=⟨_,rfl⟩;have HC2:=Lib.hid<|show l[n+1]=c2 from hc2;cases U:((c1.toNat:Int)==46)
 ·skip
  have HQ:=Lib.hid<|lq HN.out<|Lz HN.out hn1 HC1.out U;by_cases G:24<n
  ·skip
   have HW:=Lib.hid (show ce l=(0,0,3)from by rw[HQ.out,cg,if_pos G])
   go_wp2_with (first|(go_at_call 157;refine qmm (iI _ _ (by simp;omega)) ?_)|(go_at_call 158;refine qmm (cX _ _) ?_)|(go_at_call 156;refine qmm (fO _ _) ?_)|(go_at_call 155;refine qmm (fQ _ _) ?_)|(go_at_call 115;refine qmm (bW _ _) ?_))
   go_ret3
   exact⟨by rw[HW.out];rfl,I⟩
  ·cases J:di c0
   ·skip
    have HW:=Lib.hid (show ce l=(2,n,0)from by rw[HQ.out,cg,if_neg G,if_neg (by simp[hr]),if_neg (by rw[aU h0 HC0.out];simp[J])])
    go_wp2_with (first|(go_at_call 157;refine qmm (iI _ _ (by simp;omega)) ?_)|(go_at_call 158;refine qmm (cX _ _) ?_)|(go_at_call 156;refine qmm (fO _ _) ?_)|(go_at_call 155;refine qmm (fQ _ _) ?_)|(go_at_call 115;refine qmm (bW _ _) ?_))
    go_ret3
    exact⟨by rw[HW.out];rfl,I⟩
   ·skip
    have HW:=Lib.hid (show ce l=(1,n,0)from by rw[HQ.out,cg,if_neg G,if_neg (by simp[hr]),if_pos (by rw[aU h0 HC0.out];exact J)])
    go_wp2_with (first|(go_at_call 157;refine qmm (iI _ _ (by simp;omega)) ?_)|(go_at_call 158;refine qmm (cX _ _) ?_)|(go_at_call 156;refine qmm (fO _ _) ?_)|(go_at_call 155;refine qmm (fQ _ _) ?_)|(go_at_call 115;refine qmm (bW _ _) ?_))
    go_ret3
    exact⟨by rw[HW.out];rfl,I⟩
 cases h3:bO c2
 ·skip
  have HQ:=Lib.hid<|lq HN.out<|Mi HN.out h2 HC2.out h3;by_cases G:24<n
  ·skip
   have HW:=Lib.hid (show ce l=(0,0,3)from by rw[HQ.out,cg,if_pos G])
   go_wp2_with (first|(go_at_call 157;refine qmm (iI _ _ (by simp;omega)) ?_)|(go_at_call 158;refine qmm (cX _ _) ?_)|(go_at_call 156;refine qmm (fO _ _) ?_)|(go_at_call 155;refine qmm (fQ _ _) ?_)|(go_at_call 115;refine qmm (bW _ _) ?_))
   go_ret3
   exact⟨by rw[HW.out];rfl,I⟩
  ·cases J:di c0
   ·skip
    have HW:=Lib.hid (show ce l=(2,n,0)from by rw[HQ.out,cg,if_neg G,if_neg (by simp[hr]),if_neg (by rw[aU h0 HC0.out];simp[J])])
    go_wp2_with (first|(go_at_call 157;refine qmm (iI _ _ (by simp;omega)) ?_)|(go_at_call 158;refine qmm (cX _ _) ?_)|(go_at_call 156;refine qmm (fO _ _) ?_)|(go_at_call 155;refine qmm (fQ _ _) ?_)|(go_at_call 115;refine qmm (bW _ _) ?_))
    go_ret3
    exact⟨by rw[HW.out];rfl,I⟩
   ·skip
    have HW:=Lib.hid (show ce l=(1,n,0)from by rw[HQ.out,cg,if_neg G,if_neg (by simp[hr]),if_pos (by rw[aU h0 HC0.out];exact J)])
    go_wp2_with (first|(go_at_call 157;refine qmm (iI _ _ (by simp;omega)) ?_)|(go_at_call 158;refine qmm (cX _ _) ?_)|(go_at_call 156;refine qmm (fO _ _) ?_)|(go_at_call 155;refine qmm (fQ _ _) ?_)|(go_at_call 115;refine qmm (bW _ _) ?_))
    go_ret3
    exact⟨by rw[HW.out];rfl,I⟩
 obtain⟨m,hm⟩:∃m,spanN bi (l.drop (n+1))=m:=⟨_,rfl⟩;have hml:n+1+m<=l.length:=by have :=oH bi<|l.drop<|n+1;simp at this;omega
 have HM:=Lib.hid hm;have HQ:=Lib.hid<|Ej HN.out hm<|He HN.out h0 HC0.out hu hr h2 hn1 HC1.out U HC2.out h3;by_cases G:24<n
 ·skip
  have HW:=Lib.hid (show ce l=(0,0,3)from by rw[HQ.out,fI,if_pos<|.inl G])
  go_wp2_with (first|(go_at_call 157;refine qmm (iI _ _ (by simp;omega)) ?_)|(go_at_call 158;refine qmm (cX _ _) ?_)|(go_at_call 156;refine qmm (fO _ _) ?_)|(go_at_call 155;refine qmm (fQ _ _) ?_)|(go_at_call 115;refine qmm (bW _ _) ?_))
  go_ret3
  exact⟨by rw[HW.out];rfl,I⟩
 by_cases Z:24<m
 ·skip
  have HW:=Lib.hid (show ce l=(0,0,3)from by rw[HQ.out,fI,if_pos<|.inr Z])
  go_wp2_with (first|(go_at_call 157;refine qmm (iI _ _ (by simp;omega)) ?_)|(go_at_call 158;refine qmm (cX _ _) ?_)|(go_at_call 156;refine qmm (fO _ _) ?_)|(go_at_call 155;refine qmm (fQ _ _) ?_)|(go_at_call 115;refine qmm (bW _ _) ?_))
  go_ret3
  exact⟨by rw[HW.out];rfl,I⟩
 have he:n+1+m-(n+1)=m:=by omega
 cases O:ng ((l.drop (n+1)).take m)
 rotate_left
 ·skip
  have HW:=Lib.hid (show ce l=(0,0,2)from by rw[HQ.out,fI,if_neg (by omega),if_pos O])
  go_wp2_with (first|(go_at_call 157;refine qmm (iI _ _ (by simp;omega)) ?_)|(go_at_call 158;refine qmm (cX _ _) ?_)|(go_at_call 156;refine qmm (fO _ _) ?_)|(go_at_call 155;refine qmm (fQ _ _) ?_)|(go_at_call 115;refine qmm (bW _ _) ?_))
  go_ret3
  exact⟨by rw[HW.out];rfl,I⟩
 cases J:di c2
 ·skip
  have HW:=Lib.hid (show ce l=(4,n+1+m,0)from by rw[HQ.out,fI,if_neg (by omega),if_neg (by simp[O]),if_neg (by rw[aU h2 HC2.out];simp[J])])
  go_wp2_with (first|(go_at_call 157;refine qmm (iI _ _ (by simp;omega)) ?_)|(go_at_call 158;refine qmm (cX _ _) ?_)|(go_at_call 156;refine qmm (fO _ _) ?_)|(go_at_call 155;refine qmm (fQ _ _) ?_)|(go_at_call 115;refine qmm (bW _ _) ?_))
  go_ret3
  exact⟨by rw[HW.out];rfl,I⟩
 ·skip
  have HW:=Lib.hid (show ce l=(3,n+1+m,0)from by rw[HQ.out,fI,if_neg (by omega),if_neg (by simp[O]),if_pos (by rw[aU h2 HC2.out];exact J)])
  go_wp2_with (first|(go_at_call 157;refine qmm (iI _ _ (by simp;omega)) ?_)|(go_at_call 158;refine qmm (cX _ _) ?_)|(go_at_call 156;refine qmm (fO _ _) ?_)|(go_at_call 155;refine qmm (fQ _ _) ?_)|(go_at_call 115;refine qmm (bW _ _) ?_))
  go_ret3
  exact⟨by rw[HW.out];rfl,I⟩
end Go.Proofs.YtomplbgchbfjpaaGreatDoor
namespace Go.Proofs.YtomplbgchbfjpaaGreatDoor.Lx
def kC(l:YB):Nat:=if bO (l.getD 0 0)=true then spanN bi l else 0
def signLen(l:YB):Nat:=
 if(l.getD 0 0).toNat=61 then(if 1<l.length∧(l.getD 1 0).toNat=61 then 2 else 1)
 else if([40,41,91,93,58,44,43,45,42,60,63]:YN).contains (l.getD 0 0).toNat=true then 1 else 0
theorem Ac(l:YB)(k:Nat):(l.drop k).getD 0 0=l.getD k 0:=by simp[List.getD]
theorem Lh(l:YB)(k:Nat):(l.drop k).getD 1 0=l.getD (k+1) 0:=by simp[List.getD]
variable{l:YB}{k:Nat}
theorem Km{c:UInt8}(h:k<l.length)(G:l[k]=c):
  signLen (l.drop k)=if c.toNat=61 then(if k+1<l.length∧(l.getD (k+1) 0).toNat=61 then 2 else 1)
   else if([40,41,91,93,58,44,43,45,42,60,63]:YN).contains c.toNat=true then 1 else 0:=by
 unfold signLen;rw[Ac,Lh,aU h G,aak];by_cases h2:k+1<l.length
 ·have h1:1<l.length-k:=by omega
  simp only[h1,h2]
 ·have h1:¬1<l.length-k:=by omega
  simp only[h1,h2]
theorem FK{c:UInt8}(h:bO c=true)(G:upperB c=false):di c=true:=by simpa[bO,G]using h
theorem wU{c:UInt8}(G:upperB c=true):di c=false:=by simp[upperB,di]at *;omega
theorem Li{j:Nat}{c:UInt8}(h:k<l.length)(G:l[k]=c):
  quotedT (l.drop k) j=if bo c=false then(j,1)else if c.toNat=34 then(j+1,0)else if c.toNat=92∨c.toNat<32 then(0,2)else quotedT (l.drop<|k+1) (j+1):=by
 rw[aan h,G];rfl
theorem DC{j:Nat}(h:l.length<=k):quotedT (l.drop k) j=(0,2):=by rw[List.drop_of_length_le h];rfl
theorem Ki{c:UInt8}(J:bo c=true)(G:fG c=false):c.toNat<32:=by simp[bo,G,cM]at J;simp[fG]at G;omega
theorem JM{c:UInt8}(G:fG c=true):¬c.toNat<32:=by simp[fG]at G;omega
theorem EG{c:UInt8}(h:c.toNat=34):bo c=true:=by simp[bo,fG,h]
theorem MT(l:YB):(if(l.getD 0 0).toNat=61∧1<l.length∧(l.getD 1 0).toNat=61 then((8,2,0):Nat×Nat×Nat)else if tO.contains (l.getD 0 0)=true then(8,1,0)else(0,0,2))=
  if signLen l=0 then(0,0,2)else(8,signLen l,0):=by
 unfold signLen;generalize l.getD 0 0=c;generalize l.getD 1 0=d;by_cases G:c.toNat=61
 ·have J:c=61:=by apply UInt8.toNat_inj.1;simpa using G
  subst J;by_cases h2:1<l.length∧d.toNat=61
  ·simp[h2]
  ·simp[h2,tO]
 ·have :tO.contains c=([40,41,91,93,58,44,43,45,42,60,63]:YN).contains c.toNat:=by
   simp only[tO,List.contains_cons,List.contains_nil,Bool.or_false];have h:∀n:UInt8,(c==n)=(c.toNat==n.toNat):=λn=>by rw[Bool.eq_iff_iff];simp[UInt8.toNat_inj]
   simp only[h];have :(c.toNat==(61:UInt8).toNat)=false:=by simpa using G
   rw[this];rfl
  rw[this];simp only[G,false_and,if_false];split<;>simp_all
end Go.Proofs.YtomplbgchbfjpaaGreatDoor.Lx
namespace Go.Proofs.YtomplbgchbfjpaaGreatDoor
open _root_.Go.Proofs.Tryz
open Go.RowKit Lx
set_option maxRecDepth 100000
set_option maxHeartbeats 1000000 in
theorem lO(l:YB)(x:Int)(k:Nat)(hx:x=k)(w:World)(hk:k<=l.length)(hl:l.length<=281474976710656):Calls prog 195 #[.string ⟨l.toArray⟩,.int .i64 x] w λe w'=>e=.returned (.int .i64 (kC (l.drop k):Nat))∧w=w':=by
 subst hx;by_cases hlt:k<l.length
 rotate_left
 ·have HR:=Lib.hid (show kC (l.drop k)=0 from by rw[List.drop_of_length_le<|by omega];rfl);have hge:(l.length:Int)<=k:=by omega
  go_enter func195,ntmps195
  go_wp2_with (first|(go_at_call 188;refine qmm (cW _ _) ?_)|(go_at_call 189;refine qmm (bB _ _) ?_)|(go_at_call 200;refine qmm (vj _ _) ?_))
  go_ret
  exact⟨bZ (by rw[HR.out];rfl),I⟩
 obtain⟨c,hc⟩:∃c,({data:=l.toArray}:ByteArray)[k]'hlt=c:=⟨_,rfl⟩;have HC:=Lib.hid<|show l[k]=c from hc;have hge:decide (l.length<=k)=false:=by simp;omega
 have HG:=Lib.hid (show(l.drop k).getD 0 0=c from by rw[Ac];exact aU hlt HC.out);cases hlo:di c<;>cases hup:upperB c
 ·have HR:=Lib.hid (show kC (l.drop k)=0 from by rw[kC,HG.out];simp[bO,hlo,hup])
  go_enter func195,ntmps195
  go_wp2_with (first|(go_at_call 188;refine qmm (cW _ _) ?_)|(go_at_call 189;refine qmm (bB _ _) ?_)|(go_at_call 200;refine qmm (vj _ _) ?_))
  go_ret
  exact⟨bZ (by rw[HR.out];rfl),I⟩
 all_goals
  have HR:=Lib.hid (show kC (l.drop k)=spanN bi (l.drop k)from by rw[kC,HG.out];simp[bO,hlo,hup]);rw[HR.out];clear HR
  go_enter func195,ntmps195
  go_wp2_with (first|(go_at_call 188;refine qmm (cW _ _) ?_)|(go_at_call 189;refine qmm (bB _ _) ?_)|(go_at_call 200;refine qmm (vj _ _) ?_))
  go_loopg [5] (l.length-k) (λg n wx=>∃i:Nat,g=l.length-i∧wx=w∧k<=i∧i<=l.length∧n=.int .i64 i∧Hid (spanN bi (l.drop k)=i-k+spanN bi (l.drop i)))
  case atStart=>exact⟨k,rfl,rfl,aaf _,hk,rfl,Lib.hid<|by omega⟩
  case round=>
   obtain⟨i,rfl,rfl,hki,hil,rfl,hrel⟩:=hrel;by_cases hit:i<l.length
   ·skip
    obtain⟨d,hd⟩:∃c,({data:=l.toArray}:ByteArray)[i]'hit=c:=⟨_,rfl⟩;have HD:=Lib.hid<|show l[i]=d from hd;cases hwd:bi d
    ·go_wp2_with (first|(go_at_call 188;refine qmm (cW _ _) ?_)|(go_at_call 189;refine qmm (bB _ _) ?_)|(go_at_call 200;refine qmm (vj _ _) ?_))
     go_ret
     exact⟨bZ (by rw[hrel.out,uR hit HD.out hwd];omega),I⟩
    ·go_wp2_with (first|(go_at_call 188;refine qmm (cW _ _) ?_)|(go_at_call 189;refine qmm (bB _ _) ?_)|(go_at_call 200;refine qmm (vj _ _) ?_))
     go_roundg (l.length-(i+1))
     case measure=>omega
     case rel=>exact⟨i+1,rfl,rfl,by omega,by omega,by go_num,Lib.hid (by rw[hrel.out,pd hit HD.out hwd];omega)⟩
   ·go_wp2_with (first|(go_at_call 188;refine qmm (cW _ _) ?_)|(go_at_call 189;refine qmm (bB _ _) ?_)|(go_at_call 200;refine qmm (vj _ _) ?_))
    go_ret
    exact⟨bZ (by rw[hrel.out,wY<|by omega];omega),I⟩
set_option maxHeartbeats 2000000 in
theorem gW(l:YB)(x:Int)(k:Nat)(hx:x=k)(w:World)(hlt:k<l.length)(hl:l.length<=281474976710656):Calls prog 191 #[.string ⟨l.toArray⟩,.int .i64 x] w λe w'=>e=.returned (.int .i64 (signLen (l.drop k):Nat))∧w=w':=by
 subst hx;obtain⟨c,hc⟩:∃c,({data:=l.toArray}:ByteArray)[k]'hlt=c:=⟨_,rfl⟩;have HC:=Lib.hid<|show l[k]=c from hc;have HS:=Lib.hid<|Km hlt HC.out;cases G:((c.toNat:Int)==61)
 rotate_left
 ·by_cases h1:k+1<l.length
  ·have h1':(k:Int)+1<l.length:=by omega
   obtain⟨d,hd⟩:∃c,({data:=l.toArray}:ByteArray)[k+1]'h1=c:=⟨_,rfl⟩;have HD:=Lib.hid<|show l[k+1]=d from hd;cases J:((d.toNat:Int)==61)
   ·go_enter func191,ntmps191
    go_wp2
    go_ret
    exact⟨bZ (by rw[HS.out,if_pos<|eZ (m:=61) G,if_neg λh=>cP (m:=61) J (by rw[<-aU h1 HD.out];exact h.2)];rfl),I⟩
   ·go_enter func191,ntmps191
    go_wp2
    go_ret
    exact⟨bZ (by rw[HS.out,if_pos<|eZ (m:=61) G,if_pos ⟨h1,by rw[aU h1 HD.out];exact eZ (m:=61) J⟩];rfl),I⟩
  ·have h1':¬((k:Int)+1<l.length):=by omega
   go_enter func191,ntmps191
   go_wp2
   go_ret
   exact⟨bZ (by rw[HS.out,if_pos<|eZ (m:=61) G,if_neg λh=>h1 h.1];rfl),I⟩
 cases O:((c.toNat:Int)==40)
 rotate_left
 ·go_enter func191,ntmps191
  go_wp2
  go_ret
  exact⟨bZ (by rw[HS.out,if_neg<|cP (m:=61) G,if_pos<|by simp[eZ (m:=40) O]];rfl),rfl⟩
 cases U:((c.toNat:Int)==41)
 rotate_left
 ·go_enter func191,ntmps191
  go_wp2
  go_ret
  exact⟨bZ (by rw[HS.out,if_neg<|cP (m:=61) G,if_pos<|by simp[eZ (m:=41) U]];rfl),rfl⟩
 cases Z:((c.toNat:Int)==91)
 rotate_left
 ·go_enter func191,ntmps191
  go_wp2
  go_ret
  exact⟨bZ (by rw[HS.out,if_neg<|cP (m:=61) G,if_pos<|by simp[eZ (m:=91) Z]];rfl),rfl⟩
 cases h93:((c.toNat:Int)==93)
 rotate_left
 ·go_enter func191,ntmps191
  go_wp2
  go_ret
  exact⟨bZ (by rw[HS.out,if_neg<|cP (m:=61) G,if_pos<|by simp[eZ (m:=93) h93]];rfl),rfl⟩
 cases h58:((c.toNat:Int)==58)
 rotate_left
 ·go_enter func191,ntmps191
  go_wp2
  go_ret
  exact⟨bZ (by rw[HS.out,if_neg<|cP (m:=61) G,if_pos<|by simp[eZ (m:=58) h58]];rfl),rfl⟩
 cases h44:((c.toNat:Int)==44)
 rotate_left
 ·go_enter func191,ntmps191
  go_wp2
  go_ret
  exact⟨bZ (by rw[HS.out,if_neg<|cP (m:=61) G,if_pos<|by simp[eZ (m:=44) h44]];rfl),rfl⟩
 cases h43:((c.toNat:Int)==43)
 rotate_left
 ·go_enter func191,ntmps191
  go_wp2
  go_ret
  exact⟨bZ (by rw[HS.out,if_neg<|cP (m:=61) G,if_pos<|by simp[eZ (m:=43) h43]];rfl),rfl⟩
 cases h45:((c.toNat:Int)==45)
 rotate_left
 ·go_enter func191,ntmps191
  go_wp2
  go_ret
  exact⟨bZ (by rw[HS.out,if_neg<|cP (m:=61) G,if_pos<|by simp[eZ (m:=45) h45]];rfl),rfl⟩
 cases h42:((c.toNat:Int)==42)
 rotate_left
 ·go_enter func191,ntmps191
  go_wp2
  go_ret
  exact⟨bZ (by rw[HS.out,if_neg<|cP (m:=61) G,if_pos<|by simp[eZ (m:=42) h42]];rfl),rfl⟩
 cases h60:((c.toNat:Int)==60)
 rotate_left
 ·go_enter func191,ntmps191
  go_wp2
  go_ret
  exact⟨bZ (by rw[HS.out,if_neg<|cP (m:=61) G,if_pos<|by simp[eZ (m:=60) h60]];rfl),rfl⟩
 cases h63:((c.toNat:Int)==63)
 rotate_left
 ·go_enter func191,ntmps191
  go_wp2
  go_ret
  exact⟨bZ (by rw[HS.out,if_neg<|cP (m:=61) G,if_pos<|by simp[eZ (m:=63) h63]];rfl),rfl⟩
 go_enter func191,ntmps191
 go_wp2
 go_ret
 exact⟨bZ (by rw[HS.out,if_neg<|cP (m:=61) G,if_neg<|by simp[cP (m:=40) O,cP (m:=41) U,cP (m:=91) Z,cP (m:=93) h93,cP (m:=58) h58,cP (m:=44) h44,cP (m:=43) h43,cP (m:=45) h45,cP (m:=42) h42,cP (m:=60) h60,cP (m:=63) h63]];rfl),rfl⟩
def qK(G:Nat)(t:Nat×Nat×Nat):Value:=
 if t.2.2=0 then .agg #[.int .i64 (t.2.1:Nat),.int .i64 (t.1:Nat),.int .i64 0,.int .i64 0]else .agg #[.int .i64 0,.int .i64 0,.int .i64 (t.2.2:Nat),.int .i64 ((G+t.2.1:Nat):Int)]
def yQ(G:Nat)(t:Nat×Nat×Nat)(w:World)(e:Ending)(w':World):Prop:=e=.returned (qK G t)∧Ext w w'
variable{k:Nat}{w':World}
theorem jA{G n:Nat}{t:Nat×Nat×Nat}{w:World}{x y:Int}(h:t=(k,n,0))(hx:x=n)(hy:y=k)(J:Ext w w'):yQ G t w (.returned<|.agg #[.int .i64 x,.int .i64 y,.int .i64 0,.int .i64 0]) w':=by subst h;subst hx;subst hy;exact⟨rfl,J⟩
theorem dJ{G n e:Nat}{t:Nat×Nat×Nat}{w:World}{x y:Int}(h:t=(k,n,e))(J:¬e=0)(hx:x=e)(hy:y=((G+n:Nat):Int))(O:Ext w w'):yQ G t w (.returned<|.agg #[.int .i64 0,.int .i64 0,.int .i64 x,.int .i64 y]) w':=by subst h;subst hx;subst hy;exact⟨by simp only[qK,if_neg J],O⟩
set_option maxHeartbeats 4000000 in
theorem SM(l:YB)(x:Int)(k:Nat)(hxk:x=k)(w:World)(hlt:k<l.length)(hle:bO (l[k]'hlt)=true)(J:l.length<=281474976710656):Calls prog 190 #[.string ⟨l.toArray⟩,.int .i64 x] w (yQ k (ce<|l.drop k) w):=by
 subst hxk;obtain⟨T,O⟩:∃T,ce (l.drop k)=T:=⟨_,rfl⟩;rw[O];have h0:0<(l.drop k).length:=by simp;omega
 obtain⟨c0,hc0⟩:∃c,({data:=l.toArray}:ByteArray)[k]'hlt=c:=⟨_,rfl⟩;have HCk:=Lib.hid<|show l[k]=c0 from hc0;have HC0:=Lib.hid (show(l.drop k)[0]=c0 from by rw[List.getElem_drop];exact hc0);have HL0:=Lib.hid<|show bO c0=true from hc0▸hle;obtain⟨n,hn⟩:∃n,spanN bi (l.drop k)=n:=⟨_,rfl⟩;have hnl:k+n<=l.length:=by have :=oH bi<|l.drop k;simp at this;omega
 have HN:=Lib.hid hn;have HW0:=Lib.hid (show kC (l.drop k)=n from by rw[kC,aU h0 HC0.out,if_pos HL0.out];exact hn);clear hn hle;obtain⟨E,hE⟩:∃E,k+n=E:=⟨_,rfl⟩;have hE1:(k:Int)+n=(E:Nat):=by omega
 have hE2:E-k=n:=by omega
 have hE3:E<=l.length:=by omega
 have hkE:k<=E:=by omega
 have HE:=Lib.hid hE;clear hE;have hx:=Ca;have hx2:=uA
 go_enter func190,ntmps190
 go_wp2_with fail
 refine(lO _ _ k I _ (by omega) J).mono ?_;rintro e w' ⟨rfl,rfl⟩;rw[HW0.out];cases hr:ng<|(l.drop k).take n
 rotate_left
 ·cases hu:upperB c0
  all_goals
   have HQ:=Lib.hid<|lq HN.out<|Ly HN.out hr;by_cases G:24<n
   ·skip
    have HW:=Lib.hid (show T=(0,0,3)from by rw[<-O,HQ.out,cg,if_pos G])
    go_wp2_with (first|(go_at_call 189;refine qmm (bB _ _) ?_)|(go_at_call 196;refine qmm (eC _ _) ?_)|(go_at_call 195;refine qmm (lO _ _ (E+1) (by omega) _ (by omega) J) ?_))
    exact bodyPost_ret (v:=.agg #[.int .i64 0,.int .i64 0,.int .i64 3,.int .i64 k]) (by simp[results,results190,go_sem]) rfl (dJ HW.out (by omega) (by omega) (by omega) qEx)
   ·skip
    have HW:=Lib.hid (show T=(7,n,0)from by rw[<-O,HQ.out,cg,if_neg G,if_pos hr])
    go_wp2_with (first|(go_at_call 189;refine qmm (bB _ _) ?_)|(go_at_call 196;refine qmm (eC _ _) ?_)|(go_at_call 195;refine qmm (lO _ _ (E+1) (by omega) _ (by omega) J) ?_))
    exact bodyPost_ret (v:=.agg #[.int .i64 n,.int .i64 7,.int .i64 0,.int .i64 0]) (by simp[results,results190,go_sem]) rfl (jA HW.out (by omega) (by omega) qEx)
 cases hu:upperB c0
 ·skip
  have HQ:=Lib.hid<|lq HN.out<|LA h0 HC0.out hu;by_cases G:24<n
  ·skip
   have HW:=Lib.hid (show T=(0,0,3)from by rw[<-O,HQ.out,cg,if_pos G])
   go_wp2_with (first|(go_at_call 189;refine qmm (bB _ _) ?_)|(go_at_call 196;refine qmm (eC _ _) ?_)|(go_at_call 195;refine qmm (lO _ _ (E+1) (by omega) _ (by omega) J) ?_))
   exact bodyPost_ret (v:=.agg #[.int .i64 0,.int .i64 0,.int .i64 3,.int .i64 k]) (by simp[results,results190,go_sem]) rfl (dJ HW.out (by omega) (by omega) (by omega) qEx)
  ·skip
   have HW:=Lib.hid (show T=(1,n,0)from by rw[<-O,HQ.out,cg,if_neg G,if_neg (by simp[hr]),if_pos (by rw[aU h0 HC0.out];exact FK HL0.out hu)])
   go_wp2_with (first|(go_at_call 189;refine qmm (bB _ _) ?_)|(go_at_call 196;refine qmm (eC _ _) ?_)|(go_at_call 195;refine qmm (lO _ _ (E+1) (by omega) _ (by omega) J) ?_))
   exact bodyPost_ret (v:=.agg #[.int .i64 n,.int .i64 1,.int .i64 0,.int .i64 0]) (by simp[results,results190,go_sem]) rfl (jA HW.out (by omega) (by omega) qEx)
 by_cases h2:E+1<l.length
 rotate_left
 ·have h2':¬((E:Int)+1<l.length):=by omega
  have HQ:=Lib.hid (lq HN.out<|Lv HN.out (by have :=HE.out;simp;omega));by_cases G:24<n
  ·skip
   have HW:=Lib.hid (show T=(0,0,3)from by rw[<-O,HQ.out,cg,if_pos G])
   go_wp2_with (first|(go_at_call 189;refine qmm (bB _ _) ?_)|(go_at_call 196;refine qmm (eC _ _) ?_)|(go_at_call 195;refine qmm (lO _ _ (E+1) (by omega) _ (by omega) J) ?_))
   exact bodyPost_ret (v:=.agg #[.int .i64 0,.int .i64 0,.int .i64 3,.int .i64 k]) (by simp[results,results190,go_sem]) rfl (dJ HW.out (by omega) (by omega) (by omega) qEx)
  ·skip
   have HW:=Lib.hid (show T=(2,n,0)from by rw[<-O,HQ.out,cg,if_neg G,if_neg (by simp[hr]),if_neg (by rw[aU h0 HC0.out];simp[wU hu])])
   go_wp2_with (first|(go_at_call 189;refine qmm (bB _ _) ?_)|(go_at_call 196;refine qmm (eC _ _) ?_)|(go_at_call 195;refine qmm (lO _ _ (E+1) (by omega) _ (by omega) J) ?_))
   exact bodyPost_ret (v:=.agg #[.int .i64 n,.int .i64 2,.int .i64 0,.int .i64 0]) (by simp[results,results190,go_sem]) rfl (jA HW.out (by omega) (by omega) qEx)
 have hn1:E<l.length:=by omega
 obtain⟨c1,hc1⟩:∃c,({data:=l.toArray}:ByteArray)[E]'hn1=c:=⟨_,rfl⟩;have HC1a:=Lib.hid<|show l[E]=c1 from hc1;obtain⟨c2,hc2⟩:∃c,({data:=l.toArray}:ByteArray)[E+1]'h2=c:=⟨_,rfl⟩;have HC2a:=Lib.hid<|show l[E+1]=c2 from hc2;have Z:n<(l.drop k).length:=by have :=HE.out;simp;omega
 have U:n+1<(l.drop k).length:=by have :=HE.out;simp;omega
 have HC1:=Lib.hid (show(l.drop k)[n]=c1 from by rw[List.getElem_drop];simp only[HE.out];exact hc1);have HC2:=Lib.hid (show(l.drop k)[n+1]=c2 from by rw[List.getElem_drop];simp only[<-aat,HE.out];exact hc2);have HGE:=Lib.hid (show(l.drop<|E+1).getD 0 0=c2 from by rw[Ac];exact aU h2 HC2a.out);cases h46:((c1.toNat:Int)==46)
 ·skip
  have HQ:=Lib.hid<|lq HN.out<|Lz HN.out Z HC1.out h46;by_cases G:24<n
  ·skip
   have HW:=Lib.hid (show T=(0,0,3)from by rw[<-O,HQ.out,cg,if_pos G])
   go_wp2_with (first|(go_at_call 189;refine qmm (bB _ _) ?_)|(go_at_call 196;refine qmm (eC _ _) ?_)|(go_at_call 195;refine qmm (lO _ _ (E+1) (by omega) _ (by omega) J) ?_))
   exact bodyPost_ret (v:=.agg #[.int .i64 0,.int .i64 0,.int .i64 3,.int .i64 k]) (by simp[results,results190,go_sem]) rfl (dJ HW.out (by omega) (by omega) (by omega) qEx)
  ·skip
   have HW:=Lib.hid (show T=(2,n,0)from by rw[<-O,HQ.out,cg,if_neg G,if_neg (by simp[hr]),if_neg (by rw[aU h0 HC0.out];simp[wU hu])])
   go_wp2_with (first|(go_at_call 189;refine qmm (bB _ _) ?_)|(go_at_call 196;refine qmm (eC _ _) ?_)|(go_at_call 195;refine qmm (lO _ _ (E+1) (by omega) _ (by omega) J) ?_))
   exact bodyPost_ret (v:=.agg #[.int .i64 n,.int .i64 2,.int .i64 0,.int .i64 0]) (by simp[results,results190,go_sem]) rfl (jA HW.out (by omega) (by omega) qEx)
 cases h3:bO c2
 ·have hm:kC (l.drop<|E+1)=0:=by rw[kC,HGE.out];simp[h3]
  have HQ:=Lib.hid<|lq HN.out<|Mi HN.out U HC2.out h3;by_cases G:24<n
  ·skip
   have HW:=Lib.hid (show T=(0,0,3)from by rw[<-O,HQ.out,cg,if_pos G])
   go_wp2_with (first|(go_at_call 189;refine qmm (bB _ _) ?_)|(go_at_call 196;refine qmm (eC _ _) ?_)|(go_at_call 195;refine qmm (lO _ _ (E+1) (by omega) _ (by omega) J) ?_))
   exact bodyPost_ret (v:=.agg #[.int .i64 0,.int .i64 0,.int .i64 3,.int .i64 k]) (by simp[results,results190,go_sem]) rfl (dJ HW.out (by omega) (by omega) (by omega) qEx)
  ·skip
   have HW:=Lib.hid (show T=(2,n,0)from by rw[<-O,HQ.out,cg,if_neg G,if_neg (by simp[hr]),if_neg (by rw[aU h0 HC0.out];simp[wU hu])])
   go_wp2_with (first|(go_at_call 189;refine qmm (bB _ _) ?_)|(go_at_call 196;refine qmm (eC _ _) ?_)|(go_at_call 195;refine qmm (lO _ _ (E+1) (by omega) _ (by omega) J) ?_))
   exact bodyPost_ret (v:=.agg #[.int .i64 n,.int .i64 2,.int .i64 0,.int .i64 0]) (by simp[results,results190,go_sem]) rfl (jA HW.out (by omega) (by omega) qEx)
 obtain⟨m,hm⟩:∃m,kC (l.drop (E+1))=m:=⟨_,rfl⟩;have HM:=Lib.hid (show spanN bi (l.drop<|E+1)=m from by rw[<-hm,kC,HGE.out,if_pos h3]);have hm0:0<m:=by have h:=Aw (p:=bi) (l:=l.drop<|E+1) (by simp;omega) (by rw[HGE.out];simp[bi,h3]);rw[HM.out]at h;exact h
 have hml:E+1+m<=l.length:=by have h:=oH bi<|l.drop<|E+1;rw[HM.out]at h;simp at h;omega
 have he:E+1+m-(E+1)=m:=by omega
 have hsl:0<((l.drop<|E+1).take m).length:=by simp;omega
 have hs0:({data:=((l.drop<|E+1).take m).toArray}:ByteArray)[0]'hsl=c2:=by
  show((l.drop<|E+1).take m)[0]=c2;rw[List.getElem_take,List.getElem_drop];exact hc2
 have HQ:=Lib.hid (Ej (m:=m) HN.out (by have h:=HM.out;rw[<-HE.out]at h;rw[List.drop_drop];exact h)<|He HN.out h0 HC0.out hu hr U Z HC1.out h46 HC2.out h3);have HDD:=Lib.hid (show((l.drop k).drop<|n+1).take m=(l.drop<|E+1).take m from by rw[List.drop_drop,<-HE.out,aat]);cases hu2:upperB c2
 all_goals
  by_cases G:24<n
  ·skip
   have HW:=Lib.hid (show T=(0,0,3)from by rw[<-O,HQ.out,fI,if_pos<|.inl G])
   go_wp2_with (first|(go_at_call 189;refine qmm (bB _ _) ?_)|(go_at_call 196;refine qmm (eC _ _) ?_)|(go_at_call 195;refine qmm (lO _ _ (E+1) (by omega) _ (by omega) J) ?_))
   exact bodyPost_ret (v:=.agg #[.int .i64 0,.int .i64 0,.int .i64 3,.int .i64 k]) (by simp[results,results190,go_sem]) rfl (dJ HW.out (by omega) (by omega) (by omega) qEx)
  by_cases h24m:24<m
  ·skip
   have HW:=Lib.hid (show T=(0,0,3)from by rw[<-O,HQ.out,fI,if_pos<|.inr h24m])
   go_wp2_with (first|(go_at_call 189;refine qmm (bB _ _) ?_)|(go_at_call 196;refine qmm (eC _ _) ?_)|(go_at_call 195;refine qmm (lO _ _ (E+1) (by omega) _ (by omega) J) ?_))
   exact bodyPost_ret (v:=.agg #[.int .i64 0,.int .i64 0,.int .i64 3,.int .i64 k]) (by simp[results,results190,go_sem]) rfl (dJ HW.out (by omega) (by omega) (by omega) qEx)
  cases hr2:ng ((l.drop (E+1)).take m)
  rotate_left
  ·skip
   have HW:=Lib.hid (show T=(0,0,2)from by rw[<-O,HQ.out,fI,if_neg (by omega),if_pos (by rw[HDD.out];exact hr2)])
   go_wp2_with (first|(go_at_call 189;refine qmm (bB _ _) ?_)|(go_at_call 196;refine qmm (eC _ _) ?_)|(go_at_call 195;refine qmm (lO _ _ (E+1) (by omega) _ (by omega) J) ?_))
   exact bodyPost_ret (v:=.agg #[.int .i64 0,.int .i64 0,.int .i64 2,.int .i64 k]) (by simp[results,results190,go_sem]) rfl (dJ HW.out (by omega) (by omega) (by omega) qEx)
  first
  |have HW:=Lib.hid (show T=(3,n+1+m,0)from by rw[<-O,HQ.out,fI,if_neg (by omega),if_neg (by rw[HDD.out];simp[hr2]),if_pos (by rw[aU U HC2.out];exact FK h3 hu2)])
   go_wp2_with (first|(go_at_call 189;refine qmm (bB _ _) ?_)|(go_at_call 196;refine qmm (eC _ _) ?_)|(go_at_call 195;refine qmm (lO _ _ (E+1) (by omega) _ (by omega) J) ?_))
   exact bodyPost_ret (v:=.agg #[.int .i64<|n+1+m,.int .i64 3,.int .i64 0,.int .i64 0]) (by simp[results,results190,go_sem]) rfl (jA HW.out (by omega) (by omega) qEx)
  |have HW:=Lib.hid (show T=(4,n+1+m,0)from by rw[<-O,HQ.out,fI,if_neg (by omega),if_neg (by rw[HDD.out];simp[hr2]),if_neg (by rw[aU U HC2.out];simp[wU hu2])])
   go_wp2_with (first|(go_at_call 189;refine qmm (bB _ _) ?_)|(go_at_call 196;refine qmm (eC _ _) ?_)|(go_at_call 195;refine qmm (lO _ _ (E+1) (by omega) _ (by omega) J) ?_))
   exact bodyPost_ret (v:=.agg #[.int .i64<|n+1+m,.int .i64 4,.int .i64 0,.int .i64 0]) (by simp[results,results190,go_sem]) rfl (jA HW.out (by omega) (by omega) qEx)
theorem Lb(G:Nat)(t:Nat×Nat×Nat):∃a b c d:Int,qK G t=.agg #[.int .i64 a,.int .i64 b,.int .i64 c,.int .i64 d]:=by unfold qK;split<;>exact⟨_,_,_,_,rfl⟩
abbrev DQ:Obj:=.cells #[.int .i64 0,.int .i64 0,.int .i64 0,.int .i64 0] 189
set_option maxHeartbeats 4000000 in
theorem OS (l:List UInt8) (x:Int) (k:Nat) (hxk:x=k) (w:World) (hlt:k<l.length) (hl:l.length<=281474976710656):Calls prog 171 #[.string ⟨l.toArray⟩,.int .i64 x] w (yQ k (tokenT<|l.drop k) w):=by
 subst hxk;obtain⟨T,hT⟩:∃T,tokenT (l.drop k)=T:=⟨_,rfl⟩;rw[hT];have h0:0<(l.drop k).length:=by simp;omega
 obtain⟨c,hc⟩:∃c,({data:=l.toArray}:ByteArray)[k]'hlt=c:=⟨_,rfl⟩;have HC:=Lib.hid<|show l[k]=c from hc;have HC0:=Lib.hid (show(l.drop k)[0]=c from by rw[List.getElem_drop];exact hc);have HT:=Lib.hid<|(Au h0 HC0.out).symm.trans hT;clear hT
 go_enter func171,ntmps171
 cases ha:bo c
 ·skip
  have HW:=Lib.hid (show T=(0,0,1)from by rw[<-HT.out,if_pos ha])
  go_wp2_with (first|(go_at_call 185;refine qmm (bF _ _) ?_)|(go_at_call 186;refine qmm (cG _ _) ?_)|(go_at_call 187;refine qmm (ej _ _) ?_)|(go_at_call 188;refine qmm (cW _ _) ?_)|(go_at_call 189;refine qmm (bB _ _) ?_)|(go_at_call 191;refine qmm (gW _ _ k rfl _ hlt hl) ?_))
  exact bodyPost_ret (v:=.agg #[.int .i64 0,.int .i64 0,.int .i64 1,.int .i64 k]) (by simp[results,results171,go_sem]) rfl (dJ HW.out (by omega) (by omega) (by omega) qEx)
 have HA:=Lib.hid (show¬bo c=false from by simp[ha]);cases h34:((c.toNat:Int)==34)
 rotate_left
 ·have h34':=eZ (m:=34) h34;have HT2:=Lib.hid (show T=(6,quotedT (l.drop (k+1)) 1)from by
   rw[<-HT.out,if_neg HA.out,if_neg (by simp[bO,di,upperB,h34']),if_neg (by simp[ci,h34']),if_pos h34',List.tail_drop])
  clear h34'
  go_wp2_with (first|(go_at_call 185;refine qmm (bF _ _) ?_)|(go_at_call 186;refine qmm (cG _ _) ?_)|(go_at_call 187;refine qmm (ej _ _) ?_)|(go_at_call 188;refine qmm (cW _ _) ?_)|(go_at_call 189;refine qmm (bB _ _) ?_)|(go_at_call 191;refine qmm (gW _ _ k rfl _ hlt hl) ?_))
  go_loopg [6] (l.length-(k+1)) (λg n wx=>∃i:Nat,g=l.length-i∧wx=w.alloc DQ∧k+1<=i∧i<=l.length∧n=.int .i64 i∧Hid (quotedT (l.drop<|k+1) 1=quotedT (l.drop i) (i-k)))
  case atStart=>exact⟨k+1,rfl,rfl,aaf _,by omega,by go_num,Lib.hid (by congr 1;omega)⟩
  case round=>
   obtain⟨i,rfl,rfl,hki,hil,rfl,hrel⟩:=hrel;by_cases hit:i<l.length
   ·skip
    obtain⟨d,hd⟩:∃c,({data:=l.toArray}:ByteArray)[i]'hit=c:=⟨_,rfl⟩;have HD:=Lib.hid<|show l[i]=d from hd;have HS:=Lib.hid<|Li (j:=i-k) hit HD.out;cases hq:((d.toNat:Int)==34)
    rotate_left
    ·have HW:=Lib.hid (show T=(6,i-k+1,0)from by rw[HT2.out,hrel.out,HS.out,if_neg (by simp[EG<|eZ (m:=34) hq]),if_pos<|eZ (m:=34) hq])
     go_wp2_with (first|(go_at_call 185;refine qmm (bF _ _) ?_)|(go_at_call 186;refine qmm (cG _ _) ?_)|(go_at_call 187;refine qmm (ej _ _) ?_)|(go_at_call 188;refine qmm (cW _ _) ?_)|(go_at_call 189;refine qmm (bB _ _) ?_)|(go_at_call 191;refine qmm (gW _ _ k rfl _ hlt hl) ?_))
     exact bodyPost_ret (v:=.agg #[.int .i64<|(i:Int)+1-k,.int .i64 6,.int .i64 0,.int .i64 0]) (by simp[results,results171,go_sem]) rfl (jA HW.out (by omega) (by omega) qEx)
    cases had:bo d
    ·have HW:=Lib.hid (show T=(6,i-k,1)from by rw[HT2.out,hrel.out,HS.out,if_pos had])
     go_wp2_with (first|(go_at_call 185;refine qmm (bF _ _) ?_)|(go_at_call 186;refine qmm (cG _ _) ?_)|(go_at_call 187;refine qmm (ej _ _) ?_)|(go_at_call 188;refine qmm (cW _ _) ?_)|(go_at_call 189;refine qmm (bB _ _) ?_)|(go_at_call 191;refine qmm (gW _ _ k rfl _ hlt hl) ?_))
     exact bodyPost_ret (v:=.agg #[.int .i64 0,.int .i64 0,.int .i64 1,.int .i64 i]) (by simp[results,results171,go_sem]) rfl (dJ HW.out (by omega) (by omega) (by omega) qEx)
    cases hpr:fG d
    ·have HW:=Lib.hid (show T=(6,0,2)from by rw[HT2.out,hrel.out,HS.out,if_neg (by simp[had]),if_neg<|cP (m:=34) hq,if_pos<|.inr<|Ki had hpr])
     go_wp2_with (first|(go_at_call 185;refine qmm (bF _ _) ?_)|(go_at_call 186;refine qmm (cG _ _) ?_)|(go_at_call 187;refine qmm (ej _ _) ?_)|(go_at_call 188;refine qmm (cW _ _) ?_)|(go_at_call 189;refine qmm (bB _ _) ?_)|(go_at_call 191;refine qmm (gW _ _ k rfl _ hlt hl) ?_))
     exact bodyPost_ret (v:=.agg #[.int .i64 0,.int .i64 0,.int .i64 2,.int .i64 k]) (by simp[results,results171,go_sem]) rfl (dJ HW.out (by omega) (by omega) (by omega) qEx)
    cases h92:((d.toNat:Int)==92)
    rotate_left
    ·have HW:=Lib.hid (show T=(6,0,2)from by rw[HT2.out,hrel.out,HS.out,if_neg (by simp[had]),if_neg<|cP (m:=34) hq,if_pos<|.inl<|eZ (m:=92) h92])
     go_wp2_with (first|(go_at_call 185;refine qmm (bF _ _) ?_)|(go_at_call 186;refine qmm (cG _ _) ?_)|(go_at_call 187;refine qmm (ej _ _) ?_)|(go_at_call 188;refine qmm (cW _ _) ?_)|(go_at_call 189;refine qmm (bB _ _) ?_)|(go_at_call 191;refine qmm (gW _ _ k rfl _ hlt hl) ?_))
     exact bodyPost_ret (v:=.agg #[.int .i64 0,.int .i64 0,.int .i64 2,.int .i64 k]) (by simp[results,results171,go_sem]) rfl (dJ HW.out (by omega) (by omega) (by omega) qEx)
    ·go_wp2_with (first|(go_at_call 185;refine qmm (bF _ _) ?_)|(go_at_call 186;refine qmm (cG _ _) ?_)|(go_at_call 187;refine qmm (ej _ _) ?_)|(go_at_call 188;refine qmm (cW _ _) ?_)|(go_at_call 189;refine qmm (bB _ _) ?_)|(go_at_call 191;refine qmm (gW _ _ k rfl _ hlt hl) ?_))
     go_roundg (l.length-(i+1))
     case measure=>omega
     case rel=>exact⟨i+1,rfl,rfl,by omega,by omega,by go_num,Lib.hid (by rw[hrel.out,HS.out,if_neg (by simp[had]),if_neg<|cP (m:=34) hq,if_neg λh=>h.elim (cP (m:=92) h92)<|JM hpr];congr 1;omega)⟩
   ·have HW:=Lib.hid (show T=(6,0,2)from by rw[HT2.out,hrel.out,DC<|by omega])
    go_wp2_with (first|(go_at_call 185;refine qmm (bF _ _) ?_)|(go_at_call 186;refine qmm (cG _ _) ?_)|(go_at_call 187;refine qmm (ej _ _) ?_)|(go_at_call 188;refine qmm (cW _ _) ?_)|(go_at_call 189;refine qmm (bB _ _) ?_)|(go_at_call 191;refine qmm (gW _ _ k rfl _ hlt hl) ?_))
    exact bodyPost_ret (v:=.agg #[.int .i64 0,.int .i64 0,.int .i64 2,.int .i64 k]) (by simp[results,results171,go_sem]) rfl (dJ HW.out (by omega) (by omega) (by omega) qEx)
 cases hdg:ci c
 rotate_left
 ·have HT2:=Lib.hid (show T=(5,gM (l.drop k))from by
   rw[<-HT.out,if_neg HA.out,if_neg (by simp[bO,di,upperB,ci]at hdg⊢;omega),if_pos hdg])
  go_wp2_with (first|(go_at_call 185;refine qmm (bF _ _) ?_)|(go_at_call 186;refine qmm (cG _ _) ?_)|(go_at_call 187;refine qmm (ej _ _) ?_)|(go_at_call 188;refine qmm (cW _ _) ?_)|(go_at_call 189;refine qmm (bB _ _) ?_)|(go_at_call 191;refine qmm (gW _ _ k rfl _ hlt hl) ?_))
  go_loopg [7] (l.length-k) (λg n wx=>∃i:Nat,g=l.length-i∧wx=w.alloc DQ∧k<=i∧i<=l.length∧n=.int .i64 i∧Hid (spanN ci (l.drop k)=i-k+spanN ci (l.drop i)))
  case atStart=>exact⟨k,rfl,rfl,aaf _,by omega,rfl,Lib.hid<|by omega⟩
  case round=>
   obtain⟨i,rfl,rfl,hki,hil,rfl,hrel⟩:=hrel;by_cases hit:i<l.length
   ·skip
    obtain⟨d,hd⟩:∃c,({data:=l.toArray}:ByteArray)[i]'hit=c:=⟨_,rfl⟩;have HD:=Lib.hid<|show l[i]=d from hd;cases hdd:ci d
    ·skip
     have HN:=Lib.hid (show spanN ci (l.drop k)=i-k from by rw[hrel.out,uR hit HD.out hdd];omega);by_cases h1:1<i-k
     ·have h1':(1:Int)<i-k:=by omega
      cases h48:((c.toNat:Int)==48)
      ·have HG:=Lib.hid (show 1<i-k->¬((l.drop k).getD 0 0).toNat=48 from λ_=>by rw[aU h0 HC0.out];exact cP (m:=48) h48);by_cases h15:15<i-k
       ·have h15':(15:Int)<i-k:=by omega
        have HW:=Lib.hid (show T=(5,0,3)from by rw[HT2.out,sm HN.out HG.out h15])
        go_wp2_with (first|(go_at_call 185;refine qmm (bF _ _) ?_)|(go_at_call 186;refine qmm (cG _ _) ?_)|(go_at_call 187;refine qmm (ej _ _) ?_)|(go_at_call 188;refine qmm (cW _ _) ?_)|(go_at_call 189;refine qmm (bB _ _) ?_)|(go_at_call 191;refine qmm (gW _ _ k rfl _ hlt hl) ?_))
        exact bodyPost_ret (v:=.agg #[.int .i64 0,.int .i64 0,.int .i64 3,.int .i64 k]) (by simp[results,results171,go_sem]) rfl (dJ HW.out (by omega) (by omega) (by omega) qEx)
       ·have h15':¬((15:Int)<i-k):=by omega
        have HW:=Lib.hid (show T=(5,i-k,0)from by rw[HT2.out,kR HN.out HG.out h15])
        go_wp2_with (first|(go_at_call 185;refine qmm (bF _ _) ?_)|(go_at_call 186;refine qmm (cG _ _) ?_)|(go_at_call 187;refine qmm (ej _ _) ?_)|(go_at_call 188;refine qmm (cW _ _) ?_)|(go_at_call 189;refine qmm (bB _ _) ?_)|(go_at_call 191;refine qmm (gW _ _ k rfl _ hlt hl) ?_))
        exact bodyPost_ret (v:=.agg #[.int .i64<|(i:Int)-k,.int .i64 5,.int .i64 0,.int .i64 0]) (by simp[results,results171,go_sem]) rfl (jA HW.out (by omega) (by omega) qEx)
      ·skip
       have HW:=Lib.hid (show T=(5,0,2)from by rw[HT2.out,sE HN.out h1 h0 HC0.out h48])
       go_wp2_with (first|(go_at_call 185;refine qmm (bF _ _) ?_)|(go_at_call 186;refine qmm (cG _ _) ?_)|(go_at_call 187;refine qmm (ej _ _) ?_)|(go_at_call 188;refine qmm (cW _ _) ?_)|(go_at_call 189;refine qmm (bB _ _) ?_)|(go_at_call 191;refine qmm (gW _ _ k rfl _ hlt hl) ?_))
       exact bodyPost_ret (v:=.agg #[.int .i64 0,.int .i64 0,.int .i64 2,.int .i64 k]) (by simp[results,results171,go_sem]) rfl (dJ HW.out (by omega) (by omega) (by omega) qEx)
     ·have h1':¬((1:Int)<i-k):=by omega
      have h15':¬((15:Int)<i-k):=by omega
      have HW:=Lib.hid (show T=(5,i-k,0)from by rw[HT2.out,kR HN.out (λh=>absurd h h1)<|by omega])
      go_wp2_with (first|(go_at_call 185;refine qmm (bF _ _) ?_)|(go_at_call 186;refine qmm (cG _ _) ?_)|(go_at_call 187;refine qmm (ej _ _) ?_)|(go_at_call 188;refine qmm (cW _ _) ?_)|(go_at_call 189;refine qmm (bB _ _) ?_)|(go_at_call 191;refine qmm (gW _ _ k rfl _ hlt hl) ?_))
      exact bodyPost_ret (v:=.agg #[.int .i64<|(i:Int)-k,.int .i64 5,.int .i64 0,.int .i64 0]) (by simp[results,results171,go_sem]) rfl (jA HW.out (by omega) (by omega) qEx)
    ·go_wp2_with (first|(go_at_call 185;refine qmm (bF _ _) ?_)|(go_at_call 186;refine qmm (cG _ _) ?_)|(go_at_call 187;refine qmm (ej _ _) ?_)|(go_at_call 188;refine qmm (cW _ _) ?_)|(go_at_call 189;refine qmm (bB _ _) ?_)|(go_at_call 191;refine qmm (gW _ _ k rfl _ hlt hl) ?_))
     go_roundg (l.length-(i+1))
     case measure=>omega
     case rel=>exact⟨i+1,rfl,rfl,by omega,by omega,by go_num,Lib.hid (by rw[hrel.out,pd hit HD.out hdd];omega)⟩
   ·skip
    have HN:=Lib.hid (show spanN ci (l.drop k)=i-k from by rw[hrel.out,wY<|by omega];omega);by_cases h1:1<i-k
    ·have h1':(1:Int)<i-k:=by omega
     cases h48:((c.toNat:Int)==48)
     ·have HG:=Lib.hid (show 1<i-k->¬((l.drop k).getD 0 0).toNat=48 from λ_=>by rw[aU h0 HC0.out];exact cP (m:=48) h48);by_cases h15:15<i-k
      ·have h15':(15:Int)<i-k:=by omega
       have HW:=Lib.hid (show T=(5,0,3)from by rw[HT2.out,sm HN.out HG.out h15])
       go_wp2_with (first|(go_at_call 185;refine qmm (bF _ _) ?_)|(go_at_call 186;refine qmm (cG _ _) ?_)|(go_at_call 187;refine qmm (ej _ _) ?_)|(go_at_call 188;refine qmm (cW _ _) ?_)|(go_at_call 189;refine qmm (bB _ _) ?_)|(go_at_call 191;refine qmm (gW _ _ k rfl _ hlt hl) ?_))
       exact bodyPost_ret (v:=.agg #[.int .i64 0,.int .i64 0,.int .i64 3,.int .i64 k]) (by simp[results,results171,go_sem]) rfl (dJ HW.out (by omega) (by omega) (by omega) qEx)
      ·have h15':¬((15:Int)<i-k):=by omega
       have HW:=Lib.hid (show T=(5,i-k,0)from by rw[HT2.out,kR HN.out HG.out h15])
       go_wp2_with (first|(go_at_call 185;refine qmm (bF _ _) ?_)|(go_at_call 186;refine qmm (cG _ _) ?_)|(go_at_call 187;refine qmm (ej _ _) ?_)|(go_at_call 188;refine qmm (cW _ _) ?_)|(go_at_call 189;refine qmm (bB _ _) ?_)|(go_at_call 191;refine qmm (gW _ _ k rfl _ hlt hl) ?_))
       exact bodyPost_ret (v:=.agg #[.int .i64<|(i:Int)-k,.int .i64 5,.int .i64 0,.int .i64 0]) (by simp[results,results171,go_sem]) rfl (jA HW.out (by omega) (by omega) qEx)
     ·skip
      have HW:=Lib.hid (show T=(5,0,2)from by rw[HT2.out,sE HN.out h1 h0 HC0.out h48])
      go_wp2_with (first|(go_at_call 185;refine qmm (bF _ _) ?_)|(go_at_call 186;refine qmm (cG _ _) ?_)|(go_at_call 187;refine qmm (ej _ _) ?_)|(go_at_call 188;refine qmm (cW _ _) ?_)|(go_at_call 189;refine qmm (bB _ _) ?_)|(go_at_call 191;refine qmm (gW _ _ k rfl _ hlt hl) ?_))
      exact bodyPost_ret (v:=.agg #[.int .i64 0,.int .i64 0,.int .i64 2,.int .i64 k]) (by simp[results,results171,go_sem]) rfl (dJ HW.out (by omega) (by omega) (by omega) qEx)
    ·have h1':¬((1:Int)<i-k):=by omega
     have h15':¬((15:Int)<i-k):=by omega
     have HW:=Lib.hid (show T=(5,i-k,0)from by rw[HT2.out,kR HN.out (λh=>absurd h h1)<|by omega])
     go_wp2_with (first|(go_at_call 185;refine qmm (bF _ _) ?_)|(go_at_call 186;refine qmm (cG _ _) ?_)|(go_at_call 187;refine qmm (ej _ _) ?_)|(go_at_call 188;refine qmm (cW _ _) ?_)|(go_at_call 189;refine qmm (bB _ _) ?_)|(go_at_call 191;refine qmm (gW _ _ k rfl _ hlt hl) ?_))
     exact bodyPost_ret (v:=.agg #[.int .i64<|(i:Int)-k,.int .i64 5,.int .i64 0,.int .i64 0]) (by simp[results,results171,go_sem]) rfl (jA HW.out (by omega) (by omega) qEx)
 have HDg:=Lib.hid (show¬ci c=true from by simp[hdg]);have HQt:=Lib.hid<|cP (m:=34) h34;cases hle:bO c
 rotate_left
 ·have HT2:=Lib.hid (show ce (l.drop k)=T from by rw[<-HT.out,if_neg HA.out,if_pos hle]);obtain⟨a0,a1,a2,a3,hform⟩:=Lb k T;have HF:=Lib.hid hform;have CW:=Lib.hid (λw=>SM l k k rfl w hlt (by rw[HC.out];exact hle) hl);clear hform;have hbe:di c=true∨(di c=false∧upperB c=true):=by cases h:di c<;>simp_all[bO]
  rcases hbe with hlo|⟨hlo,hup⟩
  all_goals
   go_wp2_with (first|(go_at_call 185;refine qmm (bF _ _) ?_)|(go_at_call 186;refine qmm (cG _ _) ?_)|(go_at_call 187;refine qmm (ej _ _) ?_)|(go_at_call 188;refine qmm (cW _ _) ?_)|(go_at_call 189;refine qmm (bB _ _) ?_)|(go_at_call 191;refine qmm (gW _ _ k rfl _ hlt hl) ?_))
   refine(CW.out _).mono ?_;rintro e w1 ⟨rfl,hext⟩;rw[HT2.out,HF.out];have hsz:=hext.size;have hc0:=hext.cell (p:=⟨w.heap.size,0,none⟩) (by simp);have hc1:=hext.cell (p:=⟨w.heap.size,1,none⟩) (by simp);have hc2:=hext.cell (p:=⟨w.heap.size,2,none⟩) (by simp);have hc3:=hext.cell (p:=⟨w.heap.size,3,none⟩) (by simp);have hf0:=hext.frozen (p:=⟨w.heap.size,0,none⟩) (by simp);have hf1:=hext.frozen (p:=⟨w.heap.size,1,none⟩) (by simp);have hf2:=hext.frozen (p:=⟨w.heap.size,2,none⟩) (by simp);have hf3:=hext.frozen (p:=⟨w.heap.size,3,none⟩) (by simp);have HX:=Lib.hid hext;clear hext;simp at hsz hc0 hc1 hc2 hc3 hf0 hf1 hf2 hf3
   go_wp2_with (first|(go_at_call 185;refine qmm (bF _ _) ?_)|(go_at_call 186;refine qmm (cG _ _) ?_)|(go_at_call 187;refine qmm (ej _ _) ?_)|(go_at_call 188;refine qmm (cW _ _) ?_)|(go_at_call 189;refine qmm (bB _ _) ?_)|(go_at_call 191;refine qmm (gW _ _ k rfl _ hlt hl) ?_))
   exact bodyPost_ret (v:=.agg #[.int .i64 a0,.int .i64 a1,.int .i64 a2,.int .i64 a3]) (by simp[results,results171,go_sem,hc0,hc1,hc2,hc3]) rfl ⟨by rw[HF.out],(((((Ext.refl w).alloc _).trans HX.out).setCell (aaf _) _).setCell (aaf _) _).setCell (aaf _) _|>.setCell (aaf _) _⟩
 have HLt:=Lib.hid (show¬bO c=true from by simp[hle]);have hlo:di c=false:=by cases h:di c<;>simp_all[bO]
 have hup:upperB c=false:=by cases h:upperB c<;>simp_all[bO]
 have HSg:=Lib.hid (MT (l.drop k));have HG0:=Lib.hid (aU h0 HC0.out);have HT2:=Lib.hid (show T=if signLen (l.drop k)=0 then(0,0,2)else(8,signLen (l.drop k),0)from by
  rw[<-HSg.out,HG0.out,<-HT.out,if_neg HA.out,if_neg HLt.out,if_neg HDg.out,if_neg HQt.out])
 obtain⟨m,hm⟩:∃m,signLen (l.drop k)=m:=⟨_,rfl⟩;have HM:=Lib.hid hm;by_cases hm0:m=0
 ·have HW:=Lib.hid (show T=(0,0,2)from by rw[HT2.out,HM.out,if_pos hm0]);subst hm0
  go_wp2_with (first|(go_at_call 185;refine qmm (bF _ _) ?_)|(go_at_call 186;refine qmm (cG _ _) ?_)|(go_at_call 187;refine qmm (ej _ _) ?_)|(go_at_call 188;refine qmm (cW _ _) ?_)|(go_at_call 189;refine qmm (bB _ _) ?_)|(go_at_call 191;refine qmm (gW _ _ k rfl _ hlt hl) ?_))
  exact bodyPost_ret (v:=.agg #[.int .i64 0,.int .i64 0,.int .i64 2,.int .i64 k]) (by simp[results,results171,go_sem]) rfl (dJ HW.out (by omega) (by omega) (by omega) qEx)
 ·have HW:=Lib.hid (show T=(8,m,0)from by rw[HT2.out,HM.out,if_neg hm0]);have hmb:((m:Int)==0)=false:=by simp;omega
  go_wp2_with (first|(go_at_call 185;refine qmm (bF _ _) ?_)|(go_at_call 186;refine qmm (cG _ _) ?_)|(go_at_call 187;refine qmm (ej _ _) ?_)|(go_at_call 188;refine qmm (cW _ _) ?_)|(go_at_call 189;refine qmm (bB _ _) ?_)|(go_at_call 191;refine qmm (gW _ _ k rfl _ hlt hl) ?_))
  exact bodyPost_ret (v:=.agg #[.int .i64 m,.int .i64 8,.int .i64 0,.int .i64 0]) (by simp[results,results171,go_sem]) rfl (jA HW.out (by omega) (by omega) qEx)
def Fz(c:UInt8):Int:=Lib.indexByte tO c
theorem Ji:∀(l:YB) (c:UInt8),0<=Lib.indexByte l c↔l.contains c=true
 |[],c=>by simp[Lib.indexByte]
 | b::l,c=>by
  have ih:=Ji l c;have hg:=Lib.indexByte_ge l c;unfold Lib.indexByte;by_cases h:b=c
  ·simp[h]
  ·have h':¬c=b:=λe=>h e.symm;simp only[aaq,h,if_false,List.contains_cons,h',aaC,false_or];rw[<-ih];split<;>omega
theorem tf(c:UInt8):0<=Fz c↔tO.contains c=true:=Ji _ _
theorem oM(c:UInt8)(w:World):Calls prog 120 #[.string ⟨#[40,41,91,93,58,44,61,43,45,42,60,63]⟩,.int .u8 (c.toNat:Int)] w λe w'=>e=.returned (.int .i64<|Fz c)∧w=w':=by
 refine(JH _ _ w).mono ?_;rintro e w' ⟨rfl,rfl⟩;refine⟨bZ ?_,I⟩;have :((c.toNat:Int)).toNat.toUInt8=c:=by simp
 rw[this];rfl
set_option maxHeartbeats 4000000 in
theorem SO(l:YB)(w:World)(h0:0<l.length)(G:l.length<=281474976710656):Calls prog 79 #[.string ⟨l.toArray⟩] w λe w'=>e=.returned (.tuple #[.int .i64 ((tokenT l).1:Nat),.int .i64 ((tokenT l).2.1:Nat),.int .i64 ((tokenT l).2.2:Nat)])∧w=w':=by
 obtain⟨c0,hc0⟩:∃c,({data:=l.toArray}:ByteArray)[0]'h0=c:=⟨_,rfl⟩;have HC0:=Lib.hid<|show l[0]=c0 from hc0;have HT:=Lib.hid<|Au h0 HC0.out
 go_enter func79,ntmps79
 cases ha:bo c0
 ·skip
  have HW:=Lib.hid (show tokenT l=(0,0,1)from by rw[HT.out,if_pos ha])
  go_wp2_with (first|(go_at_call 78;refine qmm (ew _ _) ?_)|(go_at_call 115;refine qmm (bW _ _) ?_)|(go_at_call 117;refine qmm (fw _ _) ?_)|(go_at_call 116;refine qmm (rY _ _ h0 G) ?_)|(go_at_call 118;refine qmm (mz _ _ G) ?_)|(go_at_call 119;refine qmm (mn _ _ h0 G) ?_)|(go_at_call 120;refine qmm (oM _ _) ?_))
  go_ret3
  exact⟨by rw[HW.out];rfl,I⟩
 have HA:=Lib.hid (show¬bo c0=false from by simp[ha]);cases J:bO c0
 rotate_left
 ·skip
  have HW:=Lib.hid (show tokenT l=ce l from by rw[HT.out,if_neg HA.out,if_pos J])
  go_wp2_with (first|(go_at_call 78;refine qmm (ew _ _) ?_)|(go_at_call 115;refine qmm (bW _ _) ?_)|(go_at_call 117;refine qmm (fw _ _) ?_)|(go_at_call 116;refine qmm (rY _ _ h0 G) ?_)|(go_at_call 118;refine qmm (mz _ _ G) ?_)|(go_at_call 119;refine qmm (mn _ _ h0 G) ?_)|(go_at_call 120;refine qmm (oM _ _) ?_))
  go_ret3
  exact⟨by rw[HW.out];rfl,I⟩
 have HL:=Lib.hid (show¬bO c0=true from by simp[J]);cases hd:ci c0
 rotate_left
 ·skip
  have HW:=Lib.hid (show tokenT l=(5,gM l)from by rw[HT.out,if_neg HA.out,if_neg HL.out,if_pos hd])
  go_wp2_with (first|(go_at_call 78;refine qmm (ew _ _) ?_)|(go_at_call 115;refine qmm (bW _ _) ?_)|(go_at_call 117;refine qmm (fw _ _) ?_)|(go_at_call 116;refine qmm (rY _ _ h0 G) ?_)|(go_at_call 118;refine qmm (mz _ _ G) ?_)|(go_at_call 119;refine qmm (mn _ _ h0 G) ?_)|(go_at_call 120;refine qmm (oM _ _) ?_))
  go_ret3
  exact⟨by rw[HW.out];rfl,I⟩
 have HD:=Lib.hid (show¬ci c0=true from by simp[hd]);cases O:((c0.toNat:Int)==34)
 rotate_left
 ·skip
  have HW:=Lib.hid (show tokenT l=(6,quotedT l.tail 1)from by rw[HT.out,if_neg HA.out,if_neg HL.out,if_neg HD.out,if_pos<|eZ (m:=34) O])
  go_wp2_with (first|(go_at_call 78;refine qmm (ew _ _) ?_)|(go_at_call 115;refine qmm (bW _ _) ?_)|(go_at_call 117;refine qmm (fw _ _) ?_)|(go_at_call 116;refine qmm (rY _ _ h0 G) ?_)|(go_at_call 118;refine qmm (mz _ _ G) ?_)|(go_at_call 119;refine qmm (mn _ _ h0 G) ?_)|(go_at_call 120;refine qmm (oM _ _) ?_))
  go_ret3
  exact⟨by rw[HW.out];rfl,I⟩
 have HQ:=Lib.hid<|cP (m:=34) O;cases U:((c0.toNat:Int)==61)
 ·skip
  have HE:=Lib.hid<|show¬(c0.toNat=61∧1<l.length∧(l.getD 1 0).toNat=61)from λh=>cP (m:=61) U h.1;by_cases hs:0<=Fz c0
  ·skip
   have HW:=Lib.hid (show tokenT l=(8,1,0)from by rw[HT.out,if_neg HA.out,if_neg HL.out,if_neg HD.out,if_neg HQ.out,if_neg HE.out,if_pos<|(tf c0).1 hs])
   go_wp2_with (first|(go_at_call 78;refine qmm (ew _ _) ?_)|(go_at_call 115;refine qmm (bW _ _) ?_)|(go_at_call 117;refine qmm (fw _ _) ?_)|(go_at_call 116;refine qmm (rY _ _ h0 G) ?_)|(go_at_call 118;refine qmm (mz _ _ G) ?_)|(go_at_call 119;refine qmm (mn _ _ h0 G) ?_)|(go_at_call 120;refine qmm (oM _ _) ?_))
   go_ret3
   exact⟨by rw[HW.out];rfl,I⟩
  ·skip
   have HW:=Lib.hid (show tokenT l=(0,0,2)from by rw[HT.out,if_neg HA.out,if_neg HL.out,if_neg HD.out,if_neg HQ.out,if_neg HE.out,if_neg λh=>hs<|(tf c0).2 h])
   go_wp2_with (first|(go_at_call 78;refine qmm (ew _ _) ?_)|(go_at_call 115;refine qmm (bW _ _) ?_)|(go_at_call 117;refine qmm (fw _ _) ?_)|(go_at_call 116;refine qmm (rY _ _ h0 G) ?_)|(go_at_call 118;refine qmm (mz _ _ G) ?_)|(go_at_call 119;refine qmm (mn _ _ h0 G) ?_)|(go_at_call 120;refine qmm (oM _ _) ?_))
   go_ret3
   exact⟨by rw[HW.out];rfl,I⟩
 by_cases h1:1<l.length
 rotate_left
 ·skip
  have HE:=Lib.hid<|show¬(c0.toNat=61∧1<l.length∧(l.getD 1 0).toNat=61)from λh=>h1 h.2.1;by_cases hs:0<=Fz c0
  ·skip
   have HW:=Lib.hid (show tokenT l=(8,1,0)from by rw[HT.out,if_neg HA.out,if_neg HL.out,if_neg HD.out,if_neg HQ.out,if_neg HE.out,if_pos<|(tf c0).1 hs])
   go_wp2_with (first|(go_at_call 78;refine qmm (ew _ _) ?_)|(go_at_call 115;refine qmm (bW _ _) ?_)|(go_at_call 117;refine qmm (fw _ _) ?_)|(go_at_call 116;refine qmm (rY _ _ h0 G) ?_)|(go_at_call 118;refine qmm (mz _ _ G) ?_)|(go_at_call 119;refine qmm (mn _ _ h0 G) ?_)|(go_at_call 120;refine qmm (oM _ _) ?_))
   go_ret3
   exact⟨by rw[HW.out];rfl,I⟩
  ·skip
   have HW:=Lib.hid (show tokenT l=(0,0,2)from by rw[HT.out,if_neg HA.out,if_neg HL.out,if_neg HD.out,if_neg HQ.out,if_neg HE.out,if_neg λh=>hs<|(tf c0).2 h])
   go_wp2_with (first|(go_at_call 78;refine qmm (ew _ _) ?_)|(go_at_call 115;refine qmm (bW _ _) ?_)|(go_at_call 117;refine qmm (fw _ _) ?_)|(go_at_call 116;refine qmm (rY _ _ h0 G) ?_)|(go_at_call 118;refine qmm (mz _ _ G) ?_)|(go_at_call 119;refine qmm (mn _ _ h0 G) ?_)|(go_at_call 120;refine qmm (oM _ _) ?_))
   go_ret3
   exact⟨by rw[HW.out];rfl,I⟩
 obtain⟨c1,hc1⟩:∃c,({data:=l.toArray}:ByteArray)[1]'h1=c:=⟨_,rfl⟩;have HC1:=Lib.hid<|show l[1]=c1 from hc1;cases Z:((c1.toNat:Int)==61)
 ·skip
  have HE:=Lib.hid (show¬(c0.toNat=61∧1<l.length∧(l.getD 1 0).toNat=61)from λh=>cP (m:=61) Z (by rw[<-aU h1 HC1.out];exact h.2.2));by_cases hs:0<=Fz c0
  ·skip
   have HW:=Lib.hid (show tokenT l=(8,1,0)from by rw[HT.out,if_neg HA.out,if_neg HL.out,if_neg HD.out,if_neg HQ.out,if_neg HE.out,if_pos<|(tf c0).1 hs])
   go_wp2_with (first|(go_at_call 78;refine qmm (ew _ _) ?_)|(go_at_call 115;refine qmm (bW _ _) ?_)|(go_at_call 117;refine qmm (fw _ _) ?_)|(go_at_call 116;refine qmm (rY _ _ h0 G) ?_)|(go_at_call 118;refine qmm (mz _ _ G) ?_)|(go_at_call 119;refine qmm (mn _ _ h0 G) ?_)|(go_at_call 120;refine qmm (oM _ _) ?_))
   go_ret3
   exact⟨by rw[HW.out];rfl,I⟩
  ·skip
   have HW:=Lib.hid (show tokenT l=(0,0,2)from by rw[HT.out,if_neg HA.out,if_neg HL.out,if_neg HD.out,if_neg HQ.out,if_neg HE.out,if_neg λh=>hs<|(tf c0).2 h])
   go_wp2_with (first|(go_at_call 78;refine qmm (ew _ _) ?_)|(go_at_call 115;refine qmm (bW _ _) ?_)|(go_at_call 117;refine qmm (fw _ _) ?_)|(go_at_call 116;refine qmm (rY _ _ h0 G) ?_)|(go_at_call 118;refine qmm (mz _ _ G) ?_)|(go_at_call 119;refine qmm (mn _ _ h0 G) ?_)|(go_at_call 120;refine qmm (oM _ _) ?_))
   go_ret3
   exact⟨by rw[HW.out];rfl,I⟩
 ·skip
  have HW:=Lib.hid (show tokenT l=(8,2,0)from by rw[HT.out,if_neg HA.out,if_neg HL.out,if_neg HD.out,if_neg HQ.out,if_pos ⟨eZ (m:=61) U,h1,by rw[aU h1 HC1.out];exact eZ (m:=61) Z⟩])
  go_wp2_with (first|(go_at_call 78;refine qmm (ew _ _) ?_)|(go_at_call 115;refine qmm (bW _ _) ?_)|(go_at_call 117;refine qmm (fw _ _) ?_)|(go_at_call 116;refine qmm (rY _ _ h0 G) ?_)|(go_at_call 118;refine qmm (mz _ _ G) ?_)|(go_at_call 119;refine qmm (mn _ _ h0 G) ?_)|(go_at_call 120;refine qmm (oM _ _) ?_))
  go_ret3
  exact⟨by rw[HW.out];rfl,I⟩
def fJ(l:List TokZ):List Value:=l.flatMap λt=>[.int .i64 t.kind,.string ⟨t.lead.toArray⟩,.string ⟨t.text.toArray⟩]
def yt(w:World)(v:Value)(l:List TokZ):Prop:=∃A c,v=.slice A l.length c∧l.length<=c∧c<=maxLen∧Row w 3 A l.length (fJ l)
def ScanPost(l:YB)(w:World)(e:Ending)(w':World):Prop:=
 ∃v,e=.returned (.tuple #[v,.string ⟨(ky l).tail.toArray⟩,.int .i64 ((ky l).place:Nat),.int .i64 ((ky l).err:Nat)])∧yt w' v (ky l).toks∧Ext w w'
theorem PU:(prog.info? 92).map (λi=>(i.zero,i.size,i.bytes))=some (some<|.agg #[.int .i64 0,.string ByteArray.empty,.string ByteArray.empty],3,40):=by kernel_rfl
theorem EK(l:List TokZ)(t:TokZ):fJ (l++[t])=fJ l++[.int .i64 t.kind,.string ⟨t.lead.toArray⟩,.string ⟨t.text.toArray⟩]:=by simp[fJ]
theorem Mz{w:World}{base:Nat}{v:Value}{l:List TokZ}(h:w.ownsRow base 92 3 v l.length<|fJ l):yt w v l:=by obtain⟨A,c,rfl,G,J⟩:=DW h;exact⟨A,c,I,G,J,Row.of_own h⟩
theorem zu(w:World):yt w (.slice none 0 0) []:=⟨none,0,rfl,aaf _,aao _,Row.none_⟩
variable{l:YB}
theorem Iq{w:World}{v:Value}{r:Scanned}{tail:YB}{p e:Int}(h:ky l=r)(ht:r.tail=tail)(G:(r.place:Int)=p)(J:(r.err:Int)=e)(hr:yt w' v r.toks)(hx:Ext w w'):
  ScanPost l w (.returned<|.tuple #[v,.string ⟨tail.toArray⟩,.int .i64 p,.int .i64 e]) w':=by
 subst h;subst ht;subst G;subst J;exact⟨v,I,hr,hx⟩
end Go.Proofs.YtomplbgchbfjpaaGreatDoor
