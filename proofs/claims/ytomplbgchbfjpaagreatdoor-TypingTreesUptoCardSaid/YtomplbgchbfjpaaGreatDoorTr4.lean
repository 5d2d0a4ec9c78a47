/- Contracts of the functions that the law reaches, part 4. -/
import Derived.Test.YtomplbgchbfjpaaGreatDoorTr3
set_option linter.unusedVariables false
set_option linter.unusedSimpArgs false
namespace Go.Proofs.YtomplbgchbfjpaaGreatDoor
open _root_.Go.Proofs.Tryz
open Go.RowKit Lx Sx
set_option maxRecDepth 100000
set_option maxHeartbeats 4000000
structure ae where
 Known:Bool
 T:Tree
abbrev ae.c(x:ae):List V:=[.bool x.Known,.int .i64 x.T.kind,.str x.T.text,.row 1 (x.T.leads.map .str),.row 4 (kidsV x.T.kids)]
structure CHr where
 P:(List Tree)
 Module:Int
 L:(List ac)
 Want:(List Int)
 Got_Known:Bool
 Got_T_Kind:Int
 Got_T_Text:(List UInt8)
 Got_T_Leads:(List (List UInt8))
 Got_T_Kids:(List Tree)
abbrev CHr.L_o(x:CHr):Ob:=.row 47 3 (List.map ac.w x.L)
abbrev CHr.o(x:CHr)(i0:Nat):Ob:=.var 66 [.row 4 (kidsV x.P),.int .i64 x.Module,.sl i0,.row 1 (List.map (V.int .i64) x.Want),.bool x.Got_Known,.int .i64 x.Got_T_Kind,.str x.Got_T_Text,.row 1 (List.map V.str x.Got_T_Leads),.row 4 (kidsV x.Got_T_Kids)]
structure aj where
 Name:(List UInt8)
 T:ae
abbrev aj.c(x:aj):List V:=[.str x.Name,.bool x.T.Known,.int .i64 x.T.T.kind,.str x.T.T.text,.row 1 (x.T.T.leads.map .str),.row 4 (kidsV x.T.T.kids)]
abbrev aj.w(x:aj):V:=.agg x.c
abbrev vD(a0:V)(a1:Int)(a2:List UInt8)(a3:List (List UInt8))(a4:List Tree):Ob:=.var 64 [a0,.int .i64 a1,.str a2,.row 1 (List.map V.str a3),.row 4 (kidsV a4)]
abbrev vA(a0:V)(a1:Int)(a2:List UInt8):Ob:=.var 64 [a0,.int .i64 a1,.str a2,.nils,.nils]
def bd(G:Int)(J:ae):Prop:=qS 143 [qi G] (.agg (ae.c J))
def bh(G p1:ae)(J:Bool):Prop:=qS 38 [.agg (ae.c G),.agg (ae.c p1)] (.bool J)
def cG(G:ae)(p1:Int)(J:Bool):Prop:=qS 172 [.agg (ae.c G),qi p1] (.bool J)
def bM(G:List Int)(p1:Int)(J:List Int):Prop:=qS 65 [.row 1 (List.map (V.int .i64) G),qi p1] (.row 1 (List.map (V.int .i64) J))
def lO(G p1:ac)(J:Bool):Prop:=qS 40 [.agg (ac.c G),.agg (ac.c p1)] (.bool J)
def lh(G:List Tree)(J:List ac):Prop:=qS 15 [.row 4 (kidsV G)] (.row 3 (List.map ac.w J))
def iZ(G:List Tree)(p1:bw)(J:Tree)(O:Int):Prop:=qS 11 [.row 4 (kidsV G),.agg (bw.c p1)] (.tup [.agg (am J),qi O])
def aF(J:CHr)(p1:List Int)(p2:Int)(q0:CHr):Prop:=bC [] prog 37 [.ptr 0 0,.row 1 (List.map (V.int .i64) p1),qi p2] ⟨2,[(1,CHr.L_o J),(0,CHr.o J 1)]⟩ (λu G=>u=.tup []∧G=⟨2,[(1,CHr.L_o q0),(0,CHr.o q0 1)]⟩)
def aX(J:CHr)(p1:Int)(p2:Tree)(O:ae)(q0:CHr):Prop:=bC [] prog 39 [.ptr 0 0,qi p1,.agg (am p2)] ⟨2,[(1,CHr.L_o J),(0,CHr.o J 1)]⟩ (λu G=>u=.agg (ae.c O)∧G=⟨3,[(1,CHr.L_o q0),(0,CHr.o q0 1)]⟩)
def dQ(J:CHr)(p1:Tree)(p2:List Int)(p3:List aj)(O:ae)(q0:CHr):Prop:=bC [] prog 61 [.ptr 0 0,.agg (am p1),.row 1 (List.map (V.int .i64) p2),.row 6 (List.map aj.w p3)] ⟨2,[(1,CHr.L_o J),(0,CHr.o J 1)]⟩ (λu G=>u=.agg (ae.c O)∧G=⟨3,[(1,CHr.L_o q0),(0,CHr.o q0 1)]⟩)
def aQ(J:CHr)(p1:Tree)(p2:List Int)(p3:Int)(O:List aj)(U:ae)(q0:CHr):Prop:=bC [] prog 146 [.ptr 0 0,.agg (am p1),.row 1 (List.map (V.int .i64) p2),qi p3,.row 6 (List.map aj.w O)] ⟨2,[(1,CHr.L_o J),(0,CHr.o J 1)]⟩ (λu G=>u=.agg (ae.c U)∧G=⟨3,[(1,CHr.L_o q0),(0,CHr.o q0 1)]⟩)
def aM(J:CHr)(p1:Tree)(p2:List Int)(p3:List aj)(O:ae)(q0:CHr):Prop:=bC [] prog 103 [.ptr 0 0,.agg (am p1),.row 1 (List.map (V.int .i64) p2),.row 6 (List.map aj.w p3)] ⟨2,[(1,CHr.L_o J),(0,CHr.o J 1)]⟩ (λu G=>u=.agg (ae.c O)∧G=⟨3,[(1,CHr.L_o q0),(0,CHr.o q0 1)]⟩)
def ja(J:CHr)(p1:Tree)(p2:List Int)(p3:List aj)(O:ae)(q0:CHr):Prop:=bC [] prog 144 [.ptr 0 0,.agg (am p1),.row 1 (List.map (V.int .i64) p2),.row 6 (List.map aj.w p3)] ⟨2,[(1,CHr.L_o J),(0,CHr.o J 1)]⟩ (λu G=>u=.agg (ae.c O)∧G=⟨3,[(1,CHr.L_o q0),(0,CHr.o q0 1)]⟩)
def mn(J:CHr)(p1:Tree)(p2:List Int)(p3:List aj)(O:ae)(q0:CHr):Prop:=bC [] prog 145 [.ptr 0 0,.agg (am p1),.row 1 (List.map (V.int .i64) p2),.row 6 (List.map aj.w p3)] ⟨2,[(1,CHr.L_o J),(0,CHr.o J 1)]⟩ (λu G=>u=.agg (ae.c O)∧G=⟨3,[(1,CHr.L_o q0),(0,CHr.o q0 1)]⟩)
def mZ(J:CHr)(p1:Tree)(p2:List Int)(p3:List aj)(O:ae)(q0:CHr):Prop:=bC [] prog 147 [.ptr 0 0,.agg (am p1),.row 1 (List.map (V.int .i64) p2),.row 6 (List.map aj.w p3)] ⟨2,[(1,CHr.L_o J),(0,CHr.o J 1)]⟩ (λu G=>u=.agg (ae.c O)∧G=⟨3,[(1,CHr.L_o q0),(0,CHr.o q0 1)]⟩)
def cV(J:CHr)(p1:List Int)(q0:CHr):Prop:=bC [] prog 35 [.ptr 0 0,.row 1 (List.map (V.int .i64) p1)] ⟨2,[(1,CHr.L_o J),(0,CHr.o J 1)]⟩ (λu G=>u=.tup []∧G=⟨2,[(1,CHr.L_o q0),(0,CHr.o q0 1)]⟩)
def cZ(J:CHr)(p1:Int)(O:ae)(q0:CHr):Prop:=bC [] prog 29 [.ptr 0 0,qi p1] ⟨2,[(1,CHr.L_o J),(0,CHr.o J 1)]⟩ (λu G=>u=.agg (ae.c O)∧G=⟨3,[(1,CHr.L_o q0),(0,CHr.o q0 1)]⟩)
theorem uy(m:Nat)(G:Int)(J:ae)(h:(ae.mk true (Tree.node G [] [] []))=J):bd G J:=by
 refine⟨rfl,rfl,?_⟩;refine qA 6 [] func143 λK O=>?_;refine gR 14 rfl ?_;subst h;exact go_sub (F':=(mkF 6 0 [(2,.ptr 0 0)])) (H':=⟨1,[(0,vD (.bool ((ae.mk true (Tree.node G [] [] [])).Known)) (((ae.mk true (Tree.node G [] [] [])).T).kind) (((ae.mk true (Tree.node G [] [] [])).T).text) (((ae.mk true (Tree.node G [] [] [])).T).leads) (((ae.mk true (Tree.node G [] [] [])).T).kids))]⟩) [0] [] rfl O pq1 ⟨⟨_,rfl,rfl,(.cons .rfl (.cons .rfl (.cons .rfl (.cons (.nil 1) (.cons (.nil 4) .nil)))))⟩,trivial⟩ rfl<|qN [.cell 2 64]
theorem uc(m:Nat)(G p1:ae)(J:Bool)(h:((G.Known=true)→((p1.Known=true)→∃a,dc G.T p1.T a∧(!a)=J)∧((p1.Known=false)→false=J))∧((G.Known=false)→false=J)):bh G p1 J:=by
 refine⟨rfl,rfl,?_⟩;refine qA 19 [] func38 λK O=>?_;refine gR 3 rfl<|gFP 0 rfl rfl rfl rfl<|gR 1 rfl<|gFP 1 rfl rfl rfl rfl<|gR 8 rfl<|qBiZ 7 6 rfl rfl rfl rfl h ?_ ?_<;>intro h;refine gR 4 rfl<|qBiZ 11 10 rfl rfl rfl rfl h ?_ ?_<;>intro h;refine gR 4 rfl ?_;obtain⟨a,b,h⟩:=h;refine qC0 b rfl<|gR 6 rfl ?_;subst h;exact qN [.tmp 4];refine gR 11 rfl ?_;subst h;exact qN [.tmp 4];refine gR 15 rfl ?_;subst h;exact qN [.tmp 4]
theorem wZ(m:Nat)(G:ae)(p1:Int)(J:Bool)(h:((G.Known=true)→(G.T.kind==p1)=J)∧((G.Known=false)→false=J)):cG G p1 J:=by
 refine⟨rfl,rfl,?_⟩;refine qA 14 [] func172 λK O=>?_;refine gR 3 rfl<|gFP 0 rfl rfl rfl rfl<|gR 8 rfl<|qBiZ 7 6 rfl rfl rfl rfl h ?_ ?_<;>intro h;refine gR 10 rfl ?_;subst h;exact qN [.tmp 4];refine gR 10 rfl ?_;subst h;exact qN [.tmp 4]
theorem wV(m:Nat)(G:List Int)(p1:Int)(J:List Int)(h:G.length≤1000000000∧(G++[p1]).length≤1000000000∧(G++[p1])=J):bM G p1 J:=by
 refine⟨rfl,rfl,?_⟩;refine qA 11 [] func65 λK O=>?_;refine gR 9 rfl ?_;obtain⟨hb,h⟩:=h;refine gDo (.repl 0 (.row 3 1 (List.map (V.int .i64) G))) (ju ah rfl rfl rfl rfl rfl (List.nil_append _) (by rw[aH];exact hb)) (okR rfl) rfl rfl rfl<|gR 2 rfl ?_;obtain⟨hb,h⟩:=h;refine gDo (.repl 1 (.row 3 1 (List.map (V.int .i64) (G++[p1])))) (ju ah rfl rfl rfl rfl rfl (apM (V.int .i64) G p1) (by rw[aH];exact hb)) (okR rfl) rfl rfl rfl<|gR 4 rfl<|gFR 3 rfl (lV _ (λ_=>rfl) _) rfl rfl ?_;subst h;exact qN [.tmp 4]
def iu(m:Nat)(J p1:ac)(a:Nat)(O:Bool):Prop:=∀(K:Ctx) (G:Nat),az K []→m≤G→qLG K f40 (λu _=>u=.bool O) (xL (ai f40)) [.loop (xL (ai f40)) G,.blk 0,.seq (xA (ai f40))] 71 (mkF 71 0 [(2,.box (ac.c J) 0),(3,.box (ac.c p1) 0),(5,qi (a:Int))]) ⟨0,[]⟩
def iC(m:Nat)(G p1:ac)(J:Bool):Prop:=∀(K:Ctx),az K []→qLG K f40 (λu _=>u=.bool J) (xA (ai f40)) [] 71 (mkF 71 0 [(2,.box (ac.c G) 0),(3,.box (ac.c p1) 0)]) ⟨0,[]⟩
theorem uP(m:Nat)(p0 p1:ac)(r0:Bool)(h:iu m p0 p1 0 r0):lO p0 p1 r0:=by
 refine⟨rfl,rfl,?_⟩;refine qA 71 [] func40 λK hK=>?_;exact gR 3 rfl<|gFP 0 rfl rfl rfl rfl<|gR 1 rfl<|gFP 1 rfl rfl rfl rfl<|gR 10 rfl<|go_loop m<|qW hK h []
theorem hJ(m:Nat)(G p1:ac)(a:Nat)(J:Bool)(h:((a<G.At.Path.length)→((a<p1.At.Path.length)→∃b,G.At.Path[a]?=some b∧∃c,p1.At.Path[a]?=some c∧((b≠c)→∃d,G.At.Path[a]?=some d∧∃e,p1.At.Path[a]?=some e∧decide (d<e)=J)∧((b=c)→iu m G p1 (a+1) J))∧((¬a<p1.At.Path.length)→iC m G p1 J))∧((¬a<G.At.Path.length)→iC m G p1 J)):iu (m+1) G p1 a J:=by
 refine qj λK Z O o=>?_;refine gR 8 rfl<|gV 10 (qi (G.At.Path.length:Int)) rfl (aI (aH (V.int .i64) _)) rfl<|gLB 9 rfl (aH (V.int .i64) _) λl=>gR 2 rfl<|qXhZ 12 11 rfl rfl rfl rfl h cr co ?_ ?_<;>intro U h;refine gR 5 rfl<|gV 17 (qi (p1.At.Path.length:Int)) rfl (aI (aH (V.int .i64) _)) rfl<|gLB 16 rfl (aH (V.int .i64) _) λn=>gR 4 rfl<|qXh 19 rfl rfl rfl h cr co ?_ ?_<;>intro U h;refine gR 6 rfl<|qDs [] 13 13<|qDr (qR 0 4 2 []) rfl rfl ?_;obtain⟨b,g,h⟩:=h;refine gYd 4 rfl (by kernel_rfl) (aG (aw (f:=(V.int .i64)) g) ah rfl rfl rfl rfl) rfl rfl<|qDr (qR 5 4 2 [(9,0)]) rfl rfl ?_;obtain⟨c,i,h⟩:=h;refine bU 10 rfl (by kernel_rfl) (aG (aw (f:=(V.int .i64)) i) ah rfl rfl rfl rfl) rfl rfl ?_;refine qDr [(11,0),(12,0)] rfl rfl<|qDe<|gR 1 rfl<|qXh 34 rfl rfl rfl h dq ce ?_ ?_<;>intro U h;refine gR 2 rfl<|qDs [] 14 14<|qDr (qR 0 4 2 []) rfl rfl ?_;obtain⟨d,j,h⟩:=h;refine gYd 4 rfl (by kernel_rfl) (aG (aw (f:=(V.int .i64)) j) ah rfl rfl rfl rfl) rfl rfl<|qDr (qR 5 4 2 [(9,0)]) rfl rfl ?_;obtain⟨e,k,h⟩:=h;refine bU 10 rfl (by kernel_rfl) (aG (aw (f:=(V.int .i64)) k) ah rfl rfl rfl rfl) rfl rfl ?_;refine qDr (qR 11 3 0 []) rfl rfl<|qDe<|gR 4 rfl<|go_xloopR<|gR 2 rfl ?_;subst h;exact qN [.tmp 4];exact gR 7 rfl<|gV 21 (qi ((a+1:Nat):Int)) rfl (al (by have :=l;omega) (by omega)) rfl<|gR 2 rfl<|go_xloop<|qW O h [];exact gR 3 rfl<|go_xloopE<|gR 2 rfl<|qJ O (h K O) [];exact gR 12 rfl<|go_xloopE<|gR 2 rfl<|qJ O (h K O) []
theorem rL1_semvcsref08_ahead(m:Nat)(G p1:ac)(J:Bool)(h:((G.At.Path.length≠p1.At.Path.length)→decide ((G.At.Path.length:Int)<(p1.At.Path.length:Int))=J)∧((G.At.Path.length=p1.At.Path.length)→decide (G.Kind<p1.Kind)=J)):iC (m+1) G p1 J:=by
 intro K O;refine gR 7 rfl<|gV 51 (qi (G.At.Path.length:Int)) rfl (aI (aH (V.int .i64) _)) rfl<|gLB 50 rfl (aH (V.int .i64) _) λa=>gR 4 rfl<|gV 55 (qi (p1.At.Path.length:Int)) rfl (aI (aH (V.int .i64) _)) rfl<|gLB 54 rfl (aH (V.int .i64) _) λb=>gR 3 rfl<|qBh 56 rfl rfl rfl h xr xh ?_ ?_<;>intro h;refine gR 7 rfl<|gV 60 (qi (G.At.Path.length:Int)) rfl (aI (aH (V.int .i64) _)) rfl<|gR 4 rfl<|gV 64 (qi (p1.At.Path.length:Int)) rfl (aI (aH (V.int .i64) _)) rfl<|gR 6 rfl ?_;subst h;exact qN [.tmp 4];refine gR 14 rfl ?_;subst h;exact qN [.tmp 4]
def fp(m:Nat)(J:List Tree)(a:List ac)(b:Nat)(O:List ac):Prop:=∀(K:Ctx) (G:Nat),az K []→m≤G→qLG K f15 (λu _=>u=.row 3 (List.map ac.w O)) (xG (ai f15)) [.loop (xG (ai f15)) G,.blk 0,.seq (xF (ai f15))] 127 (mkF 127 0 [(0,.row 4 (kidsV J)),(3,.sl 0),(4,qi (b:Int))]) ⟨1,[(0,.row 47 3 (List.map ac.w a))]⟩
def bK(m:Nat)(O:List Tree)(b:Nat)(a:CHr)(c:List ac)(d:Nat)(U:List ac):Prop:=∀(K:Ctx) (G J:Nat),az K []→m≤G→m≤J→qLG K f15 (λu _=>u=.row 3 (List.map ac.w U)) (xL (xK (cB (xG (ai f15))))) [.loop (xL (xK (cB (xG (ai f15))))) G,.blk 2,.seq (xA (xK (cB (xG (ai f15))))),.blk 1,.seq (xA (xG (ai f15))),.loop (xG (ai f15)) J,.blk 0,.seq (xF (ai f15))] 127 (mkF 127 0 [(0,.row 4 (kidsV O)),(3,.sl 0),(4,qi (d:Int)),(5,.ptr 1 0),(6,qi (b:Int))]) ⟨3,[(2,CHr.L_o a),(1,CHr.o a 2),(0,.row 47 3 (List.map ac.w c))]⟩
def ci(m:Nat)(O:List Tree)(a:List ac)(b:Nat)(c:List ac)(d:Nat)(U:List ac):Prop:=∀(K:Ctx) (G J:Nat),az K []→m≤G→m≤J→qLG K f15 (λu _=>u=.row 3 (List.map ac.w U)) (xG (xK (cB (xG (ai f15))))) [.loop (xG (xK (cB (xG (ai f15))))) G,.blk 4,.seq (xF (xK (cB (xG (ai f15))))),.blk 1,.seq (xA (xG (ai f15))),.loop (xG (ai f15)) J,.blk 0,.seq (xF (ai f15))] 127 (mkF 127 0 [(0,.row 4 (kidsV O)),(3,.sl 0),(4,qi (b:Int)),(9,.sl 1),(10,qi (d:Int))]) ⟨2,[(1,.row 47 3 (List.map ac.w c)),(0,.row 47 3 (List.map ac.w a))]⟩
def hI(m:Nat)(U:List Tree)(a:List ac)(b:Nat)(c:List ac)(d:Nat)(e:Int)(Z:List ac):Prop:=∀(K:Ctx) (G J O:Nat),az K []→m≤G→m≤J→m≤O→qLG K f15 (λu _=>u=.row 3 (List.map ac.w Z)) (xM (xK (cB (xG (xK (cB (xG (ai f15)))))))) [.loop (xM (xK (cB (xG (xK (cB (xG (ai f15)))))))) G,.blk 6,.blk 5,.seq (xA (xG (xK (cB (xG (ai f15)))))),.loop (xG (xK (cB (xG (ai f15))))) J,.blk 4,.seq (xF (xK (cB (xG (ai f15))))),.blk 1,.seq (xA (xG (ai f15))),.loop (xG (ai f15)) O,.blk 0,.seq (xF (ai f15))] 127 (mkF 127 0 [(0,.row 4 (kidsV U)),(3,.sl 0),(4,qi (b:Int)),(9,.sl 1),(10,qi (d:Int)),(11,qi e)]) ⟨2,[(1,.row 47 3 (List.map ac.w c)),(0,.row 47 3 (List.map ac.w a))]⟩
theorem nX(m:Nat)(p0:List Tree)(r0:List ac)(h:∃a,fg p0 a∧((a=false)→[]=r0)∧((a=true)→fp m p0 ([]:List ac) 0 r0)):lh p0 r0:=by
 refine⟨rfl,rfl,?_⟩;refine qA 127 [] func15 λK hK=>?_;refine gR 9 rfl ?_;obtain⟨a,b,h⟩:=h;refine qC0 b rfl<|gR 3 rfl<|qXh 14 rfl rfl rfl h bt br ?_ ?_<;>intro hd h;refine gR 8 rfl ?_;subst h;exact go_sub (F':=(mkF 127 0 [(2,.row 3 (List.map ac.w []))])) (H':=⟨0,[]⟩) [] [] rfl hK ⟨⟨_,rfl,(.nil 3)⟩,trivial⟩ trivial rfl<|qN [.tmp 2];exact gR 15 rfl<|go_loop m<|gNS 3 47 3 rfl rfl rfl rfl<|qW hK h [0]
theorem ny(m:Nat)(p0:List Tree)(b:List ac)(a:Nat)(r0:List ac)(h:((a<p0.length)→bK m p0 0 (CHr.mk p0 (a:Int) ([]:List ac) [] false 0 [] [] []) b a r0)∧((¬a<p0.length)→b=r0)):fp (m+1) p0 b a r0:=by
 refine qj λK j1 hK d=>?_;refine gR 6 rfl<|gV 17 (qi (p0.length:Int)) rfl (aI (aD _)) rfl<|gLB 16 rfl (aD _) λc=>gR 3 rfl<|qXh 18 rfl rfl rfl h cr co ?_ ?_<;>intro hd h;exact gR 21 rfl<|go_loop m<|gNC 1 2 47 3 rfl rfl rfl rfl<|qJH hK (h K _ _ hK (by omega) (by omega)) [0,1,2] ⟨⟨_,rfl,⟨rfl,rfl,rfl⟩⟩,⟨⟨_,rfl,⟨rfl,(.cons .rfl (.cons .rfl (.cons .rfl (.cons (.nil 1) (.cons .rfl (.cons .rfl (.cons .rfl (.cons (.nil 1) (.cons (.nil 4) .nil)))))))))⟩⟩,⟨⟨_,rfl,⟨rfl,rfl,(vG _ b).symm⟩⟩,trivial⟩⟩⟩;refine gR 3 rfl<|go_xloopE<|gR 9 rfl<|gFR 0 rfl (lV _ (λ_=>rfl) _) rfl rfl ?_;subst h;exact qN [.tmp 2]
theorem jQ(m:Nat)(p0:List Tree)(a:Nat)(p:CHr)(b:List ac)(c:Nat)(r0:List ac)(h:∃l,p0[c]?=some l∧((a<l.kids.length)→∃v,p0[c]?=some v∧∃d,v.kids[a]?=some d∧∃f,cV p [(a:Int)] f∧((d.kind=3)→∃r,jW p0 (c:Int) (a:Int) r∧((r=true)→∃n,aF f [(a:Int)] 5 n∧bK m p0 (a+1) n b c r0)∧((r=false)→bK m p0 (a+1) f b c r0))∧((d.kind≠3)→∃s,((d.kids.length:Int)-2)=((s:Nat):Int)∧∃x,d.kids[s]?=some x∧∃y g,cZ f (a:Int) y g∧∃q e,aX g (c:Int) x q e∧∃k,bh y q k∧((k=true)→∃i,aF e [(a:Int),((d.kids.length:Int)-1)] 4 i∧bK m p0 (a+1) i b c r0)∧((k=false)→bK m p0 (a+1) e b c r0)))∧((¬a<l.kids.length)→ci m p0 b c p.L 1 r0)):bK (m+1) p0 a p b c r0:=by
 intro K j1 j2 hK ξ ο;obtain⟨j1,rfl⟩:∃j,j1=j+1:=⟨j1-1,by omega⟩;obtain⟨j2,rfl⟩:∃j,j2=j+1:=⟨j2-1,by omega⟩;refine gR 6 rfl ?_;obtain⟨l,z,h⟩:=h;refine gY (aG (aq z) ah rfl rfl rfl rfl) rfl rfl<|gR 3 rfl<|gV 31 (qi (l.kids.length:Int)) rfl (aI (aD _)) rfl<|gLB 30 rfl (aD _) λt=>gR 3 rfl<|qXh 32 rfl rfl rfl h cr co ?_ ?_<;>intro hd h;refine gR 9 rfl ?_;obtain⟨v,α,h⟩:=h;refine gY (aG (aq α) ah rfl rfl rfl rfl) rfl rfl<|gR 3 rfl ?_;obtain⟨d,β,h⟩:=h;refine gY (aG (aq β) ah rfl rfl rfl rfl) rfl rfl<|gR 10 rfl<|gFR 4 rfl rfl rfl rfl ?_;obtain⟨f,ζ,h⟩:=h;refine qC ζ [1,2] ?_;refine qHX ⟨7,[(6,CHr.L_o f),(3,.var 29 (am d)),(1,CHr.o f 6),(0,.row 47 3 (List.map ac.w b))]⟩<|gR 10 rfl<|qXe 49 rfl rfl rfl h ?_ ?_<;>intro hd h;refine gR 7 rfl ?_;obtain⟨r,η,h⟩:=h;refine qC0 η rfl<|gR 2 rfl<|qXi 53 rfl rfl rfl h ?_ ?_<;>intro hd h;refine gR 5 rfl<|gFR 7 rfl rfl rfl rfl ?_;obtain⟨n,θ,h⟩:=h;refine qC θ [1,6] ?_;exact qHX ⟨10,[(9,CHr.L_o n),(3,.var 29 (am d)),(1,CHr.o n 9),(0,.row 47 3 (List.map ac.w b))]⟩<|gR 9 rfl<|gV 34 (qi ((a+1:Nat):Int)) rfl (al (by have :=t;omega) (by omega)) rfl<|gR 2 rfl<|go_xloop<|qJ hK (h K _ _ hK (by omega) (by omega)) [0,1,9];exact gR 10 rfl<|gV 34 (qi ((a+1:Nat):Int)) rfl (al (by have :=t;omega) (by omega)) rfl<|gR 2 rfl<|go_xloop<|qJ hK (h K _ _ hK (by omega) (by omega)) [0,1,6];refine gR 8 rfl<|gV 60 (qi (d.kids.length:Int)) rfl (aI (aD _)) rfl<|gLB 59 rfl (aD _) λδ=>gR 4 rfl<|gFP 3 rfl rfl rfl rfl<|qDs [] 13 13<|qDr ((0,2)::(1,2)::(qR 3 6 2 [])) rfl rfl<|gV 69 (qi ((d.kids.length:Int)-2)) rfl (al (by have :=δ;omega) rfl) rfl ?_;obtain⟨s,ε,h⟩:=h;refine gV 69 (qi ((s:Nat):Int)) rfl (aK ε) rfl ?_;obtain⟨x,γ,h⟩:=h;refine gYd 9 rfl (by kernel_rfl) (aG (aq γ) ah rfl rfl rfl rfl) rfl rfl<|qDr [(10,2)] rfl rfl ?_;obtain⟨y,g,ι,h⟩:=h;refine qDC 2 ι [1,6] rfl ?_;refine qHX ⟨10,[(8,CHr.L_o g),(1,CHr.o g 8),(0,.row 47 3 (List.map ac.w b))]⟩ ?_;obtain⟨q,e,κ,h⟩:=h;refine qDC 11 κ [1,8] rfl ?_;refine qHX ⟨13,[(11,CHr.L_o e),(1,CHr.o e 11),(0,.row 47 3 (List.map ac.w b))]⟩ ?_;obtain⟨k,μ,h⟩:=h;refine eU 12 μ (by kernel_rfl) rfl (by kernel_rfl) rfl rfl .rfl rfl rfl ?_;refine qDe<|gR 1 rfl<|qXi 73 rfl rfl rfl h ?_ ?_<;>intro hd h;refine gR 6 rfl<|gV 77 (qi ((d.kids.length:Int)-1)) rfl (al (by have :=δ;omega) rfl) rfl<|gR 1 rfl<|gFR 13 rfl rfl rfl rfl ?_;obtain⟨i,ν,h⟩:=h;refine qC ν [1,11] ?_;exact qHX ⟨16,[(15,CHr.L_o i),(1,CHr.o i 15),(0,.row 47 3 (List.map ac.w b))]⟩<|gR 6 rfl<|gV 34 (qi ((a+1:Nat):Int)) rfl (al (by have :=t;omega) (by omega)) rfl<|gR 2 rfl<|go_xloop<|qJ hK (h K _ _ hK (by omega) (by omega)) [0,1,15];exact gR 7 rfl<|gV 34 (qi ((a+1:Nat):Int)) rfl (al (by have :=t;omega) (by omega)) rfl<|gR 2 rfl<|go_xloop<|qJ hK (h K _ _ hK (by omega) (by omega)) [0,1,11];exact gR 3 rfl<|go_xloopE<|gR 18 rfl<|go_loop m<|qJ hK (h K _ _ hK (by omega) (by omega)) [0,2]
theorem jU(m:Nat)(p0:List Tree)(b:List ac)(c:Nat)(a:List ac)(d:Nat)(r0:List ac)(h:((d<a.length)→hI m p0 b c a d (d:Int) r0)∧((¬d<a.length)→(b++a).length≤1000000000∧c+1≤9223372036854775807∧fp m p0 (b++a) (c+1) r0)):ci (m+1) p0 b c a d r0:=by
 intro K j1 j2 hK g i;obtain⟨j1,rfl⟩:∃j,j1=j+1:=⟨j1-1,by omega⟩;obtain⟨j2,rfl⟩:∃j,j2=j+1:=⟨j2-1,by omega⟩;refine gR 6 rfl<|gV 86 (qi (a.length:Int)) rfl (aI (aH ac.w _)) rfl<|gLO 1 rfl (aH ac.w _) λe=>gR 3 rfl<|qXh 87 rfl rfl rfl h cr co ?_ ?_<;>intro hd h;exact gR 12 rfl<|go_loop m<|qJ hK (h K _ _ _ hK (by omega) (by omega) (by omega)) [0,1];refine gR 3 rfl<|go_xloopE<|gR 5 rfl ?_;obtain⟨hb,h⟩:=h;refine gDo (.repl 0 (.row 47 3 (List.map ac.w (b++a)))) (ju ah rfl rfl rfl rfl rfl (List.map_append (f:=ac.w) (l₁:=b) (l₂:=a)).symm (by rw[aH];exact hb)) (okR rfl) rfl rfl rfl<|gR 6 rfl ?_;obtain⟨hb,h⟩:=h;exact gR 1 rfl<|gV 20 (qi ((c+1:Nat):Int)) rfl (al (by omega) (by omega)) rfl<|gR 2 rfl<|go_xloop<|qW hK h [2]
theorem jP(m:Nat)(J:List Tree)(n:List ac)(o:Nat)(b:List ac)(e:Nat)(a:Int)(O:List ac)(h:((0<a)→∃p,a=((p:Nat):Int)∧∃α,b[p]?=some α∧InI (a-1)∧∃q,(a-1)=((q:Nat):Int)∧∃β,b[q]?=some β∧∃r,lO α β r∧((r=true)→InI (a-1)∧InI (a-1)∧∃s,(a-1)=((s:Nat):Int)∧∃g,b[s]?=some g∧∃t,a=((t:Nat):Int)∧∃i,b[t]?=some i∧∃c,a=((c:Nat):Int)∧∃γ,b[c]?=some γ∧∃d,(a-1)=((d:Nat):Int)∧∃δ,(b.set c g)[d]?=some δ∧InI (a-1)∧hI m J n o ((b.set c g).set d i) e (a-1) O)∧((r=false)→e+1≤9223372036854775807∧ci m J n o b (e+1) O))∧((¬0<a)→e+1≤9223372036854775807∧ci m J n o b (e+1) O)):hI (m+1) J n o b e a O:=by
 intro K U Z j3 G ν ξ ο;obtain⟨U,rfl⟩:∃j,U=j+1:=⟨U-1,by omega⟩;obtain⟨Z,rfl⟩:∃j,Z=j+1:=⟨Z-1,by omega⟩;obtain⟨j3,rfl⟩:∃j,j3=j+1:=⟨j3-1,by omega⟩;refine gR 2 rfl<|qDs [1] 12 14<|qDr (qR 0 3 0 []) rfl rfl<|qXdZ 93 92 rfl rfl rfl rfl h ?_ ?_<;>intro hd h;refine qDr [(3,2),(4,2)] rfl rfl ?_;obtain⟨p,η,h⟩:=h;refine gV 95 (qi ((p:Nat):Int)) rfl (aK η) rfl ?_;obtain⟨α,v,h⟩:=h;refine gYd 5 rfl (by kernel_rfl) (yIO ah rfl rfl rfl rfl (qG (aw (f:=ac.w) v))) rfl rfl ?_;refine qD 6 rfl (by kernel_rfl) rfl ah rfl rfl rfl (aw (f:=ac.w) v) rfl rfl ?_;refine qDr [(7,2),(8,0)] rfl rfl ?_;obtain⟨hb,h⟩:=h;refine qDr [(9,0)] rfl rfl<|gV 100 (qi (a-1)) rfl (al hb rfl) rfl ?_;obtain⟨q,θ,h⟩:=h;refine gV 100 (qi ((q:Nat):Int)) rfl (aK θ) rfl ?_;obtain⟨β,x,h⟩:=h;refine bU 10 rfl (by kernel_rfl) (yIO ah rfl rfl rfl rfl (qG (aw (f:=ac.w) x))) rfl rfl ?_;refine cb 11 (.nop) rfl (by kernel_rfl) (dLe ah rfl rfl rfl (aw (f:=ac.w) x) rfl) trivial rfl (by kernel_rfl) rfl rfl ?_;obtain⟨r,μ,h⟩:=h;refine eU 12 μ (by kernel_rfl) rfl (by kernel_rfl) rfl rfl .rfl rfl rfl ?_;refine qDr [(13,1)] rfl rfl<|qDe<|gR 1 rfl<|qXi 104 rfl rfl rfl h ?_ ?_<;>intro hd h;refine gR 5 rfl<|qDs [1] 15 18<|qDr (qR 0 4 2 []) rfl rfl ?_;obtain⟨hb,h⟩:=h;refine qDr [(4,2)] rfl rfl<|gV 111 (qi (a-1)) rfl (al hb rfl) rfl<|qDr [(5,2),(6,2)] rfl rfl ?_;obtain⟨hb,h⟩:=h;refine qDr [(7,2)] rfl rfl<|gV 114 (qi (a-1)) rfl (al hb rfl) rfl ?_;obtain⟨s,ι,h⟩:=h;refine gV 114 (qi ((s:Nat):Int)) rfl (aK ι) rfl ?_;obtain⟨g,y,h⟩:=h;refine gYd 8 rfl (by kernel_rfl) (yIO ah rfl rfl rfl rfl (qG (aw (f:=ac.w) y))) rfl rfl ?_;refine qD 9 rfl (by kernel_rfl) rfl ah rfl rfl rfl (aw (f:=ac.w) y) rfl rfl ?_;refine qDr [(10,2),(11,0)] rfl rfl ?_;obtain⟨t,κ,h⟩:=h;refine gV 118 (qi ((t:Nat):Int)) rfl (aK κ) rfl ?_;obtain⟨i,z,h⟩:=h;refine bU 12 rfl (by kernel_rfl) (yIO ah rfl rfl rfl rfl (qG (aw (f:=ac.w) z))) rfl rfl ?_;refine cb 13 (.nop) rfl (by kernel_rfl) (dLe ah rfl rfl rfl (aw (f:=ac.w) z) rfl) trivial rfl (by kernel_rfl) rfl rfl ?_;obtain⟨c,ε,h⟩:=h;refine gV 108 (qi ((c:Nat):Int)) rfl (aK ε) rfl ?_;obtain⟨γ,k,h⟩:=h;refine bU 14 rfl (by kernel_rfl) (yIO ah rfl rfl rfl rfl (qG (aw (f:=ac.w) k))) rfl rfl ?_;refine cb 15 (.set 1 (.row 47 3 (List.map ac.w (b.set c g)))) rfl (by kernel_rfl) (dSe ah rfl rfl rfl rfl (aw (f:=ac.w) k) rfl (tE ac.w b c g)) (okS rfl) rfl (by kernel_rfl) rfl rfl ?_;obtain⟨d,ζ,h⟩:=h;refine gV 111 (qi ((d:Nat):Int)) rfl (aK ζ) rfl ?_;obtain⟨δ,l,h⟩:=h;refine bU 16 rfl (by kernel_rfl) (yIO ah rfl rfl rfl rfl (qG (aw (f:=ac.w) l))) rfl rfl ?_;refine cb 17 (.set 1 (.row 47 3 (List.map ac.w ((b.set c g).set d i)))) rfl (by kernel_rfl) (dSe ah rfl rfl rfl rfl (aw (f:=ac.w) l) rfl (tE ac.w (b.set c g) d i)) (okS rfl) rfl (by kernel_rfl) rfl rfl ?_;refine qDe<|gR 4 rfl ?_;obtain⟨hb,h⟩:=h;exact gR 1 rfl<|gV 106 (qi (a-1)) rfl (al hb rfl) rfl<|gR 2 rfl<|go_xloop<|qJ G (h K _ _ _ G (by omega) (by omega) (by omega)) [0,1];refine gR 3 rfl<|go_xloopE<|gR 5 rfl ?_;obtain⟨hb,h⟩:=h;exact gR 1 rfl<|gV 89 (qi ((e+1:Nat):Int)) rfl (al (by omega) (by omega)) rfl<|gR 2 rfl<|go_xloop<|qJ G (h K _ _ G (by omega) (by omega)) [0,1];refine qDr (qR 3 5 2 (qR 8 5 0 [(13,1)])) rfl rfl<|qDe<|gR 4 rfl<|go_xloopE<|gR 5 rfl ?_;obtain⟨hb,h⟩:=h;exact gR 1 rfl<|gV 89 (qi ((e+1:Nat):Int)) rfl (al (by omega) (by omega)) rfl<|gR 2 rfl<|go_xloop<|qJ G (h K _ _ G (by omega) (by omega)) [0,1]
def qP(m:Nat)(G:List Tree)(p1:bw)(a:Tree)(b:Bool)(J:Tree)(O:Int):Prop:=∀(K:Ctx),az K []→Go prog K (bodyPost prog f11 (SP K (λu _=>u=.tup [.agg (am J),qi O]))) (.ex .normal) [.seq (xE (ai f11))] 91 (mkF 91 0 [(0,.row 4 (kidsV G)),(3,.box (bw.c p1) 0),(4,.ptr 0 0),(6,.ptr 1 0),(7,.bool b)]) ⟨2,[(1,.var 29 (am a)),(0,vE 0 [])]⟩
theorem iq(m:Nat)(G:List Tree)(p1:bw)(O:Tree)(U:Int)(h:∃a,fg G a∧((a=false)→(Tree.node 0 [] [] [])=O∧5=U)∧((a=true)→((p1.Module<0)→(Tree.node 0 [] [] [])=O∧5=U)∧((¬p1.Module<0)→(((G.length:Int)≤p1.Module)→(Tree.node 0 [] [] [])=O∧5=U)∧((¬(G.length:Int)≤p1.Module)→∃b,p1.Module=((b:Nat):Int)∧∃c,G[b]?=some c∧∃d e,iV c p1.Path d e∧qP m G p1 d e O U)))):iZ G p1 O U:=by
 refine⟨rfl,rfl,?_⟩;refine qA 91 [] func11 λK J=>?_;refine gR 3 rfl<|gFP 0 rfl rfl rfl rfl<|gR 8 rfl ?_;obtain⟨a,l,h⟩:=h;refine qC0 l rfl<|gR 2 rfl<|qBhZ 12 11 rfl rfl rfl rfl h bt br ?_ ?_<;>intro h;refine gR 23 rfl ?_;obtain⟨rfl,rfl⟩:=h;exact go_sub (F':=(mkF 91 0 [(4,.ptr 0 0),(5,qi 5)])) (H':=⟨1,[(0,vC ((Tree.node 0 [] [] []).kind) ((Tree.node 0 [] [] []).text) ((Tree.node 0 [] [] []).leads) ((Tree.node 0 [] [] []).kids))]⟩) [1] [] rfl J pq2 ⟨⟨_,rfl,rfl,(.cons .rfl (.cons .rfl (.cons (.nil 1) (.cons (.nil 4) .nil))))⟩,trivial⟩ rfl<|qN [.cell 4 29,.tmp 5];refine gR 5 rfl<|qBdZ 17 16 rfl rfl rfl rfl h ?_ ?_<;>intro h;refine gR 18 rfl ?_;obtain⟨rfl,rfl⟩:=h;exact go_sub (F':=(mkF 91 0 [(4,.ptr 0 0),(5,qi 5)])) (H':=⟨1,[(0,vC ((Tree.node 0 [] [] []).kind) ((Tree.node 0 [] [] []).text) ((Tree.node 0 [] [] []).leads) ((Tree.node 0 [] [] []).kids))]⟩) [1] [] rfl J pq2 ⟨⟨_,rfl,rfl,(.cons .rfl (.cons .rfl (.cons (.nil 1) (.cons (.nil 4) .nil))))⟩,trivial⟩ rfl<|qN [.cell 4 29,.tmp 5];refine gR 4 rfl<|gV 21 (qi (G.length:Int)) rfl (aI (aD _)) rfl<|gLB 20 rfl (aD _) λn=>gR 4 rfl<|qBd 23 rfl rfl rfl h ?_ ?_<;>intro h;refine gR 10 rfl ?_;obtain⟨rfl,rfl⟩:=h;exact go_sub (F':=(mkF 91 0 [(4,.ptr 0 0),(5,qi 5)])) (H':=⟨1,[(0,vC ((Tree.node 0 [] [] []).kind) ((Tree.node 0 [] [] []).text) ((Tree.node 0 [] [] []).leads) ((Tree.node 0 [] [] []).kids))]⟩) [1] [] rfl J pq2 ⟨⟨_,rfl,rfl,(.cons .rfl (.cons .rfl (.cons (.nil 1) (.cons (.nil 4) .nil))))⟩,trivial⟩ rfl<|qN [.cell 4 29,.tmp 5];refine gR 4 rfl<|qDs [] 12 14<|qDr (qR 0 3 2 []) rfl rfl ?_;obtain⟨b,k,h⟩:=h;refine gV 28 (qi ((b:Nat):Int)) rfl (aK k) rfl ?_;obtain⟨c,f,h⟩:=h;refine gYd 3 rfl (by kernel_rfl) (aG (aq f) ah rfl rfl rfl rfl) rfl rfl<|qDr (qR 4 3 2 []) rfl rfl ?_;obtain⟨d,e,g,h⟩:=h;apply bH (i:=7) (j:=11) (by kernel_rfl) rfl rfl rfl rfl;exact(cg (L':=[]) (by kernel_rfl) rfl rfl (pS g .rfl [] rfl) (.inl rfl));exact(bg ah rfl rfl);exact qDr (qR 8 3 2 [(11,0),(12,1),(13,1)]) rfl rfl<|qDe<|qJ J (h K J) [1,2];refine eU 7 g (by kernel_rfl) rfl (by kernel_rfl) rfl rfl .rfl rfl rfl ?_;exact qDr [(8,0),(9,2),(10,2),(12,1),(13,1)] rfl rfl<|qDe<|qJ J (h K J) [1,2]
theorem qg(m:Nat)(U:List Tree)(p1:bw)(g:Tree)(i:Bool)(G:Tree)(J:Int)(h:((i=false)→(Tree.node 0 [] [] [])=G∧5=J)∧((i=true)→∃b,dT g.kind b∧((b=false)→(Tree.node 0 [] [] [])=G∧5=J)∧((b=true)→(((p1.Path.length:Int)<2)→(Tree.node 0 [] [] [])=G∧5=J)∧((¬(p1.Path.length:Int)<2)→∃c,p1.Module=((c:Nat):Int)∧∃j,U[c]?=some j∧∃k,p1.Path[0]?=some k∧∃d,k=((d:Nat):Int)∧∃e,j.kids[d]?=some e∧((e.kind≠2)→(Tree.node 0 [] [] [])=G∧5=J)∧((e.kind=2)→∃l,p1.Path[0]?=some l∧∃s a,cZ (CHr.mk U p1.Module ([]:List ac) p1.Path false 0 [] [] []) l s a∧((a.Got_Known=false)→(Tree.node 0 [] [] [])=G∧20=J)∧((a.Got_Known=true)→(Tree.node a.Got_T_Kind a.Got_T_Text a.Got_T_Leads a.Got_T_Kids)=G∧0=J)))))):qP (m+1) U p1 g i G J:=by
 intro K O;refine gR 7 rfl<|qBhZ 38 37 rfl rfl rfl rfl h bt br ?_ ?_<;>intro h;refine gR 17 rfl ?_;obtain⟨rfl,rfl⟩:=h;exact go_sub (F':=(mkF 91 0 [(4,.ptr 0 0),(5,qi 5)])) (H':=⟨1,[(0,vC ((Tree.node 0 [] [] []).kind) ((Tree.node 0 [] [] []).text) ((Tree.node 0 [] [] []).leads) ((Tree.node 0 [] [] []).kids))]⟩) [0] [] rfl O pq2 ⟨⟨_,rfl,rfl,(.cons .rfl (.cons .rfl (.cons (.nil 1) (.cons (.nil 4) .nil))))⟩,trivial⟩ rfl<|qN [.cell 4 29,.tmp 5];refine gR 2 rfl ?_;obtain⟨b,x,h⟩:=h;refine qC0 x rfl<|gR 4 rfl<|qBh 43 rfl rfl rfl h bt br ?_ ?_<;>intro h;refine gR 10 rfl ?_;obtain⟨rfl,rfl⟩:=h;exact go_sub (F':=(mkF 91 0 [(4,.ptr 0 0),(5,qi 5)])) (H':=⟨1,[(0,vC ((Tree.node 0 [] [] []).kind) ((Tree.node 0 [] [] []).text) ((Tree.node 0 [] [] []).leads) ((Tree.node 0 [] [] []).kids))]⟩) [0] [] rfl O pq2 ⟨⟨_,rfl,rfl,(.cons .rfl (.cons .rfl (.cons (.nil 1) (.cons (.nil 4) .nil))))⟩,trivial⟩ rfl<|qN [.cell 4 29,.tmp 5];refine gR 5 rfl<|qDs [] 20 20<|qDr (qR 0 3 0 []) rfl rfl<|gV 47 (qi (p1.Path.length:Int)) rfl (aI (aH (V.int .i64) _)) rfl<|gLB 46 rfl (aH (V.int .i64) _) λz=>qDr [(3,0),(4,0)] rfl rfl<|qBdZ 49 48 rfl rfl rfl rfl h ?_ ?_<;>intro h;refine qDr (qR 5 6 2 (qR 11 9 0 [])) rfl rfl<|qDe<|gR 11 rfl ?_;obtain⟨rfl,rfl⟩:=h;exact go_sub (F':=(mkF 91 0 [(4,.ptr 0 0),(5,qi 5)])) (H':=⟨1,[(0,vC ((Tree.node 0 [] [] []).kind) ((Tree.node 0 [] [] []).text) ((Tree.node 0 [] [] []).leads) ((Tree.node 0 [] [] []).kids))]⟩) [0] [] rfl O pq2 ⟨⟨_,rfl,rfl,(.cons .rfl (.cons .rfl (.cons (.nil 1) (.cons (.nil 4) .nil))))⟩,trivial⟩ rfl<|qN [.cell 4 29,.tmp 5];refine qDr (qR 5 3 2 []) rfl rfl ?_;obtain⟨c,t,h⟩:=h;refine gV 52 (qi ((c:Nat):Int)) rfl (aK t) rfl ?_;obtain⟨j,n,h⟩:=h;refine gYd 8 rfl (by kernel_rfl) (aG (aq n) ah rfl rfl rfl rfl) rfl rfl<|qDr [(9,2),(10,2),(11,0),(12,0)] rfl rfl ?_;obtain⟨k,p,h⟩:=h;refine bU 13 rfl (by kernel_rfl) (aG (aw (f:=(V.int .i64)) p) ah rfl rfl rfl rfl) rfl rfl ?_;refine qDr [(14,0)] rfl rfl ?_;obtain⟨d,v,h⟩:=h;refine gV 59 (qi ((d:Nat):Int)) rfl (aK v) rfl ?_;obtain⟨e,q,h⟩:=h;refine bU 15 rfl (by kernel_rfl) (aG (aq q) ah rfl rfl rfl rfl) rfl rfl ?_;refine qDr (qR 16 4 0 []) rfl rfl<|qDe<|gR 1 rfl<|qBh 64 rfl rfl rfl h dq ce ?_ ?_<;>intro h;refine gR 10 rfl ?_;obtain⟨rfl,rfl⟩:=h;exact go_sub (F':=(mkF 91 0 [(4,.ptr 0 0),(5,qi 5)])) (H':=⟨1,[(0,vC ((Tree.node 0 [] [] []).kind) ((Tree.node 0 [] [] []).text) ((Tree.node 0 [] [] []).leads) ((Tree.node 0 [] [] []).kids))]⟩) [0] [] rfl O pq2 ⟨⟨_,rfl,rfl,(.cons .rfl (.cons .rfl (.cons (.nil 1) (.cons (.nil 4) .nil))))⟩,trivial⟩ rfl<|qN [.cell 4 29,.tmp 5];refine gR 20 rfl ?_;obtain⟨l,r,h⟩:=h;refine gY (aG (aw (f:=(V.int .i64)) r) ah rfl rfl rfl rfl) rfl rfl<|gR 1 rfl<|gNC 2 2 47 3 rfl rfl rfl rfl ?_;obtain⟨s,a,y,h⟩:=h;refine gCZ y [2,3] ⟨⟨_,rfl,⟨rfl,rfl,rfl⟩⟩,⟨⟨_,rfl,⟨rfl,(.cons .rfl (.cons .rfl (.cons .rfl (.cons .rfl (.cons .rfl (.cons .rfl (.cons .rfl (.cons (.nil 1) (.cons (.nil 4) .nil)))))))))⟩⟩,trivial⟩⟩ ?_;refine qHX ⟨7,[(5,CHr.L_o a),(2,CHr.o a 5),(1,.var 29 (am g)),(0,vE 0 [])]⟩<|gR 2 rfl<|go_sub (F':=(mkF 91 0 [(4,.ptr 0 0),(8,.ptr 1 0)])) (H':=⟨3,[(2,CHr.L_o a),(1,CHr.o a 2),(0,vE 0 [])]⟩) [0,2,5] [] rfl O pq2 ⟨⟨_,rfl,rfl,rfl,(vG _ a.L).symm⟩,(pqo2 rfl rfl rfl rfl)⟩ rfl<|gR 11 rfl<|qBh 84 rfl rfl rfl h bt br ?_ ?_<;>intro h;refine gR 10 rfl ?_;obtain⟨rfl,rfl⟩:=h;exact go_sub (F':=(mkF 91 0 [(4,.ptr 0 0),(5,qi 20)])) (H':=⟨1,[(0,vC ((Tree.node 0 [] [] []).kind) ((Tree.node 0 [] [] []).text) ((Tree.node 0 [] [] []).leads) ((Tree.node 0 [] [] []).kids))]⟩) [0] [] rfl O pq2 ⟨⟨_,rfl,rfl,(.cons .rfl (.cons .rfl (.cons (.nil 1) (.cons (.nil 4) .nil))))⟩,trivial⟩ rfl<|qN [.cell 4 29,.tmp 5];refine gR 15 rfl ?_;obtain⟨rfl,rfl⟩:=h;exact go_sub (F':=(mkF 91 0 [(4,.ptr 0 0),(5,qi 0)])) (H':=⟨1,[(0,vC ((Tree.node a.Got_T_Kind a.Got_T_Text a.Got_T_Leads a.Got_T_Kids).kind) ((Tree.node a.Got_T_Kind a.Got_T_Text a.Got_T_Leads a.Got_T_Kids).text) ((Tree.node a.Got_T_Kind a.Got_T_Text a.Got_T_Leads a.Got_T_Kids).leads) ((Tree.node a.Got_T_Kind a.Got_T_Text a.Got_T_Leads a.Got_T_Kids).kids))]⟩) [0] [] rfl O pq2 (pqo1 rfl rfl) rfl<|qN [.cell 4 29,.tmp 5]
theorem ss(m:Nat)(G:CHr)(p1:List Int)(p2:Int)(q0:CHr)(h:p1.length≤1000000000∧(G.L++[(ac.mk (bw.mk G.Module p1) p2)]).length≤1000000000∧{G with L:=(G.L++[(ac.mk (bw.mk G.Module p1) p2)])}=q0):aF G p1 p2 q0:=by
 refine qA 25 [0] func37 λK J=>?_;refine qDs [0] 19 20<|qDr (qR 0 4 2 ((4,3)::(qR 5 3 2 [(8,3),(10,2),(13,2),(9,0)]))) rfl rfl ?_;obtain⟨hb,h⟩:=h;refine cb 11 (.repl 2 (.row 3 1 (List.map (V.int .i64) p1))) rfl (by kernel_rfl) (ju ah rfl rfl rfl rfl rfl (List.nil_append _) (by rw[aH];exact hb)) (okR rfl) rfl (by kernel_rfl) rfl rfl ?_;refine qDr [(12,0),(14,0)] rfl rfl<|gFR 3 rfl (lV _ (λ_=>rfl) _) rfl rfl<|qDr [(15,0)] rfl rfl ?_;obtain⟨hb,h⟩:=h;refine cb 16 (.repl 1 (.row 47 3 (List.map ac.w (G.L++[(ac.mk (bw.mk G.Module p1) p2)])))) rfl (by kernel_rfl) (ju ah rfl rfl rfl rfl rfl (apM ac.w G.L (ac.mk (bw.mk G.Module p1) p2)) (by rw[aH];exact hb)) (okR rfl) rfl (by kernel_rfl) rfl rfl ?_;refine qDr [(17,0),(18,0),(19,1)] rfl rfl<|qDe ?_;subst h;exact gE J [] [] [0,5] []
def ky(m:Nat)(J:CHr)(a:Tree)(b:Int)(O:ae)(q0:CHr):Prop:=∀(K:Ctx),az K [0]→Go prog K (bodyPost prog f39 (SP K (λu G=>u=.agg (ae.c O)∧G=⟨3,[(1,CHr.L_o q0),(0,CHr.o q0 1)]⟩))) (.ex .normal) [.seq (xA (ai f39))] 23 (mkF 23 0 [(6,.ptr 1 0),(7,.ptr 2 0),(8,qi b)]) ⟨4,[(3,CHr.L_o J),(2,.var 29 (am a)),(1,vA (.bool false) 0 []),(0,CHr.o J 3)]⟩
theorem pw(m:Nat)(J:CHr)(p1:Int)(p2:Tree)(O:ae)(q0:CHr)(h:∃a b,pf J.P p1 p2 a b∧ky m J a b O q0):aX J p1 p2 O q0:=by
 refine qA 23 [0] func39 λK G=>?_;refine gR 3 rfl<|gFP 2 rfl rfl rfl rfl<|gR 4 rfl<|qDs [0] 11 13<|qDr (qR 0 3 2 [(3,3),(4,2),(5,2)]) rfl rfl ?_;obtain⟨a,b,c,h⟩:=h;apply bH (i:=6) (j:=10) (by kernel_rfl) rfl rfl rfl rfl;exact(cg (L':=[0]) (by kernel_rfl) rfl rfl (pS c .rfl [0] rfl) (.inl rfl));exact(bg ah rfl rfl);exact qDr (qR 7 3 2 [(10,0),(11,1),(12,1)]) rfl rfl<|qDe<|qJ G (h K G) [0,3,4,1];refine eU 6 c (by kernel_rfl) rfl (by kernel_rfl) rfl rfl .rfl rfl rfl ?_;exact qDr [(7,0),(8,2),(9,2),(11,1),(12,1)] rfl rfl<|qDe<|qJ G (h K G) [0,3,4,1]
theorem pd(m:Nat)(G:CHr)(a:Tree)(b:Int)(J:ae)(q0:CHr)(h:(ae.mk (b==0) a)=J∧G=q0):ky (m+1) G a b J q0:=by
 intro K O;refine gR 11 rfl ?_;obtain⟨rfl,rfl⟩:=h;exact gE O [(2,vD (.bool ((ae.mk (b==0) a).Known)) (((ae.mk (b==0) a).T).kind) (((ae.mk (b==0) a).T).text) (((ae.mk (b==0) a).T).leads) (((ae.mk (b==0) a).T).kids))] [(6,.ptr 2 0)] [0,3,1] [.cell 6 64]
theorem rS_semvcsref08_Check_expr(m:Nat)(O:CHr)(p1:Tree)(p2:List Int)(p3:List aj)(G:ae)(q0:CHr)(h:∃a b,aM O p1 p2 p3 a b∧((0<(b.Want.length:Int))→∃c,cD p2 b.Want c∧((c=true)→a=G∧(CHr.mk b.P b.Module b.L b.Want a.Known a.T.kind a.T.text a.T.leads a.T.kids)=q0)∧((c=false)→a=G∧b=q0))∧((¬0<(b.Want.length:Int))→a=G∧b=q0)):dQ O p1 p2 p3 G q0:=by
 refine qA 34 [0] func61 λK J=>?_;refine gR 3 rfl<|gFP 2 rfl rfl rfl rfl<|gR 9 rfl ?_;obtain⟨a,b,d,h⟩:=h;refine qC d [0,1] ?_;refine qHX ⟨7,[(5,CHr.L_o b),(3,vA (.bool false) 0 []),(0,CHr.o b 5)]⟩<|gR 12 rfl<|gV 19 (qi (b.Want.length:Int)) rfl (aI (aH (V.int .i64) _)) rfl<|gLB 18 rfl (aH (V.int .i64) _) λf=>gR 2 rfl<|qBdZ 21 20 rfl rfl rfl rfl h ?_ ?_<;>intro h;refine gR 5 rfl ?_;obtain⟨c,e,h⟩:=h;refine qC0 e rfl<|gR 3 rfl<|qBi 28 rfl rfl rfl h ?_ ?_<;>intro h;refine gR 16 rfl ?_;obtain⟨rfl,rfl⟩:=h;exact gE J [(2,vD (.bool a.Known) a.T.kind a.T.text a.T.leads a.T.kids)] [(8,.ptr 2 0)] [0,5,3] [.cell 8 64];refine gR 10 rfl ?_;obtain⟨rfl,rfl⟩:=h;exact gE J [(2,vD (.bool a.Known) a.T.kind a.T.text a.T.leads a.T.kids)] [(8,.ptr 2 0)] [0,5,3] [.cell 8 64];refine gR 19 rfl ?_;obtain⟨rfl,rfl⟩:=h;exact gE J [(2,vD (.bool a.Known) a.T.kind a.T.text a.T.leads a.T.kids)] [(8,.ptr 2 0)] [0,5,3] [.cell 8 64]
theorem mF(m:Nat)(G:CHr)(p1:Tree)(p2:List Int)(p3:Int)(J:List aj)(O:ae)(q0:CHr)(h:∃c,p3=((c:Nat):Int)∧∃d,p1.kids[c]?=some d∧∃e,bM p2 p3 e∧∃a b,dQ G d e J a b∧a=O∧b=q0):aQ G p1 p2 p3 J O q0:=by
 refine qA 22 [0] func146 λK U=>?_;refine gR 3 rfl<|gFP 2 rfl rfl rfl rfl<|gR 4 rfl<|qDs [] 11 12<|qDr (qR 0 4 2 []) rfl rfl ?_;obtain⟨c,g,h⟩:=h;refine gV 14 (qi ((c:Nat):Int)) rfl (aK g) rfl ?_;obtain⟨d,f,h⟩:=h;refine gYd 4 rfl (by kernel_rfl) (aG (aq f) ah rfl rfl rfl rfl) rfl rfl<|qDr (qR 5 3 2 [(9,2)]) rfl rfl ?_;obtain⟨e,i,h⟩:=h;refine eU 8 i (by kernel_rfl) rfl (by kernel_rfl) rfl rfl .rfl rfl rfl ?_;obtain⟨a,b,j,h⟩:=h;refine qDC 10 j [0,1] rfl ?_;refine qHX ⟨7,[(5,CHr.L_o b),(3,vA (.bool false) 0 []),(0,CHr.o b 5)]⟩<|qDr [(11,1)] rfl rfl<|qDe<|gR 2 rfl ?_;obtain⟨rfl,rfl⟩:=h;exact gE U [(2,vD (.bool a.Known) a.T.kind a.T.text a.T.leads a.T.kids)] [(10,.ptr 2 0)] [0,5,3] [.cell 10 64]
def dA(m:Nat)(J:CHr)(p1:Tree)(p2:List Int)(p3:List aj)(a:Bool)(O:ae)(q0:CHr):Prop:=∀(K:Ctx),az K [0]→qLG K f103 (λu G=>u=.agg (ae.c O)∧G=⟨3,[(1,CHr.L_o q0),(0,CHr.o q0 1)]⟩) (cB (xJ (cK (xC (cB (ai f103)))))) [.blk 0,.seq (xA (ai f103))] 137 (mkF 137 0 [(0,.ptr 0 0),(2,.row 1 (List.map (V.int .i64) p2)),(3,.row 6 (List.map aj.w p3)),(5,.box (am p1) 0),(8,.ptr 1 0),(15,qi p1.kind),(22,.bool a)]) ⟨3,[(2,CHr.L_o J),(1,vA (.bool false) 0 []),(0,CHr.o J 2)]⟩
def cI(m:Nat)(J:CHr)(p1:Tree)(p2:List Int)(p3:List aj)(a:Int)(U:ae)(q0:CHr):Prop:=∀(K:Ctx) (O:Nat),az K [0]→m≤O→qLG K f103 (λu G=>u=.agg (ae.c U)∧G=⟨3,[(1,CHr.L_o q0),(0,CHr.o q0 1)]⟩) (xD (cT (cB (xJ (xI (cK (xC (cB (ai f103))))))))) [.loop (xD (cT (cB (xJ (xI (cK (xC (cB (ai f103))))))))) O,.blk 1,.seq (cB (cT (cB (xJ (xI (cK (xC (cB (ai f103))))))))),.blk 0,.seq (xA (ai f103))] 137 (mkF 137 0 [(0,.ptr 0 0),(2,.row 1 (List.map (V.int .i64) p2)),(3,.row 6 (List.map aj.w p3)),(5,.box (am p1) 0),(8,.ptr 1 0),(9,qi a)]) ⟨3,[(2,CHr.L_o J),(1,vA (.bool false) 0 []),(0,CHr.o J 2)]⟩
def fy(m:Nat)(p2:List Int)(d b:ae)(a:CHr)(J:ae)(q0:CHr):Prop:=∀(K:Ctx),az K [0]→qLG K f103 (λu G=>u=.agg (ae.c J)∧G=⟨3,[(1,CHr.L_o q0),(0,CHr.o q0 1)]⟩) (xF (cT (cB (xJ (xJ (xJ (cK (xC (cB (ai f103)))))))))) [.blk 0,.seq (xA (ai f103))] 137 (mkF 137 0 [(0,.ptr 0 0),(2,.row 1 (List.map (V.int .i64) p2)),(8,.ptr 1 0),(11,.ptr 2 0),(12,.ptr 3 0)]) ⟨5,[(4,CHr.L_o a),(3,.var 64 (ae.c b)),(2,.var 64 (ae.c d)),(1,vA (.bool false) 0 []),(0,CHr.o a 4)]⟩
def mb(m:Nat)(b:ae)(a:CHr)(J:ae)(q0:CHr):Prop:=∀(K:Ctx),az K [0]→Go prog K (bodyPost prog f103 (SP K (λu G=>u=.agg (ae.c J)∧G=⟨3,[(1,CHr.L_o q0),(0,CHr.o q0 1)]⟩))) (.ex .normal) [.seq (xA (cT (cB (xJ (xJ (xJ (xI (cK (xC (cB (ai f103))))))))))),.blk 0,.seq (xA (ai f103))] 137 (mkF 137 0 [(8,.ptr 1 0)]) ⟨3,[(2,CHr.L_o a),(1,.var 64 (ae.c b)),(0,CHr.o a 2)]⟩
theorem rS_semvcsref08_Check_kind(m:Nat)(J:CHr)(p1:Tree)(p2:List Int)(p3:List aj)(O:ae)(q0:CHr)(h:((p1.kind=10)→∃a,bd 5 a∧a=O∧J=q0)∧((p1.kind≠10)→((p1.kind=11)→∃b,bd 6 b∧b=O∧J=q0)∧((p1.kind≠11)→((p1.kind=13)→dA m J p1 p2 p3 true O q0)∧((p1.kind≠13)→dA m J p1 p2 p3 (p1.kind==14) O q0)))):aM J p1 p2 p3 O q0:=by
 refine qA 137 [0] func103 λK G=>?_;refine gR 3 rfl<|gFP 2 rfl rfl rfl rfl<|gR 17 rfl<|qBeZ 16 17 rfl rfl rfl rfl h ?_ ?_<;>intro h;refine gR 3 rfl ?_;obtain⟨a,c,h⟩:=h;refine qC0 c rfl<|gR 6 rfl ?_;obtain⟨rfl,rfl⟩:=h;exact gE G [(2,vD (.bool a.Known) a.T.kind a.T.text a.T.leads a.T.kids)] [(8,.ptr 2 0)] [0,1,3] [.cell 8 64];refine gR 7 rfl<|qBeZ 19 20 rfl rfl rfl rfl h ?_ ?_<;>intro h;refine gR 3 rfl ?_;obtain⟨b,d,h⟩:=h;refine qC0 d rfl<|gR 6 rfl ?_;obtain⟨rfl,rfl⟩:=h;exact gE G [(2,vD (.bool b.Known) b.T.kind b.T.text b.T.leads b.T.kids)] [(8,.ptr 2 0)] [0,1,3] [.cell 8 64];refine gR 8 rfl<|qBeZ 22 23 rfl rfl rfl rfl h ?_ ?_<;>intro h;exact gR 3 rfl<|qJ G (h K G) [0,3,1];exact gR 6 rfl<|qJ G (h K G) [0,3,1]
theorem bc(m:Nat)(p0:CHr)(p1:Tree)(p2:List Int)(p3:List aj)(θ:Bool)(r0:ae)(q0:CHr)(h:((θ=true)→∃k,bd 7 k∧k=r0∧p0=q0)∧((θ=false)→((p1.kind=12)→cI m p0 p1 p2 p3 ((p3.length:Int)-1) r0 q0)∧((p1.kind≠12)→((p1.kind=16)→∃l β,ja p0 p1 p2 p3 l β∧l=r0∧β=q0)∧((p1.kind≠16)→((p1.kind=18)→∃n γ,mn p0 p1 p2 p3 n γ∧n=r0∧γ=q0)∧((p1.kind≠18)→((p1.kind=19)→∃y δ,aQ p0 p1 p2 0 p3 y δ∧∃z ε,aQ δ p1 p2 1 p3 z ε∧∃p g,aQ ε p1 p2 2 p3 p g∧∃ζ,bd 7 ζ∧∃α,bh y ζ α∧((α=true)→∃η,bM p2 0 η∧∃q,aF g η 4 q∧fy m p2 z p q r0 q0)∧((α=false)→fy m p2 z p g r0 q0))∧((p1.kind≠19)→((p1.kind=20)→∃a r,aQ p0 p1 p2 0 p3 a r∧p3.length≤1000000000∧(p3++[(aj.mk p1.text a)]).length≤1000000000∧∃s b,aQ r p1 p2 1 (p3++[(aj.mk p1.text a)]) s b∧mb m s b r0 q0)∧((p1.kind≠20)→((p1.kind=21)→∃d t,mZ p0 p1 p2 p3 d t∧d=r0∧t=q0)∧((p1.kind≠21)→((p1.kind=22)→∃e v,aQ p0 p1 p2 0 p3 e v∧e=r0∧v=q0)∧((p1.kind≠22)→((p1.kind=17)→∃f x,aQ p0 p1 p2 0 p3 f x∧f=r0∧x=q0)∧((p1.kind≠17)→(ae.mk false (Tree.node 0 [] [] []))=r0∧p0=q0)))))))))):dA (m+1) p0 p1 p2 p3 θ r0 q0:=by
 intro K hK;refine qXi 22 rfl rfl rfl h ?_ ?_<;>intro hd h;refine gR 3 rfl ?_;obtain⟨k,κ,h⟩:=h;refine qC0 κ rfl<|gR 6 rfl ?_;obtain⟨rfl,rfl⟩:=h;exact gE hK [(2,vD (.bool k.Known) k.T.kind k.T.text k.T.leads k.T.kids)] [(8,.ptr 2 0)] [0,2,1] [.cell 8 64];refine gR 7 rfl<|qXeZ 26 27 rfl rfl rfl rfl h ?_ ?_<;>intro hd h;exact gR 6 rfl<|gV 29 (qi (p3.length:Int)) rfl (aI (aH aj.w _)) rfl<|gLB 28 rfl (aH aj.w _) λμ=>gR 1 rfl<|gV 30 (qi ((p3.length:Int)-1)) rfl (al (by have :=μ;omega) rfl) rfl<|gR 4 rfl<|go_loop m<|qW hK h [0,1,2];refine gR 7 rfl<|qXeZ 52 53 rfl rfl rfl rfl h ?_ ?_<;>intro hd h;refine gR 7 rfl ?_;obtain⟨l,β,ν,h⟩:=h;refine qC ν [0,2] ?_;refine qHX ⟨6,[(4,CHr.L_o β),(1,vA (.bool false) 0 []),(0,CHr.o β 4)]⟩<|gR 6 rfl ?_;obtain⟨rfl,rfl⟩:=h;exact gE hK [(2,vD (.bool l.Known) l.T.kind l.T.text l.T.leads l.T.kids)] [(8,.ptr 2 0)] [0,4,1] [.cell 8 64];refine gR 7 rfl<|qXeZ 59 60 rfl rfl rfl rfl h ?_ ?_<;>intro hd h;refine gR 7 rfl ?_;obtain⟨n,γ,ξ,h⟩:=h;refine qC ξ [0,2] ?_;refine qHX ⟨6,[(4,CHr.L_o γ),(1,vA (.bool false) 0 []),(0,CHr.o γ 4)]⟩<|gR 6 rfl ?_;obtain⟨rfl,rfl⟩:=h;exact gE hK [(2,vD (.bool n.Known) n.T.kind n.T.text n.T.leads n.T.kids)] [(8,.ptr 2 0)] [0,4,1] [.cell 8 64];refine gR 7 rfl<|qXeZ 66 67 rfl rfl rfl rfl h ?_ ?_<;>intro hd h;refine gR 7 rfl ?_;obtain⟨y,δ,ο,h⟩:=h;refine qC ο [0,2] ?_;refine qHX ⟨6,[(4,CHr.L_o δ),(1,vA (.bool false) 0 []),(0,CHr.o δ 4)]⟩<|gR 10 rfl ?_;obtain⟨z,ε,π,h⟩:=h;refine qC π [0,4] ?_;refine qHX ⟨10,[(8,CHr.L_o ε),(6,.var 64 (ae.c y)),(1,vA (.bool false) 0 []),(0,CHr.o ε 8)]⟩<|gR 10 rfl ?_;obtain⟨p,g,τ,h⟩:=h;refine qC τ [0,8] ?_;refine qHX ⟨14,[(12,CHr.L_o g),(10,.var 64 (ae.c z)),(6,.var 64 (ae.c y)),(1,vA (.bool false) 0 []),(0,CHr.o g 12)]⟩<|gR 6 rfl<|qDs [6] 2 3<|qDr [(0,3)] rfl rfl ?_;obtain⟨ζ,υ,h⟩:=h;refine eU 1 υ (by kernel_rfl) rfl (by kernel_rfl) rfl rfl .rfl rfl rfl ?_;obtain⟨α,φ,h⟩:=h;refine eU 2 φ (by kernel_rfl) rfl (by kernel_rfl) rfl rfl .rfl rfl rfl ?_;refine qDe<|gR 1 rfl<|qXi 85 rfl rfl rfl h ?_ ?_<;>intro hd h;refine gR 4 rfl ?_;obtain⟨η,χ,h⟩:=h;refine qC0 χ rfl ?_;obtain⟨q,ψ,h⟩:=h;refine qC ψ [0,12] ?_;exact qHX ⟨17,[(16,CHr.L_o q),(14,.var 64 (ae.c p)),(10,.var 64 (ae.c z)),(6,.var 64 (ae.c y)),(1,vA (.bool false) 0 []),(0,CHr.o q 16)]⟩<|gR 2 rfl<|qJ hK (h K hK) [0,1,10,14,16];exact gR 3 rfl<|qJ hK (h K hK) [0,1,10,14,12];refine gR 7 rfl<|qXeZ 101 102 rfl rfl rfl rfl h ?_ ?_<;>intro hd h;refine gR 7 rfl ?_;obtain⟨a,r,ω,h⟩:=h;refine qC ω [0,2] ?_;refine qHX ⟨6,[(4,CHr.L_o r),(1,vA (.bool false) 0 []),(0,CHr.o r 4)]⟩<|gR 5 rfl<|qDs [6] 13 14<|qDr (qR 0 3 2 [(4,2),(6,2),(7,2),(8,3),(9,2)]) rfl rfl ?_;apply bH (i:=3) (j:=10) (by kernel_rfl) rfl rfl rfl rfl;exact(bg ah rfl rfl);exact(bg ah rfl rfl);obtain⟨hb,h⟩:=h;have ι:=hb;apply bH (i:=5) (j:=10) (by kernel_rfl) rfl rfl rfl rfl;exact(qe (.repl 7 (.row 107 6 (List.map aj.w p3))) (ju ah rfl rfl rfl rfl rfl (List.nil_append _) (by rw[aH];exact ι)) (okR rfl) (by kernel_rfl));exact(bg ah rfl rfl);refine qDr [(10,0)] rfl rfl ?_;obtain⟨hb,h⟩:=h;refine cb 11 (.repl 8 (.row 107 6 (List.map aj.w (p3++[(aj.mk p1.text a)])))) rfl (by kernel_rfl) (ju ah rfl rfl rfl rfl rfl (apM aj.w p3 (aj.mk p1.text a)) (by rw[aH];exact hb)) (okR rfl) rfl (by kernel_rfl) rfl rfl ?_;refine gFR 10 rfl (lV _ (λ_=>rfl) _) rfl rfl ?_;obtain⟨s,b,hs85,h⟩:=h;refine qDC 12 hs85 [0,4] rfl ?_;exact qHX ⟨14,[(12,CHr.L_o b),(9,.row 107 6 [.agg [.str p1.text,.bool a.Known,qi a.T.kind,.str a.T.text,.row 1 (List.map V.str a.T.leads),.row 4 (kidsV a.T.kids)]]),(6,.var 64 (ae.c a)),(1,vA (.bool false) 0 []),(0,CHr.o b 12)]⟩<|qDr [(13,1)] rfl rfl<|qDe<|qJ hK (h K hK) [0,1,12];refine cb 5 (.repl 7 (.row 107 6 (List.map aj.w p3))) rfl (by kernel_rfl) (ju ah rfl rfl rfl rfl rfl (List.nil_append _) (by rw[aH];exact ι)) (okR rfl) rfl (by kernel_rfl) rfl rfl ?_;obtain⟨hb,h⟩:=h;refine cb 11 (.repl 9 (.row 107 6 (List.map aj.w (p3++[(aj.mk p1.text a)])))) rfl (by kernel_rfl) (ju ah rfl rfl rfl rfl rfl (apM aj.w p3 (aj.mk p1.text a)) (by rw[aH];exact hb)) (okR rfl) rfl (by kernel_rfl) rfl rfl ?_;refine gFR 10 rfl (lV _ (λ_=>rfl) _) rfl rfl ?_;obtain⟨s,b,hs86,h⟩:=h;refine qDC 12 hs86 [0,4] rfl ?_;exact qHX ⟨14,[(12,CHr.L_o b),(8,.row 107 6 [.agg [.str p1.text,.bool a.Known,qi a.T.kind,.str a.T.text,.row 1 (List.map V.str a.T.leads),.row 4 (kidsV a.T.kids)]]),(6,.var 64 (ae.c a)),(1,vA (.bool false) 0 []),(0,CHr.o b 12)]⟩<|qDr [(13,1)] rfl rfl<|qDe<|qJ hK (h K hK) [0,1,12];refine qDr [(3,0)] rfl rfl ?_;obtain⟨hb,h⟩:=h;refine cb 5 (.repl 8 (.row 107 6 (List.map aj.w p3))) rfl (by kernel_rfl) (ju ah rfl rfl rfl rfl rfl (List.nil_append _) (by rw[aH];exact hb)) (okR rfl) rfl (by kernel_rfl) rfl rfl ?_;obtain⟨hb,h⟩:=h;refine cb 11 (.repl 9 (.row 107 6 (List.map aj.w (p3++[(aj.mk p1.text a)])))) rfl (by kernel_rfl) (ju ah rfl rfl rfl rfl rfl (apM aj.w p3 (aj.mk p1.text a)) (by rw[aH];exact hb)) (okR rfl) rfl (by kernel_rfl) rfl rfl ?_;refine gFR 10 rfl (lV _ (λ_=>rfl) _) rfl rfl ?_;obtain⟨s,b,hs87,h⟩:=h;refine qDC 12 hs87 [0,4] rfl ?_;exact qHX ⟨14,[(12,CHr.L_o b),(7,.row 107 6 [.agg [.str p1.text,.bool a.Known,qi a.T.kind,.str a.T.text,.row 1 (List.map V.str a.T.leads),.row 4 (kidsV a.T.kids)]]),(6,.var 64 (ae.c a)),(1,vA (.bool false) 0 []),(0,CHr.o b 12)]⟩<|qDr [(13,1)] rfl rfl<|qDe<|qJ hK (h K hK) [0,1,12];refine gR 7 rfl<|qXeZ 121 122 rfl rfl rfl rfl h ?_ ?_<;>intro hd h;refine gR 7 rfl ?_;obtain⟨d,t,hs88,h⟩:=h;refine qC hs88 [0,2] ?_;refine qHX ⟨6,[(4,CHr.L_o t),(1,vA (.bool false) 0 []),(0,CHr.o t 4)]⟩<|gR 6 rfl ?_;obtain⟨rfl,rfl⟩:=h;exact gE hK [(2,vD (.bool d.Known) d.T.kind d.T.text d.T.leads d.T.kids)] [(8,.ptr 2 0)] [0,4,1] [.cell 8 64];refine gR 8 rfl<|qXeZ 128 129 rfl rfl rfl rfl h ?_ ?_<;>intro hd h;refine gR 10 rfl ?_;obtain⟨e,v,hs89,h⟩:=h;refine qC hs89 [0,2] ?_;refine qHX ⟨6,[(4,CHr.L_o v),(1,vA (.bool false) 0 []),(0,CHr.o v 4)]⟩<|gR 6 rfl ?_;obtain⟨rfl,rfl⟩:=h;exact gE hK [(2,vD (.bool e.Known) e.T.kind e.T.text e.T.leads e.T.kids)] [(8,.ptr 2 0)] [0,4,1] [.cell 8 64];refine gR 6 rfl<|qXeZ 128 130 rfl rfl rfl rfl h ?_ ?_<;>intro hd h;refine gR 7 rfl ?_;obtain⟨f,x,hs90,h⟩:=h;refine qC hs90 [0,2] ?_;refine qHX ⟨6,[(4,CHr.L_o x),(1,vA (.bool false) 0 []),(0,CHr.o x 4)]⟩<|gR 6 rfl ?_;obtain⟨rfl,rfl⟩:=h;exact gE hK [(2,vD (.bool f.Known) f.T.kind f.T.text f.T.leads f.T.kids)] [(8,.ptr 2 0)] [0,4,1] [.cell 8 64];refine gR 11 rfl ?_;obtain⟨rfl,rfl⟩:=h;exact gE hK [(2,vD (.bool ((ae.mk false (Tree.node 0 [] [] [])).Known)) (((ae.mk false (Tree.node 0 [] [] [])).T).kind) (((ae.mk false (Tree.node 0 [] [] [])).T).text) (((ae.mk false (Tree.node 0 [] [] [])).T).leads) (((ae.mk false (Tree.node 0 [] [] [])).T).kids))] [(8,.ptr 2 0)] [0,2,1] [.cell 8 64] (hH:=⟨⟨_,rfl,⟨rfl,(.cons .rfl (.cons .rfl (.cons .rfl (.cons (.nil 1) (.cons (.nil 4) .nil)))))⟩⟩,⟨⟨_,rfl,⟨rfl,rfl,(vG _ p0.L).symm⟩⟩,⟨⟨_,rfl,⟨rfl,be.rfl⟩⟩,trivial⟩⟩⟩)
theorem eQ(m:Nat)(G:CHr)(p1:Tree)(p2:List Int)(p3:List aj)(a:Int)(J:ae)(q0:CHr)(h:((0≤a)→∃d,a=((d:Nat):Int)∧∃e,p3[d]?=some e∧((e.Name=p1.text)→∃g,a=((g:Nat):Int)∧∃b,p3[g]?=some b∧b.T=J∧G=q0)∧((e.Name≠p1.text)→InI (a-1)∧cI m G p1 p2 p3 (a-1) J q0))∧((¬0≤a)→∃c,aF G p2 1 c∧(ae.mk false (Tree.node 0 [] [] []))=J∧c=q0)):cI (m+1) G p1 p2 p3 a J q0:=by
 refine qj λK Z O p=>?_;refine gR 7 rfl<|qXd 32 rfl rfl rfl h ?_ ?_<;>intro U h;refine gR 6 rfl<|qDs [] 8 8<|qDr [(0,2),(1,2)] rfl rfl ?_;obtain⟨d,k,h⟩:=h;refine gV 36 (qi ((d:Nat):Int)) rfl (aK k) rfl ?_;obtain⟨e,i,h⟩:=h;refine gYd 2 rfl (by kernel_rfl) (aG (aw (f:=aj.w) i) ah rfl rfl rfl rfl) rfl rfl<|qDr ((3,2)::(4,2)::(qR 5 3 0 [])) rfl rfl<|qDe<|gR 1 rfl<|qXe 42 rfl rfl rfl h ?_ ?_<;>intro U h;refine gR 5 rfl ?_;obtain⟨g,l,h⟩:=h;refine gV 44 (qi ((g:Nat):Int)) rfl (aK l) rfl ?_;obtain⟨b,j,h⟩:=h;refine gY (aG (aw (f:=aj.w) j) ah rfl rfl rfl rfl) rfl rfl<|gR 8 rfl<|go_xloopR<|gR 4 rfl ?_;obtain⟨rfl,rfl⟩:=h;exact gE O [(2,vD (.bool b.T.Known) b.T.T.kind b.T.T.text b.T.T.leads b.T.T.kids)] [(8,.ptr 2 0)] [0,2,1] [.cell 8 64];refine gR 6 rfl ?_;obtain⟨hb,h⟩:=h;exact gR 1 rfl<|gV 34 (qi (a-1)) rfl (al hb rfl) rfl<|gR 2 rfl<|go_xloop<|qW O h [0,1,2];refine gR 3 rfl<|go_xloopE<|gR 6 rfl ?_;obtain⟨c,n,h⟩:=h;refine qC n [0,2] ?_;refine qHX ⟨5,[(4,CHr.L_o c),(1,vA (.bool false) 0 []),(0,CHr.o c 4)]⟩<|gR 11 rfl ?_;obtain⟨rfl,rfl⟩:=h;exact gE O [(2,vD (.bool ((ae.mk false (Tree.node 0 [] [] [])).Known)) (((ae.mk false (Tree.node 0 [] [] [])).T).kind) (((ae.mk false (Tree.node 0 [] [] [])).T).text) (((ae.mk false (Tree.node 0 [] [] [])).T).leads) (((ae.mk false (Tree.node 0 [] [] [])).T).kids))] [(8,.ptr 2 0)] [0,4,1] [.cell 8 64] (hH:=⟨⟨_,rfl,⟨rfl,(.cons .rfl (.cons .rfl (.cons .rfl (.cons (.nil 1) (.cons (.nil 4) .nil)))))⟩⟩,⟨⟨_,rfl,⟨rfl,rfl,(vG _ c.L).symm⟩⟩,⟨⟨_,rfl,⟨rfl,be.rfl⟩⟩,trivial⟩⟩⟩)
theorem qq(m:Nat)(p2:List Int)(b a:ae)(e:CHr)(G:ae)(q0:CHr)(h:∃f,bh b a f∧((f=true)→∃g,bM p2 2 g∧∃d,aF e g 6 d∧((b.Known=true)→b=G∧d=q0)∧((b.Known=false)→a=G∧d=q0))∧((f=false)→((b.Known=true)→b=G∧e=q0)∧((b.Known=false)→a=G∧e=q0))):fy (m+1) p2 b a e G q0:=by
 intro K J;refine gR 5 rfl ?_;obtain⟨f,i,h⟩:=h;refine qC0 i rfl<|gR 2 rfl<|qBi 92 rfl rfl rfl h ?_ ?_<;>intro h;refine gR 4 rfl ?_;obtain⟨g,j,h⟩:=h;refine qC0 j rfl ?_;obtain⟨d,k,h⟩:=h;refine qC k [0,4] ?_;refine qHX ⟨7,[(6,CHr.L_o d),(3,.var 64 (ae.c a)),(2,.var 64 (ae.c b)),(1,vA (.bool false) 0 []),(0,CHr.o d 6)]⟩<|gR 9 rfl<|qBi 98 rfl rfl rfl h ?_ ?_<;>intro h;refine gR 11 rfl ?_;obtain⟨rfl,rfl⟩:=h;exact gE J [(2,vD (.bool b.Known) b.T.kind b.T.text b.T.leads b.T.kids)] [(8,.ptr 2 0)] [0,6,1] [.cell 8 64];refine gR 12 rfl ?_;obtain⟨rfl,rfl⟩:=h;exact gE J [(2,vD (.bool a.Known) a.T.kind a.T.text a.T.leads a.T.kids)] [(8,.ptr 2 0)] [0,6,1] [.cell 8 64];refine gR 10 rfl<|qBi 98 rfl rfl rfl h ?_ ?_<;>intro h;refine gR 11 rfl ?_;obtain⟨rfl,rfl⟩:=h;exact gE J [(2,vD (.bool b.Known) b.T.kind b.T.text b.T.leads b.T.kids)] [(8,.ptr 2 0)] [0,4,1] [.cell 8 64];refine gR 12 rfl ?_;obtain⟨rfl,rfl⟩:=h;exact gE J [(2,vD (.bool a.Known) a.T.kind a.T.text a.T.leads a.T.kids)] [(8,.ptr 2 0)] [0,4,1] [.cell 8 64]
theorem qo(m:Nat)(a:ae)(b:CHr)(G:ae)(q0:CHr)(h:a=G∧b=q0):mb (m+1) a b G q0:=by
 intro K J;refine gR 4 rfl ?_;obtain⟨rfl,rfl⟩:=h;exact gE J [(2,vD (.bool a.Known) a.T.kind a.T.text a.T.leads a.T.kids)] [(8,.ptr 2 0)] [0,2,1] [.cell 8 64]
def ir(m:Nat)(p1:Tree)(p2:List Int)(p3:List aj)(b d:Int)(e:Bool)(a:CHr)(J:ae)(q0:CHr):Prop:=∀(K:Ctx),az K [0]→qLG K f144 (λu G=>u=.agg (ae.c J)∧G=⟨3,[(1,CHr.L_o q0),(0,CHr.o q0 1)]⟩) (xE (ai f144)) [] 114 (mkF 114 0 [(0,.ptr 0 0),(2,.row 1 (List.map (V.int .i64) p2)),(3,.row 6 (List.map aj.w p3)),(5,.box (am p1) 0),(8,.ptr 1 0),(9,qi b),(10,qi d),(11,.bool e)]) ⟨3,[(2,CHr.L_o a),(1,vA (.bool false) 0 []),(0,CHr.o a 2)]⟩
def fv(m:Nat)(p1:Tree)(p2:List Int)(p3:List aj)(b:Int)(a:CHr)(d:Bool)(e:Int)(f:Tree)(J:ae)(q0:CHr):Prop:=∀(K:Ctx),az K [0]→qLG K f144 (λu G=>u=.agg (ae.c J)∧G=⟨3,[(1,CHr.L_o q0),(0,CHr.o q0 1)]⟩) (xF (xA (ai f144))) [] 114 (mkF 114 0 [(0,.ptr 0 0),(2,.row 1 (List.map (V.int .i64) p2)),(3,.row 6 (List.map aj.w p3)),(5,.box (am p1) 0),(8,.ptr 1 0),(9,qi b),(11,.bool d),(12,.ptr 2 0),(13,qi e)]) ⟨4,[(3,CHr.L_o a),(2,.var 29 (am f)),(1,vA (.bool false) 0 []),(0,CHr.o a 3)]⟩
def bR(m:Nat)(p1:Tree)(p2:List Int)(p3:List aj)(b d:Int)(a:CHr)(e:Bool)(f:Nat)(g:Tree)(O:ae)(q0:CHr):Prop:=∀(K:Ctx) (J:Nat),az K [0]→m≤J→qLG K f144 (λu G=>u=.agg (ae.c O)∧G=⟨3,[(1,CHr.L_o q0),(0,CHr.o q0 1)]⟩) (xD (xF (xA (ai f144)))) [.loop (xD (xF (xA (ai f144)))) J,.blk 0,.seq (xF (xE (ai f144)))] 114 (mkF 114 0 [(0,.ptr 0 0),(2,.row 1 (List.map (V.int .i64) p2)),(3,.row 6 (List.map aj.w p3)),(5,.box (am p1) 0),(8,.ptr 1 0),(9,qi b),(11,.bool e),(12,.ptr 2 0),(13,qi d),(14,qi (f:Int))]) ⟨4,[(3,CHr.L_o a),(2,.var 29 (am g)),(1,vA (.bool false) 0 []),(0,CHr.o a 3)]⟩
theorem lX(m:Nat)(G:CHr)(p1:Tree)(p2:List Int)(p3:List aj)(O:ae)(q0:CHr)(h:∃c d a,fk G.P G.Module p1.text c d a∧((a=false)→∃b,aF G p2 1 b∧ir m p1 p2 p3 c d a b O q0)∧((a=true)→ir m p1 p2 p3 c d a G O q0)):ja G p1 p2 p3 O q0:=by
 refine qA 114 [0] func144 λK J=>?_;refine gR 3 rfl<|gFP 2 rfl rfl rfl rfl<|gR 4 rfl<|qDs [0] 10 18<|qDr (qR 0 3 2 ((3,3)::(qR 4 3 2 [(7,3),(8,0),(9,0)]))) rfl rfl ?_;obtain⟨c,d,a,e,h⟩:=h;refine eU 10 e (by kernel_rfl) rfl (by kernel_rfl) rfl rfl .rfl rfl rfl ?_;refine qDr ((11,1)::(qR 12 3 2 (qR 15 3 1 []))) rfl rfl<|qDe<|gR 8 rfl<|qBh 33 rfl rfl rfl h bt br ?_ ?_<;>intro h;refine gR 4 rfl ?_;obtain⟨b,f,h⟩:=h;refine qC f [0,1] ?_;exact qHX ⟨6,[(5,CHr.L_o b),(3,vA (.bool false) 0 []),(0,CHr.o b 5)]⟩<|gR 2 rfl<|qJ J (h K J) [0,3,5];exact gR 3 rfl<|qJ J (h K J) [0,3,1]
theorem lp(m:Nat)(p1:Tree)(p2:List Int)(p3:List aj)(c l:Int)(g:Bool)(b:CHr)(J:ae)(q0:CHr)(h:((g=true)→∃e,c=((e:Nat):Int)∧∃i,b.P[e]?=some i∧∃f,l=((f:Nat):Int)∧∃a,i.kids[f]?=some a∧((((a.kids.length:Int)-2)≠(p1.kids.length:Int))→∃d,aF b p2 3 d∧fv m p1 p2 p3 c d true ((a.kids.length:Int)-2) a J q0)∧((((a.kids.length:Int)-2)=(p1.kids.length:Int))→fv m p1 p2 p3 c b true ((a.kids.length:Int)-2) a J q0))∧((g=false)→fv m p1 p2 p3 c b false 0 (Tree.node 0 [] [] []) J q0)):ir (m+1) p1 p2 p3 c l g b J q0:=by
 intro K G;refine gR 18 rfl<|qXiZ 38 11 rfl rfl rfl rfl h ?_ ?_<;>intro O h;refine gR 8 rfl ?_;obtain⟨e,n,h⟩:=h;refine gV 43 (qi ((e:Nat):Int)) rfl (aK n) rfl ?_;obtain⟨i,j,h⟩:=h;refine gY (aG (aq j) ah rfl rfl rfl rfl) rfl rfl<|gR 3 rfl ?_;obtain⟨f,p,h⟩:=h;refine gV 47 (qi ((f:Nat):Int)) rfl (aK p) rfl ?_;obtain⟨a,k,h⟩:=h;refine gY (aG (aq k) ah rfl rfl rfl rfl) rfl rfl<|gR 9 rfl<|gV 52 (qi (a.kids.length:Int)) rfl (aI (aD _)) rfl<|gLB 51 rfl (aD _) λq=>gR 1 rfl<|gV 53 (qi ((a.kids.length:Int)-2)) rfl (al (by have :=q;omega) rfl) rfl<|gR 9 rfl<|gV 57 (qi (p1.kids.length:Int)) rfl (aI (aD _)) rfl<|gLB 56 rfl (aD _) λs=>gR 3 rfl<|qXh 58 rfl rfl rfl h dq ce ?_ ?_<;>intro O h;refine gR 4 rfl ?_;obtain⟨d,r,h⟩:=h;refine qC r [0,2] ?_;exact qHX ⟨6,[(5,CHr.L_o d),(3,.var 29 (am a)),(1,vA (.bool false) 0 []),(0,CHr.o d 5)]⟩<|gR 2 rfl<|qJ G (h K G) [0,1,3,5];exact gR 3 rfl<|qJ G (h K G) [0,1,3,2];exact gR 3 rfl<|qJH G (h K G) [0,1,3,2] ⟨⟨_,rfl,⟨rfl,rfl,(vG _ b.L).symm⟩⟩,⟨⟨_,rfl,⟨rfl,(.cons .rfl (.cons .rfl (.cons (.nil 1) (.cons (.nil 4) .nil))))⟩⟩,⟨⟨_,rfl,⟨rfl,be.rfl⟩⟩,⟨⟨_,rfl,⟨rfl,be.rfl⟩⟩,trivial⟩⟩⟩⟩
theorem io(m:Nat)(p1:Tree)(p2:List Int)(p3:List aj)(a:Int)(b:CHr)(c:Bool)(d:Int)(e:Tree)(r0:ae)(q0:CHr)(h:bR m p1 p2 p3 a d b c 0 e r0 q0):fv (m+1) p1 p2 p3 a b c d e r0 q0:=by
 intro K hK;exact gR 7 rfl<|go_loop m<|qW hK h [0,1,2,3]
theorem lu(m:Nat)(p1:Tree)(p2:List Int)(p3:List aj)(f e:Int)(n:CHr)(p:Bool)(a:Nat)(b:Tree)(J:ae)(q0:CHr)(h:((a<p1.kids.length)→∃v,bM p2 (a:Int) v∧∃x,bM v 0 x∧∃q g,aQ n p1 p2 (a:Int) p3 q g∧((p=true)→(((a:Int)<e)→∃y,b.kids[a]?=some y∧∃z,y.kids[0]?=some z∧∃α k,aX g f z α k∧∃s,bh q α s∧((s=true)→∃i,aF k x 4 i∧bR m p1 p2 p3 f e i true (a+1) b J q0)∧((s=false)→bR m p1 p2 p3 f e k true (a+1) b J q0))∧((¬(a:Int)<e)→bR m p1 p2 p3 f e g true (a+1) b J q0))∧((p=false)→bR m p1 p2 p3 f e g false (a+1) b J q0))∧((¬a<p1.kids.length)→((p=false)→(ae.mk false (Tree.node 0 [] [] []))=J∧n=q0)∧((p=true)→∃l,e=((l:Nat):Int)∧∃r,b.kids[l]?=some r∧∃d j,aX n f r d j∧d=J∧j=q0))):bR (m+1) p1 p2 p3 f e n p a b J q0:=by
 refine qj λK U O ξ=>?_;refine gR 7 rfl<|gV 65 (qi (p1.kids.length:Int)) rfl (aI (aD _)) rfl<|gLB 64 rfl (aD _) λt=>gR 3 rfl<|qXh 66 rfl rfl rfl h cr co ?_ ?_<;>intro G h;refine gR 9 rfl ?_;obtain⟨v,ζ,h⟩:=h;refine qC0 ζ rfl ?_;obtain⟨x,η,h⟩:=h;refine qC0 η rfl<|gR 10 rfl ?_;obtain⟨q,g,θ,h⟩:=h;refine qC θ [0,3] ?_;refine qHX ⟨7,[(5,CHr.L_o g),(2,.var 29 (am b)),(1,vA (.bool false) 0 []),(0,CHr.o g 5)]⟩<|gR 5 rfl<|qDs [7,2] 21 21<|qDr [(0,0),(1,0)] rfl rfl<|gB 80 rfl rfl rfl ?_ ?_<;>intro G;refine gT 11 rfl G rfl ?_;refine gT 79 rfl G rfl ?_;replace h:=h.1 G;refine qDr ((2,2)::(qR 3 4 0 [])) rfl rfl<|qXdZ 85 84 rfl rfl rfl rfl h ?_ ?_<;>intro G h;refine qDr ((7,3)::(qR 8 3 2 [(11,3),(12,0)])) rfl rfl ?_;obtain⟨y,γ,h⟩:=h;refine bU 13 rfl (by kernel_rfl) (aG (aq γ) ah rfl rfl rfl rfl) rfl rfl ?_;refine qDr [(14,0),(15,0)] rfl rfl ?_;obtain⟨z,δ,h⟩:=h;refine bU 16 rfl (by kernel_rfl) (aG (aq δ) ah rfl rfl rfl rfl) rfl rfl ?_;refine qDr [(17,0)] rfl rfl ?_;obtain⟨α,k,ι,h⟩:=h;refine qDC 18 ι [0,5] rfl ?_;refine qHX ⟨11,[(9,CHr.L_o k),(7,.var 64 (ae.c q)),(2,.var 29 (am b)),(1,vA (.bool false) 0 []),(0,CHr.o k 9)]⟩ ?_;obtain⟨s,κ,h⟩:=h;refine eU 19 κ (by kernel_rfl) rfl (by kernel_rfl) rfl rfl .rfl rfl rfl ?_;refine qDr [(20,0)] rfl rfl<|qDe<|gR 1 rfl<|qXi 99 rfl rfl rfl h ?_ ?_<;>intro G h;refine gR 4 rfl ?_;obtain⟨i,μ,h⟩:=h;refine qC μ [0,9] ?_;exact qHX ⟨13,[(12,CHr.L_o i),(7,.var 64 (ae.c q)),(2,.var 29 (am b)),(1,vA (.bool false) 0 []),(0,CHr.o i 12)]⟩<|gR 6 rfl<|gV 68 (qi ((a+1:Nat):Int)) rfl (al (by have :=t;omega) (by omega)) rfl<|gR 2 rfl<|go_xloop<|qW O h [0,1,2,12];exact gR 7 rfl<|gV 68 (qi ((a+1:Nat):Int)) rfl (al (by have :=t;omega) (by omega)) rfl<|gR 2 rfl<|go_xloop<|qW O h [0,1,2,9];exact qDr (qR 7 5 2 (qR 12 9 0 [])) rfl rfl<|qDe<|gR 8 rfl<|gV 68 (qi ((a+1:Nat):Int)) rfl (al (by have :=t;omega) (by omega)) rfl<|gR 2 rfl<|go_xloop<|qW O h [0,1,2,5];refine gF 11 rfl G rfl ?_;refine gF 79 rfl G rfl ?_;replace h:=h.2 G;exact qDr ((2,2)::(qR 3 4 0 (qR 7 5 2 (qR 12 9 0 [])))) rfl rfl<|qDe<|gR 8 rfl<|gV 68 (qi ((a+1:Nat):Int)) rfl (al (by have :=t;omega) (by omega)) rfl<|gR 2 rfl<|go_xloop<|qW O h [0,1,2,5];refine gR 3 rfl<|go_xloopE<|gR 9 rfl<|qXh 104 rfl rfl rfl h bt br ?_ ?_<;>intro G h;refine gR 9 rfl ?_;obtain⟨rfl,rfl⟩:=h;exact gE O [(2,vD (.bool ((ae.mk false (Tree.node 0 [] [] [])).Known)) (((ae.mk false (Tree.node 0 [] [] [])).T).kind) (((ae.mk false (Tree.node 0 [] [] [])).T).text) (((ae.mk false (Tree.node 0 [] [] [])).T).leads) (((ae.mk false (Tree.node 0 [] [] [])).T).kids))] [(8,.ptr 2 0)] [0,3,1] [.cell 8 64] (hH:=⟨⟨_,rfl,⟨rfl,(.cons .rfl (.cons .rfl (.cons .rfl (.cons (.nil 1) (.cons (.nil 4) .nil)))))⟩⟩,⟨⟨_,rfl,⟨rfl,rfl,(vG _ n.L).symm⟩⟩,⟨⟨_,rfl,⟨rfl,be.rfl⟩⟩,trivial⟩⟩⟩);refine gR 10 rfl ?_;obtain⟨l,ε,h⟩:=h;refine gV 110 (qi ((l:Nat):Int)) rfl (aK ε) rfl ?_;obtain⟨r,β,h⟩:=h;refine gY (aG (aq β) ah rfl rfl rfl rfl) rfl rfl<|gR 1 rfl ?_;obtain⟨d,j,ν,h⟩:=h;refine qC ν [0,3] ?_;refine qHX ⟨7,[(5,CHr.L_o j),(2,.var 29 (am b)),(1,vA (.bool false) 0 []),(0,CHr.o j 5)]⟩<|gR 4 rfl ?_;obtain⟨rfl,rfl⟩:=h;exact gE O [(2,vD (.bool d.Known) d.T.kind d.T.text d.T.leads d.T.kids)] [(8,.ptr 2 0)] [0,5,1] [.cell 8 64]
def bT(m:Nat)(p1:Tree)(p2:List Int)(p3:List aj)(a:CHr)(b:Bool)(d:Int)(e:List UInt8)(f:(List (List UInt8)))(g:List Tree)(i:Nat)(O:ae)(q0:CHr):Prop:=∀(K:Ctx) (J:Nat),az K [0]→m≤J→qLG K f145 (λu G=>u=.agg (ae.c O)∧G=⟨3,[(1,CHr.L_o q0),(0,CHr.o q0 1)]⟩) (xH (ai f145)) [.loop (xH (ai f145)) J,.blk 0,.seq (xE (ai f145))] 47 (mkF 47 0 [(0,.ptr 0 0),(2,.row 1 (List.map (V.int .i64) p2)),(3,.row 6 (List.map aj.w p3)),(5,.box (am p1) 0),(8,.ptr 1 0),(9,.ptr 2 0),(10,qi (i:Int))]) ⟨4,[(3,CHr.L_o a),(2,vD (.bool b) d e f g),(1,vA (.bool false) 0 []),(0,CHr.o a 3)]⟩
theorem re(m:Nat)(p0:CHr)(p1:Tree)(p2:List Int)(p3:List aj)(r0:ae)(q0:CHr)(h:bT m p1 p2 p3 p0 false 0 [] [] [] 0 r0 q0):mn p0 p1 p2 p3 r0 q0:=by
 refine qA 47 [0] func145 λK hK=>?_;exact gR 3 rfl<|gFP 2 rfl rfl rfl rfl<|gR 17 rfl<|go_loop m<|qJH hK (h K _ hK (by omega)) [0,3,4,1] ⟨⟨_,rfl,⟨rfl,rfl,(vG _ p0.L).symm⟩⟩,⟨⟨_,rfl,⟨rfl,(.cons .rfl (.cons .rfl (.cons .rfl (.cons (.nil 1) (.cons (.nil 4) .nil)))))⟩⟩,⟨⟨_,rfl,⟨rfl,be.rfl⟩⟩,⟨⟨_,rfl,⟨rfl,be.rfl⟩⟩,trivial⟩⟩⟩⟩
theorem ie(m:Nat)(p1:Tree)(p2:List Int)(p3:List aj)(k:CHr)(i:Bool)(b:Int)(d:List UInt8)(e:(List (List UInt8)))(f:List Tree)(g:Nat)(G:ae)(q0:CHr)(h:((g<p1.kids.length)→∃a j,aQ k p1 p2 (g:Int) p3 a j∧((i=false)→∃p,bh a a p∧((p=true)→∃s,bM p2 (g:Int) s∧∃l,aF j s 6 l∧bT m p1 p2 p3 l a.Known a.T.kind a.T.text a.T.leads a.T.kids (g+1) G q0)∧((p=false)→bT m p1 p2 p3 j a.Known a.T.kind a.T.text a.T.leads a.T.kids (g+1) G q0))∧((i=true)→∃q,bh a (ae.mk i (Tree.node b d e f)) q∧((q=true)→∃t,bM p2 (g:Int) t∧∃n,aF j t 6 n∧bT m p1 p2 p3 n i b d e f (g+1) G q0)∧((q=false)→bT m p1 p2 p3 j i b d e f (g+1) G q0)))∧((¬g<p1.kids.length)→((i=false)→(ae.mk false (Tree.node 0 [] [] []))=G∧k=q0)∧((i=true)→(ae.mk true (Tree.node 8 [] [] [(Tree.node b d e f)]))=G∧k=q0))):bT (m+1) p1 p2 p3 k i b d e f g G q0:=by
 refine qj λK U J δ=>?_;refine gR 7 rfl<|gV 16 (qi (p1.kids.length:Int)) rfl (aI (aD _)) rfl<|gLB 15 rfl (aD _) λr=>gR 3 rfl<|qXh 17 rfl rfl rfl h cr co ?_ ?_<;>intro O h;refine gR 12 rfl ?_;obtain⟨a,j,v,h⟩:=h;refine qC v [0,3] ?_;refine qHX ⟨7,[(5,CHr.L_o j),(2,vD (.bool i) b d e f),(1,vA (.bool false) 0 []),(0,CHr.o j 5)]⟩<|gR 12 rfl<|qXh 28 rfl rfl rfl h bt br ?_ ?_<;>intro O h;refine gR 10 rfl ?_;obtain⟨p,x,h⟩:=h;refine qC0 x rfl<|gR 2 rfl<|qXi 32 rfl rfl rfl h ?_ ?_<;>intro O h;refine gR 5 rfl ?_;obtain⟨s,y,h⟩:=h;refine qC0 y rfl ?_;obtain⟨l,z,h⟩:=h;refine qC z [0,5] ?_;exact qHX ⟨10,[(9,CHr.L_o l),(7,.var 64 (ae.c a)),(2,.var 64 (ae.c a)),(1,vA (.bool false) 0 []),(0,CHr.o l 9)]⟩<|gR 6 rfl<|gV 19 (qi ((g+1:Nat):Int)) rfl (al (by have :=r;omega) (by omega)) rfl<|gR 2 rfl<|go_xloop<|qW J h [0,1,2,9];exact gR 7 rfl<|gV 19 (qi ((g+1:Nat):Int)) rfl (al (by have :=r;omega) (by omega)) rfl<|gR 2 rfl<|go_xloop<|qW J h [0,1,2,5];refine gR 7 rfl ?_;obtain⟨q,α,h⟩:=h;refine qC0 α rfl<|gR 2 rfl<|qXi 32 rfl rfl rfl h ?_ ?_<;>intro O h;refine gR 5 rfl ?_;obtain⟨t,β,h⟩:=h;refine qC0 β rfl ?_;obtain⟨n,γ,h⟩:=h;refine qC γ [0,5] ?_;exact qHX ⟨10,[(9,CHr.L_o n),(7,.var 64 (ae.c a)),(2,vD (.bool i) b d e f),(1,vA (.bool false) 0 []),(0,CHr.o n 9)]⟩<|gR 6 rfl<|gV 19 (qi ((g+1:Nat):Int)) rfl (al (by have :=r;omega) (by omega)) rfl<|gR 2 rfl<|go_xloop<|qW J h [0,1,2,9];exact gR 7 rfl<|gV 19 (qi ((g+1:Nat):Int)) rfl (al (by have :=r;omega) (by omega)) rfl<|gR 2 rfl<|go_xloop<|qW J h [0,1,2,5];refine gR 3 rfl<|go_xloopE<|gR 10 rfl<|qXh 40 rfl rfl rfl h bt br ?_ ?_<;>intro O h;refine gR 9 rfl ?_;obtain⟨rfl,rfl⟩:=h;exact gE J [(2,vD (.bool ((ae.mk false (Tree.node 0 [] [] [])).Known)) (((ae.mk false (Tree.node 0 [] [] [])).T).kind) (((ae.mk false (Tree.node 0 [] [] [])).T).text) (((ae.mk false (Tree.node 0 [] [] [])).T).leads) (((ae.mk false (Tree.node 0 [] [] [])).T).kids))] [(8,.ptr 2 0)] [0,3,1] [.cell 8 64] (hH:=⟨⟨_,rfl,⟨rfl,(.cons .rfl (.cons .rfl (.cons .rfl (.cons (.nil 1) (.cons (.nil 4) .nil)))))⟩⟩,⟨⟨_,rfl,⟨rfl,rfl,(vG _ k.L).symm⟩⟩,⟨⟨_,rfl,⟨rfl,be.rfl⟩⟩,trivial⟩⟩⟩);refine gR 8 rfl<|gHR 4 (kidsV [(Tree.node b d e f)]) rfl (xS (Tree.node b d e f)) rfl<|gR 6 rfl<|gFR 4 rfl (qZ _) rfl rfl ?_;obtain⟨rfl,rfl⟩:=h;exact gE J [(2,vD (.bool ((ae.mk true (Tree.node 8 [] [] [(Tree.node b d e f)])).Known)) (((ae.mk true (Tree.node 8 [] [] [(Tree.node b d e f)])).T).kind) (((ae.mk true (Tree.node 8 [] [] [(Tree.node b d e f)])).T).text) (((ae.mk true (Tree.node 8 [] [] [(Tree.node b d e f)])).T).leads) (((ae.mk true (Tree.node 8 [] [] [(Tree.node b d e f)])).T).kids))] [(8,.ptr 2 0)] [0,3,1] [.cell 8 64] (hH:=⟨⟨_,rfl,⟨rfl,(.cons .rfl (.cons .rfl (.cons .rfl (.cons (.nil 1) (.cons .rfl .nil)))))⟩⟩,⟨⟨_,rfl,⟨rfl,rfl,(vG _ k.L).symm⟩⟩,⟨⟨_,rfl,⟨rfl,be.rfl⟩⟩,trivial⟩⟩⟩)
def iX(m:Nat)(p1:Tree)(b d:List Int)(e f:ae)(a:CHr)(J:ae)(q0:CHr):Prop:=∀(K:Ctx),az K [0]→Go prog K (bodyPost prog f147 (SP K (λu G=>u=.agg (ae.c J)∧G=⟨3,[(1,CHr.L_o q0),(0,CHr.o q0 1)]⟩))) (.ex .normal) [.seq (xE (ai f147))] 115 (mkF 115 0 [(0,.ptr 0 0),(5,.box (am p1) 0),(8,.ptr 1 0),(9,.row 1 (List.map (V.int .i64) b)),(10,.row 1 (List.map (V.int .i64) d)),(11,.ptr 2 0),(12,.ptr 3 0)]) ⟨5,[(4,CHr.L_o a),(3,.var 64 (ae.c f)),(2,.var 64 (ae.c e)),(1,vA (.bool false) 0 []),(0,CHr.o a 4)]⟩
def cS(m:Nat)(b:List Int)(d e:ae)(a:CHr)(f:Bool)(J:ae)(q0:CHr):Prop:=∀(K:Ctx),az K [0]→qLG K f147 (λu G=>u=.agg (ae.c J)∧G=⟨3,[(1,CHr.L_o q0),(0,CHr.o q0 1)]⟩) (xA (cT (cB (cK (xC (xE (ai f147))))))) [.blk 0,.seq (xF (ai f147))] 115 (mkF 115 0 [(0,.ptr 0 0),(8,.ptr 1 0),(10,.row 1 (List.map (V.int .i64) b)),(11,.ptr 2 0),(12,.ptr 3 0),(13,.bool f)]) ⟨5,[(4,CHr.L_o a),(3,.var 64 (ae.c e)),(2,.var 64 (ae.c d)),(1,vA (.bool false) 0 []),(0,CHr.o a 4)]⟩
def fI(m:Nat)(p1:Tree)(b:List Int)(d:ae)(a:CHr)(J:ae)(q0:CHr):Prop:=∀(K:Ctx),az K [0]→qLG K f147 (λu G=>u=.agg (ae.c J)∧G=⟨3,[(1,CHr.L_o q0),(0,CHr.o q0 1)]⟩) (xA (xE (ai f147))) [] 115 (mkF 115 0 [(0,.ptr 0 0),(5,.box (am p1) 0),(8,.ptr 1 0),(10,.row 1 (List.map (V.int .i64) b)),(12,.ptr 2 0)]) ⟨4,[(3,CHr.L_o a),(2,.var 64 (ae.c d)),(1,vA (.bool false) 0 []),(0,CHr.o a 3)]⟩
def cX(m:Nat)(b:List Int)(d e:ae)(a:CHr)(f:Bool)(J:ae)(q0:CHr):Prop:=∀(K:Ctx),az K [0]→qLG K f147 (λu G=>u=.agg (ae.c J)∧G=⟨3,[(1,CHr.L_o q0),(0,CHr.o q0 1)]⟩) (xE (cT (cB (cK (xC (xE (ai f147))))))) [.blk 0,.seq (xF (ai f147))] 115 (mkF 115 0 [(0,.ptr 0 0),(8,.ptr 1 0),(10,.row 1 (List.map (V.int .i64) b)),(11,.ptr 2 0),(12,.ptr 3 0),(13,.bool f)]) ⟨5,[(4,CHr.L_o a),(3,.var 64 (ae.c e)),(2,.var 64 (ae.c d)),(1,vA (.bool false) 0 []),(0,CHr.o a 4)]⟩
def dO(m:Nat)(b d:ae)(a:CHr)(J:ae)(q0:CHr):Prop:=∀(K:Ctx),az K [0]→qLG K f147 (λu G=>u=.agg (ae.c J)∧G=⟨3,[(1,CHr.L_o q0),(0,CHr.o q0 1)]⟩) (xF (cT (cB (cK (xC (xE (ai f147))))))) [.blk 0,.seq (xF (ai f147))] 115 (mkF 115 0 [(8,.ptr 1 0),(11,.ptr 2 0),(12,.ptr 3 0)]) ⟨5,[(4,CHr.L_o a),(3,.var 64 (ae.c d)),(2,.var 64 (ae.c b)),(1,vA (.bool false) 0 []),(0,CHr.o a 4)]⟩
def fK(m:Nat)(b d:ae)(a:CHr)(e:Bool)(J:ae)(q0:CHr):Prop:=∀(K:Ctx),az K [0]→qLG K f147 (λu G=>u=.agg (ae.c J)∧G=⟨3,[(1,CHr.L_o q0),(0,CHr.o q0 1)]⟩) (cB (xK (xF (cT (cB (cK (xC (xE (ai f147))))))))) [.blk 1,.seq (xA (xE (cT (cB (cK (xC (xE (ai f147)))))))),.blk 0,.seq (xF (ai f147))] 115 (mkF 115 0 [(8,.ptr 1 0),(11,.ptr 2 0),(12,.ptr 3 0),(72,.bool e)]) ⟨5,[(4,CHr.L_o a),(3,.var 64 (ae.c d)),(2,.var 64 (ae.c b)),(1,vA (.bool false) 0 []),(0,CHr.o a 4)]⟩
theorem sE(m:Nat)(J:CHr)(p1:Tree)(p2:List Int)(p3:List aj)(O:ae)(q0:CHr)(h:∃f,bM p2 0 f∧∃g,bM p2 1 g∧∃k b,aQ J p1 p2 0 p3 k b∧∃c a,aQ b p1 p2 1 p3 c a∧iX m p1 f g k c a O q0):mZ J p1 p2 p3 O q0:=by
 refine qA 115 [0] func147 λK G=>?_;refine gR 3 rfl<|gFP 2 rfl rfl rfl rfl<|gR 6 rfl ?_;obtain⟨f,q,h⟩:=h;refine qC0 q rfl<|gR 1 rfl ?_;obtain⟨g,r,h⟩:=h;refine qC0 r rfl<|gR 5 rfl<|qDs [] 12 14<|qDr (qR 0 4 2 (qR 5 4 2 [])) rfl rfl ?_;obtain⟨k,b,d,h⟩:=h;apply HO (i:=4) (j:=10) (l:=11) (by kernel_rfl) rfl rfl rfl rfl rfl rfl;exact(cg (L':=[]) (by kernel_rfl) rfl rfl (fW (H:=⟨4,[(3,vA (.bool false) 0 []),(1,CHr.L_o J),(0,CHr.o J 1)]⟩) d [0,1] .rfl ⟨⟨_,rfl,⟨rfl,rfl,(vG _ J.L).symm⟩⟩,⟨⟨_,rfl,⟨rfl,be.rfl⟩⟩,trivial⟩⟩ rfl [] rfl) (.inl rfl));exact(bg ah rfl rfl);exact(bg ah rfl rfl);refine qHX ⟨7,[(5,CHr.L_o b),(3,vA (.bool false) 0 []),(0,CHr.o b 5)]⟩ ?_;obtain⟨c,a,e,h⟩:=h;apply HO (i:=9) (j:=10) (l:=11) (by kernel_rfl) rfl rfl rfl rfl rfl rfl;exact(cg (L':=[]) (by kernel_rfl) rfl rfl (fW (H:=⟨7,[(5,CHr.L_o b),(3,vA (.bool false) 0 []),(0,CHr.o b 5)]⟩) e [0,5] .rfl ⟨⟨_,rfl,⟨rfl,rfl,(vG _ b.L).symm⟩⟩,⟨⟨_,rfl,⟨rfl,be.rfl⟩⟩,trivial⟩⟩ rfl [] rfl) (.inl rfl));exact(bg ah rfl rfl);exact(bg ah rfl rfl);refine qHX ⟨10,[(8,CHr.L_o a),(3,vA (.bool false) 0 []),(0,CHr.o a 8)]⟩ ?_;apply bH (i:=10) (j:=11) (by kernel_rfl) rfl rfl rfl rfl;exact(bg ah rfl rfl);exact(bg ah rfl rfl);exact qDr [(11,0),(12,1),(13,1)] rfl rfl<|qDe<|qJ G (h K G) [0,3,10,11,8];exact qDr [(10,0),(12,1),(13,1)] rfl rfl<|qDe<|qJ G (h K G) [0,3,11,10,8];apply bH (i:=9) (j:=11) (by kernel_rfl) rfl rfl rfl rfl;exact(cg (L':=[]) (by kernel_rfl) rfl rfl (fW (H:=⟨8,[(7,vA (.bool false) 0 []),(5,CHr.L_o b),(3,vA (.bool false) 0 []),(0,CHr.o b 5)]⟩) e [0,5] .rfl ⟨⟨_,rfl,⟨rfl,rfl,(vG _ b.L).symm⟩⟩,⟨⟨_,rfl,⟨rfl,be.rfl⟩⟩,trivial⟩⟩ rfl [] rfl) (.inl rfl));exact(bg ah rfl rfl);exact qHX ⟨11,[(9,CHr.L_o a),(7,vA (.bool false) 0 []),(3,vA (.bool false) 0 []),(0,CHr.o a 9)]⟩<|qDr [(11,0),(12,1),(13,1)] rfl rfl<|qDe<|qJ G (h K G) [0,3,7,11,9];refine qDC 9 e [0,5] rfl ?_;exact qHX ⟨12,[(10,CHr.L_o a),(8,vA (.bool false) 0 []),(7,vA (.bool false) 0 []),(3,vA (.bool false) 0 []),(0,CHr.o a 10)]⟩<|qDr [(12,1),(13,1)] rfl rfl<|qDe<|qJ G (h K G) [0,3,7,8,10];apply bH (i:=9) (j:=10) (by kernel_rfl) rfl rfl rfl rfl;exact(cg (L':=[]) (by kernel_rfl) rfl rfl (fW (H:=⟨8,[(7,vA (.bool false) 0 []),(5,CHr.L_o b),(3,vA (.bool false) 0 []),(0,CHr.o b 5)]⟩) e [0,5] .rfl ⟨⟨_,rfl,⟨rfl,rfl,(vG _ b.L).symm⟩⟩,⟨⟨_,rfl,⟨rfl,be.rfl⟩⟩,trivial⟩⟩ rfl [] rfl) (.inl rfl));exact(bg ah rfl rfl);exact qHX ⟨11,[(9,CHr.L_o a),(7,vA (.bool false) 0 []),(3,vA (.bool false) 0 []),(0,CHr.o a 9)]⟩<|qDr [(10,0),(12,1),(13,1)] rfl rfl<|qDe<|qJ G (h K G) [0,3,11,7,9];refine qDC 9 e [0,5] rfl ?_;exact qHX ⟨12,[(10,CHr.L_o a),(8,vA (.bool false) 0 []),(7,vA (.bool false) 0 []),(3,vA (.bool false) 0 []),(0,CHr.o a 10)]⟩<|qDr [(12,1),(13,1)] rfl rfl<|qDe<|qJ G (h K G) [0,3,8,7,10];apply bH (i:=4) (j:=11) (by kernel_rfl) rfl rfl rfl rfl;exact(cg (L':=[]) (by kernel_rfl) rfl rfl (fW (H:=⟨5,[(4,vA (.bool false) 0 []),(3,vA (.bool false) 0 []),(1,CHr.L_o J),(0,CHr.o J 1)]⟩) d [0,1] .rfl ⟨⟨_,rfl,⟨rfl,rfl,(vG _ J.L).symm⟩⟩,⟨⟨_,rfl,⟨rfl,be.rfl⟩⟩,trivial⟩⟩ rfl [] rfl) (.inl rfl));exact(bg ah rfl rfl);refine qHX ⟨8,[(6,CHr.L_o b),(4,vA (.bool false) 0 []),(3,vA (.bool false) 0 []),(0,CHr.o b 6)]⟩ ?_;obtain⟨c,a,n,h⟩:=h;apply bH (i:=9) (j:=11) (by kernel_rfl) rfl rfl rfl rfl;exact(cg (L':=[]) (by kernel_rfl) rfl rfl (fW (H:=⟨8,[(6,CHr.L_o b),(4,vA (.bool false) 0 []),(3,vA (.bool false) 0 []),(0,CHr.o b 6)]⟩) n [0,6] .rfl ⟨⟨_,rfl,⟨rfl,rfl,(vG _ b.L).symm⟩⟩,⟨⟨_,rfl,⟨rfl,be.rfl⟩⟩,trivial⟩⟩ rfl [] rfl) (.inl rfl));exact(bg ah rfl rfl);exact qHX ⟨11,[(9,CHr.L_o a),(4,vA (.bool false) 0 []),(3,vA (.bool false) 0 []),(0,CHr.o a 9)]⟩<|qDr [(11,0),(12,1),(13,1)] rfl rfl<|qDe<|qJ G (h K G) [0,3,4,11,9];refine qDC 9 n [0,6] rfl ?_;exact qHX ⟨12,[(10,CHr.L_o a),(8,vA (.bool false) 0 []),(4,vA (.bool false) 0 []),(3,vA (.bool false) 0 []),(0,CHr.o a 10)]⟩<|qDr [(12,1),(13,1)] rfl rfl<|qDe<|qJ G (h K G) [0,3,4,8,10];refine qDC 4 d [0,1] rfl ?_;refine qHX ⟨9,[(7,CHr.L_o b),(5,vA (.bool false) 0 []),(4,vA (.bool false) 0 []),(3,vA (.bool false) 0 []),(0,CHr.o b 7)]⟩ ?_;obtain⟨c,a,s,h⟩:=h;refine qDC 9 s [0,7] rfl ?_;exact qHX ⟨12,[(10,CHr.L_o a),(5,vA (.bool false) 0 []),(4,vA (.bool false) 0 []),(3,vA (.bool false) 0 []),(0,CHr.o a 10)]⟩<|qDr [(12,1),(13,1)] rfl rfl<|qDe<|qJ G (h K G) [0,3,4,5,10];apply bH (i:=4) (j:=10) (by kernel_rfl) rfl rfl rfl rfl;exact(cg (L':=[]) (by kernel_rfl) rfl rfl (fW (H:=⟨5,[(4,vA (.bool false) 0 []),(3,vA (.bool false) 0 []),(1,CHr.L_o J),(0,CHr.o J 1)]⟩) d [0,1] .rfl ⟨⟨_,rfl,⟨rfl,rfl,(vG _ J.L).symm⟩⟩,⟨⟨_,rfl,⟨rfl,be.rfl⟩⟩,trivial⟩⟩ rfl [] rfl) (.inl rfl));exact(bg ah rfl rfl);refine qHX ⟨8,[(6,CHr.L_o b),(4,vA (.bool false) 0 []),(3,vA (.bool false) 0 []),(0,CHr.o b 6)]⟩ ?_;obtain⟨c,a,p,h⟩:=h;apply bH (i:=9) (j:=10) (by kernel_rfl) rfl rfl rfl rfl;exact(cg (L':=[]) (by kernel_rfl) rfl rfl (fW (H:=⟨8,[(6,CHr.L_o b),(4,vA (.bool false) 0 []),(3,vA (.bool false) 0 []),(0,CHr.o b 6)]⟩) p [0,6] .rfl ⟨⟨_,rfl,⟨rfl,rfl,(vG _ b.L).symm⟩⟩,⟨⟨_,rfl,⟨rfl,be.rfl⟩⟩,trivial⟩⟩ rfl [] rfl) (.inl rfl));exact(bg ah rfl rfl);exact qHX ⟨11,[(9,CHr.L_o a),(4,vA (.bool false) 0 []),(3,vA (.bool false) 0 []),(0,CHr.o a 9)]⟩<|qDr [(10,0),(12,1),(13,1)] rfl rfl<|qDe<|qJ G (h K G) [0,3,11,4,9];refine qDC 9 p [0,6] rfl ?_;exact qHX ⟨12,[(10,CHr.L_o a),(8,vA (.bool false) 0 []),(4,vA (.bool false) 0 []),(3,vA (.bool false) 0 []),(0,CHr.o a 10)]⟩<|qDr [(12,1),(13,1)] rfl rfl<|qDe<|qJ G (h K G) [0,3,8,4,10];refine qDC 4 d [0,1] rfl ?_;refine qHX ⟨9,[(7,CHr.L_o b),(5,vA (.bool false) 0 []),(4,vA (.bool false) 0 []),(3,vA (.bool false) 0 []),(0,CHr.o b 7)]⟩ ?_;obtain⟨c,a,t,h⟩:=h;refine qDC 9 t [0,7] rfl ?_;exact qHX ⟨12,[(10,CHr.L_o a),(5,vA (.bool false) 0 []),(4,vA (.bool false) 0 []),(3,vA (.bool false) 0 []),(0,CHr.o a 10)]⟩<|qDr [(12,1),(13,1)] rfl rfl<|qDe<|qJ G (h K G) [0,3,5,4,10]
theorem qV(m:Nat)(p1:Tree)(r e:List Int)(a b:ae)(d:CHr)(J:ae)(q0:CHr)(h:((p1.text=[43])→((a.Known=true)→∃l,cG a 5 l∧((l=false)→∃n,cG a 6 n∧((n=false)→∃j,aF d r 4 j∧cS m e a b j true J q0)∧((n=true)→cS m e a b d false J q0))∧((l=true)→cS m e a b d false J q0))∧((a.Known=false)→cS m e a b d false J q0))∧((p1.text≠[43])→((p1.text=[61,61])→∃p,bh a b p∧((p=true)→∃k,aF d e 6 k∧∃f,bd 7 f∧f=J∧k=q0)∧((p=false)→∃g,bd 7 g∧g=J∧d=q0))∧((p1.text≠[61,61])→∃s,bd 5 s∧∃q,bh a s q∧((q=true)→∃i,aF d r 4 i∧fI m p1 e b i J q0)∧((q=false)→fI m p1 e b d J q0)))):iX (m+1) p1 r e a b d J q0:=by
 intro K G;refine gR 15 rfl<|qBeZ 30 31 rfl rfl rfl rfl h ?_ ?_<;>intro h;refine gR 12 rfl<|qBiZ 34 33 rfl rfl rfl rfl h ?_ ?_<;>intro h;refine gR 1 rfl ?_;obtain⟨l,t,h⟩:=h;refine qC0 t rfl<|gR 3 rfl<|qBhZ 39 38 rfl rfl rfl rfl h bt br ?_ ?_<;>intro h;refine gR 1 rfl ?_;obtain⟨n,v,h⟩:=h;refine qC0 v rfl<|gR 4 rfl<|qBh 43 rfl rfl rfl h bt br ?_ ?_<;>intro h;refine gR 5 rfl ?_;obtain⟨j,w,h⟩:=h;refine qC w [0,4] ?_;exact qHX ⟨7,[(6,CHr.L_o j),(3,.var 64 (ae.c b)),(2,.var 64 (ae.c a)),(1,vA (.bool false) 0 []),(0,CHr.o j 6)]⟩<|gR 6 rfl<|qJ G (h K G) [0,1,2,3,6];exact gR 3 rfl<|qJ G (h K G) [0,1,2,3,4];exact gR 9 rfl<|qJ G (h K G) [0,1,2,3,4];exact gR 14 rfl<|qJ G (h K G) [0,1,2,3,4];refine gR 7 rfl<|qBeZ 89 90 rfl rfl rfl rfl h ?_ ?_<;>intro h;refine gR 6 rfl ?_;obtain⟨p,x,h⟩:=h;refine qC0 x rfl<|gR 2 rfl<|qBi 93 rfl rfl rfl h ?_ ?_<;>intro h;refine gR 4 rfl ?_;obtain⟨k,y,h⟩:=h;refine qC y [0,4] ?_;refine qHX ⟨7,[(6,CHr.L_o k),(3,.var 64 (ae.c b)),(2,.var 64 (ae.c a)),(1,vA (.bool false) 0 []),(0,CHr.o k 6)]⟩<|gR 4 rfl ?_;obtain⟨f,z,h⟩:=h;refine qC0 z rfl<|gR 6 rfl ?_;obtain⟨rfl,rfl⟩:=h;exact gE G [(2,vD (.bool f.Known) f.T.kind f.T.text f.T.leads f.T.kids)] [(8,.ptr 2 0)] [0,6,1] [.cell 8 64];refine gR 5 rfl ?_;obtain⟨g,α,h⟩:=h;refine qC0 α rfl<|gR 6 rfl ?_;obtain⟨rfl,rfl⟩:=h;exact gE G [(2,vD (.bool g.Known) g.T.kind g.T.text g.T.leads g.T.kids)] [(8,.ptr 2 0)] [0,4,1] [.cell 8 64];refine gR 6 rfl<|qDs [2] 2 3<|qDr [(0,3)] rfl rfl ?_;obtain⟨s,β,h⟩:=h;refine eU 1 β (by kernel_rfl) rfl (by kernel_rfl) rfl rfl .rfl rfl rfl ?_;obtain⟨q,γ,h⟩:=h;refine eU 2 γ (by kernel_rfl) rfl (by kernel_rfl) rfl rfl .rfl rfl rfl ?_;refine qDe<|gR 1 rfl<|qBi 100 rfl rfl rfl h ?_ ?_<;>intro h;refine gR 4 rfl ?_;obtain⟨i,δ,h⟩:=h;refine qC δ [0,4] ?_;exact qHX ⟨7,[(6,CHr.L_o i),(3,.var 64 (ae.c b)),(2,.var 64 (ae.c a)),(1,vA (.bool false) 0 []),(0,CHr.o i 6)]⟩<|gR 2 rfl<|qJ G (h K G) [0,1,3,6];exact gR 3 rfl<|qJ G (h K G) [0,1,3,4]
theorem rh(m:Nat)(b:List Int)(d a:ae)(e:CHr)(g:Bool)(J:ae)(q0:CHr)(h:((a.Known=true)→∃i,cG a 5 i∧((i=false)→∃j,cG a 6 j∧((j=false)→∃f,aF e b 4 f∧cX m b d a f true J q0)∧((j=true)→cX m b d a e g J q0))∧((i=true)→cX m b d a e g J q0))∧((a.Known=false)→cX m b d a e g J q0)):cS (m+1) b d a e g J q0:=by
 intro K G;refine gR 6 rfl<|qBiZ 49 48 rfl rfl rfl rfl h ?_ ?_<;>intro h;refine gR 1 rfl ?_;obtain⟨i,k,h⟩:=h;refine qC0 k rfl<|gR 3 rfl<|qBhZ 54 53 rfl rfl rfl rfl h bt br ?_ ?_<;>intro h;refine gR 1 rfl ?_;obtain⟨j,l,h⟩:=h;refine qC0 l rfl<|gR 4 rfl<|qBh 58 rfl rfl rfl h bt br ?_ ?_<;>intro h;refine gR 5 rfl ?_;obtain⟨f,n,h⟩:=h;refine qC n [0,4] ?_;exact qHX ⟨7,[(6,CHr.L_o f),(3,.var 64 (ae.c a)),(2,.var 64 (ae.c d)),(1,vA (.bool false) 0 []),(0,CHr.o f 6)]⟩<|gR 6 rfl<|qJ G (h K G) [0,1,2,3,6];exact gR 3 rfl<|qJ G (h K G) [0,1,2,3,4];exact gR 9 rfl<|qJ G (h K G) [0,1,2,3,4];exact gR 14 rfl<|qJ G (h K G) [0,1,2,3,4]
theorem qY(m:Nat)(p1:Tree)(l:List Int)(j:ae)(g:CHr)(G:ae)(q0:CHr)(h:∃k,bd 5 k∧∃i,bh j k i∧((i=true)→∃f,aF g l 4 f∧((p1.text=[60])→∃a,bd 7 a∧a=G∧f=q0)∧((p1.text≠[60])→∃b,bd 5 b∧b=G∧f=q0))∧((i=false)→((p1.text=[60])→∃d,bd 7 d∧d=G∧g=q0)∧((p1.text≠[60])→∃e,bd 5 e∧e=G∧g=q0))):fI (m+1) p1 l j g G q0:=by
 intro K J;refine gR 2 rfl<|qDs [2] 2 3<|qDr [(0,3)] rfl rfl ?_;obtain⟨k,n,h⟩:=h;refine eU 1 n (by kernel_rfl) rfl (by kernel_rfl) rfl rfl .rfl rfl rfl ?_;obtain⟨i,p,h⟩:=h;refine eU 2 p (by kernel_rfl) rfl (by kernel_rfl) rfl rfl .rfl rfl rfl ?_;refine qDe<|gR 1 rfl<|qBi 106 rfl rfl rfl h ?_ ?_<;>intro h;refine gR 4 rfl ?_;obtain⟨f,q,h⟩:=h;refine qC q [0,3] ?_;refine qHX ⟨6,[(5,CHr.L_o f),(2,.var 64 (ae.c j)),(1,vA (.bool false) 0 []),(0,CHr.o f 5)]⟩<|gR 10 rfl<|qBe 112 rfl rfl rfl h ?_ ?_<;>intro h;refine gR 3 rfl ?_;obtain⟨a,r,h⟩:=h;refine qC0 r rfl<|gR 5 rfl ?_;obtain⟨rfl,rfl⟩:=h;exact gE J [(2,vD (.bool a.Known) a.T.kind a.T.text a.T.leads a.T.kids)] [(8,.ptr 2 0)] [0,5,1] [.cell 8 64];refine gR 5 rfl ?_;obtain⟨b,s,h⟩:=h;refine qC0 s rfl<|gR 4 rfl ?_;obtain⟨rfl,rfl⟩:=h;exact gE J [(2,vD (.bool b.Known) b.T.kind b.T.text b.T.leads b.T.kids)] [(8,.ptr 2 0)] [0,5,1] [.cell 8 64];refine gR 11 rfl<|qBe 112 rfl rfl rfl h ?_ ?_<;>intro h;refine gR 3 rfl ?_;obtain⟨d,t,h⟩:=h;refine qC0 t rfl<|gR 5 rfl ?_;obtain⟨rfl,rfl⟩:=h;exact gE J [(2,vD (.bool d.Known) d.T.kind d.T.text d.T.leads d.T.kids)] [(8,.ptr 2 0)] [0,3,1] [.cell 8 64];refine gR 5 rfl ?_;obtain⟨e,v,h⟩:=h;refine qC0 v rfl<|gR 4 rfl ?_;obtain⟨rfl,rfl⟩:=h;exact gE J [(2,vD (.bool e.Known) e.T.kind e.T.text e.T.leads e.T.kids)] [(8,.ptr 2 0)] [0,3,1] [.cell 8 64]
theorem qX(m:Nat)(i:List Int)(a b:ae)(e:CHr)(g:Bool)(J:ae)(q0:CHr)(h:((g=false)→∃f,bh a b f∧((f=true)→∃d,aF e i 6 d∧dO m a b d J q0)∧((f=false)→dO m a b e J q0))∧((g=true)→dO m a b e J q0)):cX (m+1) i a b e g J q0:=by
 intro K G;refine gR 6 rfl<|qBhZ 64 63 rfl rfl rfl rfl h bt br ?_ ?_<;>intro h;refine gR 2 rfl ?_;obtain⟨f,j,h⟩:=h;refine qC0 j rfl<|gR 3 rfl<|qBi 68 rfl rfl rfl h ?_ ?_<;>intro h;refine gR 4 rfl ?_;obtain⟨d,k,h⟩:=h;refine qC k [0,4] ?_;exact qHX ⟨7,[(6,CHr.L_o d),(3,.var 64 (ae.c b)),(2,.var 64 (ae.c a)),(1,vA (.bool false) 0 []),(0,CHr.o d 6)]⟩<|gR 2 rfl<|qJ G (h K G) [0,1,2,3,6];exact gR 3 rfl<|qJ G (h K G) [0,1,2,3,4];exact gR 9 rfl<|qJ G (h K G) [0,1,2,3,4]
theorem ri(m:Nat)(a c:ae)(d:CHr)(J:ae)(q0:CHr)(h:∃b,cG a 5 b∧((b=true)→fK m a c d true J q0)∧((b=false)→∃e,cG a 6 e∧fK m a c d e J q0)):dO (m+1) a c d J q0:=by
 intro K G;refine gR 5 rfl ?_;obtain⟨b,f,h⟩:=h;refine qC0 f rfl<|gR 1 rfl<|qBiZ 75 74 rfl rfl rfl rfl h ?_ ?_<;>intro h;exact gR 6 rfl<|qJ G (h K G) [0,1,2,3,4];refine gR 1 rfl ?_;obtain⟨e,g,h⟩:=h;exact qC0 g rfl<|gR 4 rfl<|qJ G (h K G) [0,1,2,3,4]
theorem rf(m:Nat)(b a:ae)(c:CHr)(f:Bool)(G:ae)(q0:CHr)(h:((f=true)→b=G∧c=q0)∧((f=false)→∃d,cG a 5 d∧((d=true)→a=G∧c=q0)∧((d=false)→∃e,cG a 6 e∧((e=true)→a=G∧c=q0)∧((e=false)→(ae.mk false (Tree.node 0 [] [] []))=G∧c=q0)))):fK (m+1) b a c f G q0:=by
 intro K J;refine qBi 72 rfl rfl rfl h ?_ ?_<;>intro h;refine gR 12 rfl ?_;obtain⟨rfl,rfl⟩:=h;exact gE J [(2,vD (.bool b.Known) b.T.kind b.T.text b.T.leads b.T.kids)] [(8,.ptr 2 0)] [0,4,1] [.cell 8 64];refine gR 4 rfl ?_;obtain⟨d,g,h⟩:=h;refine qC0 g rfl<|gR 1 rfl<|qBiZ 83 82 rfl rfl rfl rfl h ?_ ?_<;>intro h;refine gR 18 rfl ?_;obtain⟨rfl,rfl⟩:=h;exact gE J [(2,vD (.bool a.Known) a.T.kind a.T.text a.T.leads a.T.kids)] [(8,.ptr 2 0)] [0,4,1] [.cell 8 64];refine gR 1 rfl ?_;obtain⟨e,i,h⟩:=h;refine qC0 i rfl<|gR 4 rfl<|qBiZ 80 86 rfl rfl rfl rfl h ?_ ?_<;>intro h;refine gR 12 rfl ?_;obtain⟨rfl,rfl⟩:=h;exact gE J [(2,vD (.bool a.Known) a.T.kind a.T.text a.T.leads a.T.kids)] [(8,.ptr 2 0)] [0,4,1] [.cell 8 64];refine gR 13 rfl ?_;obtain⟨rfl,rfl⟩:=h;exact gE J [(2,vD (.bool ((ae.mk false (Tree.node 0 [] [] [])).Known)) (((ae.mk false (Tree.node 0 [] [] [])).T).kind) (((ae.mk false (Tree.node 0 [] [] [])).T).text) (((ae.mk false (Tree.node 0 [] [] [])).T).leads) (((ae.mk false (Tree.node 0 [] [] [])).T).kids))] [(8,.ptr 2 0)] [0,4,1] [.cell 8 64] (hH:=⟨⟨_,rfl,⟨rfl,(.cons .rfl (.cons .rfl (.cons .rfl (.cons (.nil 1) (.cons (.nil 4) .nil)))))⟩⟩,⟨⟨_,rfl,⟨rfl,rfl,(vG _ c.L).symm⟩⟩,⟨⟨_,rfl,⟨rfl,be.rfl⟩⟩,trivial⟩⟩⟩)
def me(m:Nat)(J:CHr)(p1:List Int)(a:Tree)(q0:CHr):Prop:=∀(K:Ctx),az K [0]→Go prog K (bodyPost prog f35 (SP K (λu G=>u=.tup []∧G=⟨2,[(1,CHr.L_o q0),(0,CHr.o q0 1)]⟩))) (.ex .normal) [.seq (cB (ai f35))] 60 (mkF 60 0 [(0,.ptr 0 0),(1,.row 1 (List.map (V.int .i64) p1)),(4,.ptr 1 0)]) ⟨3,[(2,CHr.L_o J),(1,.var 29 (am a)),(0,CHr.o J 2)]⟩
def cN(m:Nat)(p1:List Int)(b:Tree)(a:CHr)(c:Nat)(q0:CHr):Prop:=∀(K:Ctx) (J:Nat),az K [0]→m≤J→qLG K f35 (λu G=>u=.tup []∧G=⟨2,[(1,CHr.L_o q0),(0,CHr.o q0 1)]⟩) (xB (xE (ai f35))) [.loop (xB (xE (ai f35))) J,.blk 0] 60 (mkF 60 0 [(0,.ptr 0 0),(1,.row 1 (List.map (V.int .i64) p1)),(4,.ptr 1 0),(9,qi (c:Int))]) ⟨3,[(2,CHr.L_o a),(1,.var 29 (am b)),(0,CHr.o a 2)]⟩
theorem rk(m:Nat)(G:CHr)(p1:List Int)(q0:CHr)(h:∃a,G.Module=((a:Nat):Int)∧∃b,G.P[a]?=some b∧∃c e,iV b p1 c e∧me m G p1 c q0):cV G p1 q0:=by
 refine qA 60 [0] func35 λK J=>?_;refine gR 1 rfl<|qDs [0] 16 18<|qDr (qR 0 3 2 ((3,3)::(qR 4 3 2 [(7,3)]))) rfl rfl ?_;obtain⟨a,g,h⟩:=h;refine gV 18 (qi ((a:Nat):Int)) rfl (aK g) rfl ?_;obtain⟨b,d,h⟩:=h;refine gYd 8 rfl (by kernel_rfl) (aG (aq d) ah rfl rfl rfl rfl) rfl rfl<|qDr [(9,2),(10,2)] rfl rfl ?_;obtain⟨c,e,f,h⟩:=h;apply bH (i:=11) (j:=15) (by kernel_rfl) rfl rfl rfl rfl;exact(cg (L':=[0]) (by kernel_rfl) rfl rfl (pS f .rfl [0] rfl) (.inl rfl));exact(bg ah rfl rfl);exact qDr (qR 12 3 2 [(15,0),(16,1),(17,1)]) rfl rfl<|qDe<|qJ J (h K J) [0,2,1];refine eU 11 f (by kernel_rfl) rfl (by kernel_rfl) rfl rfl .rfl rfl rfl ?_;exact qDr [(12,0),(13,2),(14,2),(16,1),(17,1)] rfl rfl<|qDe<|qJ J (h K J) [0,2,1]
theorem qH(m:Nat)(p0:CHr)(p1:List Int)(a:Tree)(q0:CHr)(h:((a.kind=9)→∃d e c,fk p0.P p0.Module a.text d e c∧((c=false)→∃b,aF p0 p1 1 b∧cN m p1 a b 0 q0)∧((c=true)→cN m p1 a p0 0 q0))∧((a.kind≠9)→cN m p1 a p0 0 q0)):me (m+1) p0 p1 a q0:=by
 intro K hK;refine gR 9 rfl<|qXe 27 rfl rfl rfl h ?_ ?_<;>intro hd h;refine gR 2 rfl<|qDs [0,1] 10 18<|qDr (qR 0 3 2 ((3,3)::(qR 4 3 2 [(7,3),(8,0),(9,0)]))) rfl rfl ?_;obtain⟨d,e,c,f,h⟩:=h;refine eU 10 f (by kernel_rfl) rfl (by kernel_rfl) rfl rfl .rfl rfl rfl ?_;refine qDr ((11,1)::(qR 12 3 2 (qR 15 3 1 []))) rfl rfl<|qDe<|gR 7 rfl<|qXh 44 rfl rfl rfl h bt br ?_ ?_<;>intro hd h;refine gR 4 rfl ?_;obtain⟨b,g,h⟩:=h;refine qC g [0,2] ?_;exact qHX ⟨5,[(4,CHr.L_o b),(1,.var 29 (am a)),(0,CHr.o b 4)]⟩<|gR 8 rfl<|go_loop m<|qW hK h [0,1,4];exact gR 9 rfl<|go_loop m<|qW hK h [0,1,2];exact gR 9 rfl<|go_loop m<|qW hK h [0,1,2]
theorem lB(m:Nat)(p1:List Int)(a:Tree)(d:CHr)(b:Nat)(q0:CHr)(h:((b<a.kids.length)→∃e,bM p1 (b:Int) e∧∃c,cV d e c∧cN m p1 a c (b+1) q0)∧((¬b<a.kids.length)→d=q0)):cN (m+1) p1 a d b q0:=by
 refine qj λK J G j=>?_;refine gR 7 rfl<|gV 51 (qi (a.kids.length:Int)) rfl (aI (aD _)) rfl<|gLB 50 rfl (aD _) λf=>gR 3 rfl<|qXh 52 rfl rfl rfl h cr co ?_ ?_<;>intro O h;refine gR 9 rfl ?_;obtain⟨e,g,h⟩:=h;refine qC0 g rfl ?_;obtain⟨c,i,h⟩:=h;refine qC i [0,2] ?_;exact qHX ⟨5,[(4,CHr.L_o c),(1,.var 29 (am a)),(0,CHr.o c 4)]⟩<|gR 6 rfl<|gV 54 (qi ((b+1:Nat):Int)) rfl (al (by have :=f;omega) (by omega)) rfl<|gR 2 rfl<|go_xloop<|qW G h [0,1,4];refine gR 3 rfl<|go_xloopE<|gR 1 rfl ?_;subst h;exact gE G [] [] [0,2] []
def cJ(m:Nat)(p1:Int)(a:Tree)(b:CHr)(d:List aj)(e:Int)(O:ae)(q0:CHr):Prop:=∀(K:Ctx) (J:Nat),az K [0]→m≤J→qLG K f29 (λu G=>u=.agg (ae.c O)∧G=⟨3,[(1,CHr.L_o q0),(0,CHr.o q0 1)]⟩) (xD (xF (ai f29))) [.loop (xD (xF (ai f29))) J,.blk 0,.seq (xA (xE (ai f29)))] 69 (mkF 69 0 [(0,.ptr 0 0),(1,qi p1),(4,.ptr 1 0),(5,.box (am a) 0),(6,qi (a.kids.length:Int)),(7,.sl 2),(8,qi e)]) ⟨4,[(3,CHr.L_o b),(2,.row 107 6 (List.map aj.w d)),(1,vA (.bool false) 0 []),(0,CHr.o b 3)]⟩
theorem qU(m:Nat)(p0:CHr)(p1:Int)(r0:ae)(q0:CHr)(h:∃b,p0.Module=((b:Nat):Int)∧∃d,p0.P[b]?=some d∧∃c,p1=((c:Nat):Int)∧∃a,d.kids[c]?=some a∧cJ m p1 a p0 ([]:List aj) ((a.kids.length:Int)-3) r0 q0):cZ p0 p1 r0 q0:=by
 refine qA 69 [0] func29 λK hK=>?_;refine gR 6 rfl<|qDs [0] 15 16<|qDr (qR 0 3 2 ((3,3)::(qR 4 3 2 [(7,3)]))) rfl rfl ?_;obtain⟨b,g,h⟩:=h;refine gV 16 (qi ((b:Nat):Int)) rfl (aK g) rfl ?_;obtain⟨d,e,h⟩:=h;refine gYd 8 rfl (by kernel_rfl) (aG (aq e) ah rfl rfl rfl rfl) rfl rfl<|qDr (qR 9 3 2 []) rfl rfl ?_;obtain⟨c,i,h⟩:=h;refine gV 20 (qi ((c:Nat):Int)) rfl (aK i) rfl ?_;obtain⟨a,f,h⟩:=h;exact gYd 12 rfl (by kernel_rfl) (aG (aq f) ah rfl rfl rfl rfl) rfl rfl<|qDr [(13,2),(14,0),(15,1)] rfl rfl<|qDe<|gR 6 rfl<|gV 25 (qi (a.kids.length:Int)) rfl (aI (aD _)) rfl<|gLB 24 rfl (aD _) λj=>gR 10 rfl<|gFP 3 rfl rfl rfl rfl<|gR 3 rfl<|gV 27 (qi ((a.kids.length:Int)-3)) rfl (al (by have :=j;omega) rfl) rfl<|gR 4 rfl<|go_loop m<|gNS 7 107 6 rfl rfl rfl rfl<|qW hK h [0,2,4,1]
theorem rL0_semvcsref08_Check_body(m:Nat)(p1:Int)(a:Tree)(i:CHr)(d:List aj)(c:Int)(G:ae)(q0:CHr)(h:((0≤c)→∃k,c=((k:Nat):Int)∧∃f,a.kids[k]?=some f∧∃l,c=((l:Nat):Int)∧∃p,a.kids[l]?=some p∧∃q,p.kids[0]?=some q∧∃g j,aX i i.Module q g j∧(d++[(aj.mk f.text g)]).length≤1000000000∧InI (c-1)∧cJ m p1 a j (d++[(aj.mk f.text g)]) (c-1) G q0)∧((¬0≤c)→InI ((a.kids.length:Int)-1)∧∃n,((a.kids.length:Int)-1)=((n:Nat):Int)∧∃r,a.kids[n]?=some r∧InI ((a.kids.length:Int)-1)∧∃b e,dQ i r [p1,((a.kids.length:Int)-1)] d b e∧b=G∧e=q0)):cJ (m+1) p1 a i d c G q0:=by
 refine qj λK O J δ=>?_;refine gR 7 rfl<|qXd 29 rfl rfl rfl h ?_ ?_<;>intro U h;refine gR 5 rfl<|qDs [0] 20 25<|qDr (qR 0 4 2 []) rfl rfl ?_;obtain⟨k,y,h⟩:=h;refine gV 35 (qi ((k:Nat):Int)) rfl (aK y) rfl ?_;obtain⟨f,s,h⟩:=h;refine gYd 4 rfl (by kernel_rfl) (aG (aq s) ah rfl rfl rfl rfl) rfl rfl<|qDr (qR 5 6 2 [(11,3),(12,2),(13,2),(14,0)]) rfl rfl ?_;obtain⟨l,z,h⟩:=h;refine gV 46 (qi ((l:Nat):Int)) rfl (aK z) rfl ?_;obtain⟨p,t,h⟩:=h;refine bU 15 rfl (by kernel_rfl) (aG (aq t) ah rfl rfl rfl rfl) rfl rfl ?_;refine qDr [(16,0),(17,0)] rfl rfl ?_;obtain⟨q,v,h⟩:=h;refine bU 18 rfl (by kernel_rfl) (aG (aq v) ah rfl rfl rfl rfl) rfl rfl ?_;refine qDr [(19,0)] rfl rfl ?_;obtain⟨g,j,β,h⟩:=h;refine Pv 20 β [0,3] (by kernel_rfl) rfl (by kernel_rfl) rfl rfl .rfl ⟨⟨_,rfl,⟨rfl,rfl,(vG _ i.L).symm⟩⟩,⟨⟨_,rfl,⟨rfl,be.rfl⟩⟩,trivial⟩⟩ rfl (by kernel_rfl) ?_;rintro _ _ ⟨rfl,rfl⟩;refine qHX ⟨7,[(5,CHr.L_o j),(2,.row 107 6 (List.map aj.w d)),(1,vA (.bool false) 0 []),(0,CHr.o j 5)]⟩<|qDr [(21,1),(22,1)] rfl rfl ?_;obtain⟨hb,h⟩:=h;refine cb 23 (.repl 2 (.row 107 6 (List.map aj.w (d++[(aj.mk f.text g)])))) rfl (by kernel_rfl) (ju ah rfl rfl rfl rfl rfl (apM aj.w d (aj.mk f.text g)) (by rw[aH];exact hb)) (okR rfl) rfl (by kernel_rfl) rfl rfl ?_;refine qDr [(24,1)] rfl rfl<|qDe<|gR 4 rfl ?_;obtain⟨hb,h⟩:=h;exact gR 1 rfl<|gV 31 (qi (c-1)) rfl (al hb rfl) rfl<|gR 2 rfl<|go_xloop<|qW J h [0,1,8,5];refine gR 3 rfl<|go_xloopE<|gR 8 rfl ?_;obtain⟨hb,h⟩:=h;refine gR 1 rfl<|gV 60 (qi ((a.kids.length:Int)-1)) rfl (al hb rfl) rfl ?_;obtain⟨n,α,h⟩:=h;refine gV 60 (qi ((n:Nat):Int)) rfl (aK α) rfl ?_;obtain⟨r,x,h⟩:=h;refine gY (aG (aq x) ah rfl rfl rfl rfl) rfl rfl<|gR 3 rfl ?_;obtain⟨hb,h⟩:=h;refine gR 1 rfl<|gV 65 (qi ((a.kids.length:Int)-1)) rfl (al hb rfl) rfl<|gR 2 rfl<|gFR 4 rfl rfl rfl rfl<|gFR 2 rfl (lV _ (λ_=>rfl) _) rfl rfl ?_;obtain⟨b,e,γ,h⟩:=h;refine qC γ [0,3] ?_;refine qHX ⟨8,[(6,CHr.L_o e),(1,vA (.bool false) 0 []),(0,CHr.o e 6)]⟩<|gR 4 rfl ?_;obtain⟨rfl,rfl⟩:=h;exact gE J [(2,vD (.bool b.Known) b.T.kind b.T.text b.T.leads b.T.kids)] [(4,.ptr 2 0)] [0,6,1] [.cell 4 64]
structure aa where
 simple:Int
 lists:Int
abbrev aa.c(x:aa):List V:=[.int .i64 x.simple,.int .i64 x.lists]
abbrev aa.w(x:aa):V:=.agg x.c
structure ak where
 params:(List aa)
 result:aa
abbrev ak.c(x:ak):List V:=[.row 2 (List.map aa.w x.params),.int .i64 x.result.simple,.int .i64 x.result.lists]
abbrev ak.w(x:ak):V:=.agg x.c
structure CKr where
 p:(List Tree)
 targets:(List ar)
 names:(List ((Int×(List UInt8))×aa))
 signatures:(List ((Int×Int)×ak))
 module:Int
 path:(List Int)
 faults:(List ac)
 wanted_Module:Int
 wanted_Path:(List Int)
 result_simple:Int
 result_lists:Int
abbrev CKr.faults_o(x:CKr):Ob:=.row 47 3 (List.map ac.w x.faults)
abbrev CKr.path_o(x:CKr):Ob:=.row 3 1 (List.map (V.int .i64) x.path)
abbrev CKr.signatures_o(x:CKr):Ob:=.mp 100 97 (List.map (λp=>(λx=>V.agg [(V.int .i64 x.1),(V.int .i64 x.2)]) p.1) x.signatures) (List.map (λp=>ak.w p.2) x.signatures)
abbrev CKr.names_o(x:CKr):Ob:=.mp 176 58 (List.map (λp=>(λx=>V.agg [(V.int .i64 x.1),(V.str x.2)]) p.1) x.names) (List.map (λp=>aa.w p.2) x.names)
abbrev CKr.o(x:CKr)(i0 i1 i2 i3:Nat):Ob:=.var 60 [.row 4 (kidsV x.p),.row 5 (List.map ar.w x.targets),.sl i0,.sl i1,.int .i64 x.module,.sl i2,.sl i3,.int .i64 x.wanted_Module,.row 1 (List.map (V.int .i64) x.wanted_Path),.int .i64 x.result_simple,.int .i64 x.result_lists]
abbrev CKr.z(x:CKr)(M:List (Nat×Ob))(i:Nat):List (Nat×Ob):=(i+1,CKr.faults_o x)::(i,CKr.path_o x)::(M++[(2,CKr.signatures_o x),(1,CKr.names_o x),(0,CKr.o x 1 2 i (i+1))])
abbrev CKr.y(x:CKr)(i:Nat):List (Nat×Ob):=CKr.z x [] i
abbrev CKr.v(x:CKr)(u:V)(G:Hp):Prop:=u=.tup []∧G=⟨5,CKr.y x 3⟩
structure au where
 name:(List UInt8)
 typ:aa
abbrev au.c(x:au):List V:=[.str x.name,.int .i64 x.typ.simple,.int .i64 x.typ.lists]
abbrev vB(a0:Int)(a1:Int):Ob:=.var 58 [.int .i64 a0,.int .i64 a1]
def vd(p1:Int)(J:List Int):Prop:=bC [] prog 137 [.nils,qi p1] ⟨0,[]⟩ (λu G=>u=.sl 0∧G=⟨1,[(0,.row 3 1 (List.map (V.int .i64) J))]⟩)
def ga(J:CKr)(p1:Int)(p2:Tree)(O:aa)(q0:CKr):Prop:=bC [] prog 93 [.ptr 0 0,qi p1,.agg (am p2)] ⟨5,(CKr.y J 3)⟩ (λu G=>u=.agg (aa.c O)∧G=⟨6,(CKr.y q0 3)⟩)
def kv(J:CKr)(p1:Int)(p2:Tree)(O:ak)(q0:CKr):Prop:=bC [] prog 53 [.ptr 0 0,qi p1,.agg (am p2)] ⟨5,(CKr.y J 3)⟩ (λu G=>u=.agg (ak.c O)∧G=⟨6,(CKr.y q0 3)⟩)
def fB(G:CKr)(p1:Tree)(p2:ak)(q0:CKr):Prop:=bC [] prog 55 [.ptr 0 0,.agg (am p1),.agg (ak.c p2)] ⟨5,(CKr.y G 3)⟩ (CKr.v q0)
def bi(J:CKr)(p1:Tree)(p2:Int)(p3:List au)(O:aa)(q0:CKr):Prop:=bC [] prog 95 [.ptr 0 0,.agg (am p1),qi p2,.lk (List.map au.c p3)] ⟨5,(CKr.y J 3)⟩ (λu G=>u=.agg (aa.c O)∧G=⟨6,(CKr.y q0 3)⟩)
def gL(J:CKr)(p1:Tree)(p2:List au)(O:aa)(q0:CKr):Prop:=bC [] prog 135 [.ptr 0 0,.agg (am p1),.lk (List.map au.c p2)] ⟨5,(CKr.y J 3)⟩ (λu G=>u=.agg (aa.c O)∧G=⟨6,(CKr.y q0 3)⟩)
def kB(J:CKr)(p1:Tree)(p2:List au)(O:aa)(q0:CKr):Prop:=bC [] prog 166 [.ptr 0 0,.agg (am p1),.lk (List.map au.c p2)] ⟨5,(CKr.y J 3)⟩ (λu G=>u=.agg (aa.c O)∧G=⟨6,(CKr.y q0 3)⟩)
def og(J:CKr)(p1:Tree)(p2:List au)(O:aa)(q0:CKr):Prop:=bC [] prog 167 [.ptr 0 0,.agg (am p1),.lk (List.map au.c p2)] ⟨5,(CKr.y J 3)⟩ (λu G=>u=.agg (aa.c O)∧G=⟨6,(CKr.y q0 3)⟩)
def iI(J:CKr)(p1:Tree)(p2:List au)(O:aa)(q0:CKr):Prop:=bC [] prog 168 [.ptr 0 0,.agg (am p1),.lk (List.map au.c p2)] ⟨5,(CKr.y J 3)⟩ (λu G=>u=.agg (aa.c O)∧G=⟨6,(CKr.y q0 3)⟩)
def ij(J:CKr)(p1:Tree)(p2:List au)(O:aa)(q0:CKr):Prop:=bC [] prog 169 [.ptr 0 0,.agg (am p1),.lk (List.map au.c p2)] ⟨5,(CKr.y J 3)⟩ (λu G=>u=.agg (aa.c O)∧G=⟨6,(CKr.y q0 3)⟩)
def kX(J:CKr)(p1:(aa×aa))(O:aa)(q0:CKr):Prop:=bC [] prog 184 [.ptr 0 0,.agg [qi p1.1.simple,qi p1.1.lists,qi p1.2.simple,qi p1.2.lists]] ⟨5,(CKr.y J 3)⟩ (λu G=>u=.agg (aa.c O)∧G=⟨6,(CKr.y q0 3)⟩)
def bY(G p1:aa)(J:Bool):Prop:=qS 94 [.agg (aa.c G),.agg (aa.c p1)] (.bool J)
def li(G:List Tree)(J:Bool):Prop:=qS 22 [.row 4 (kidsV G)] (.bool J)
def kx(G J:Tree)(O:Int):Prop:=qS 133 [.agg (am G)] (.tup [.agg (am J),qi O])
def oD(J:(List (List Int)))(O:List Int):Prop:=bC [] prog 98 [.row 1 (List.map (λl=>V.row 1 (List.map (V.int .i64) l)) J)] ⟨0,[]⟩ (λu G=>u=.sl 0∧G=⟨1,[(0,.row 3 1 (List.map (V.int .i64) O))]⟩)
def nP(J p1:List Int)(O:Bool):Prop:=bC [0] prog 136 [.sl 0,.row 1 (List.map (V.int .i64) p1)] ⟨1,[(0,.row 3 1 (List.map (V.int .i64) J))]⟩ (λu G=>u=.bool O∧G=⟨1,[(0,.row 3 1 (List.map (V.int .i64) J))]⟩)
def tI(G:Tree)(p1:List Int)(J:Tree)(O:Bool):Prop:=qS 50 [.agg (am G),.row 1 (List.map (V.int .i64) p1)] (.tup [.agg (am J),.bool O])
def aE(G:CKr)(p1:Int)(p2:List Int)(q0:CKr):Prop:=bC [] prog 57 [.ptr 0 0,qi p1,.row 1 (List.map (V.int .i64) p2)] ⟨5,(CKr.y G 3)⟩ (CKr.v q0)
def iw(J:CKr)(O:ar)(q0:CKr):Prop:=bC [] prog 99 [.ptr 0 0] ⟨5,(CKr.y J 3)⟩ (λu G=>u=.agg (ar.c O)∧G=⟨6,(CKr.y q0 3)⟩)
def cF(G:CKr)(p1:Int)(q0:CKr):Prop:=bC [] prog 54 [.ptr 0 0,qi p1] ⟨5,(CKr.y G 3)⟩ (CKr.v q0)
def aU(G q0:CKr):Prop:=bC [] prog 59 [.ptr 0 0] ⟨5,(CKr.y G 3)⟩ (CKr.v q0)
def df(G:CKr)(p1:Tree)(p2:Int)(q0:CKr):Prop:=bC [] prog 58 [.ptr 0 0,.agg (am p1),qi p2] ⟨5,(CKr.y G 3)⟩ (CKr.v q0)
def iH(J:CKr)(p1:Tree)(p2:List au)(O:aa)(q0:CKr):Prop:=bC [] prog 165 [.ptr 0 0,.agg (am p1),.lk (List.map au.c p2)] ⟨5,(CKr.y J 3)⟩ (λu G=>u=.agg (aa.c O)∧G=⟨6,(CKr.y q0 3)⟩)
theorem yy(m:Nat)(G p1:aa)(J:Bool)(h:((G.simple≠0)→((p1.simple≠0)→(!(G.simple==p1.simple&&G.lists==p1.lists))=J)∧((p1.simple=0)→false=J))∧((G.simple=0)→false=J)):bY G p1 J:=by
 refine⟨rfl,rfl,?_⟩;refine qA 18 [] func94 λK O=>?_;refine gR 3 rfl<|gFP 0 rfl rfl rfl rfl<|gR 1 rfl<|gFP 1 rfl rfl rfl rfl<|gR 9 rfl<|qBhZ 8 7 rfl rfl rfl rfl h dq ce ?_ ?_<;>intro h;refine gR 5 rfl<|qBhZ 13 12 rfl rfl rfl rfl h dq ce ?_ ?_<;>intro h;refine gR 2 rfl<|gY (v:=.bool (!(G.simple==p1.simple&&G.lists==p1.lists))) (zS (neg:=true) underlying58 (by kernel_rfl) (by kernel_rfl) (by decide) (by decide) rfl rfl (by kernel_rfl) (by kernel_rfl) rfl rfl qI qI qI qI (eI underlying3) (eI underlying3)) rfl rfl<|gR 5 rfl ?_;subst h;exact qN [.tmp 4];refine gR 8 rfl ?_;subst h;exact qN [.tmp 4];refine gR 13 rfl ?_;subst h;exact qN [.tmp 4]
def jZ(m:Nat)(G:List Tree)(a:Nat)(O:Bool):Prop:=∀(K:Ctx) (J:Nat),az K []→m≤J→qLG K f22 (λu _=>u=.bool O) (xL (ai f22)) [.loop (xL (ai f22)) J,.blk 0,.seq (xA (ai f22))] 20 (mkF 20 0 [(5,.row 4 (kidsV G)),(6,qi (G.length:Int)),(7,qi (a:Int))]) ⟨0,[]⟩
theorem wW(m:Nat)(p0:List Tree)(r0:Bool)(h:jZ m p0 0 r0):li p0 r0:=by
 refine⟨rfl,rfl,?_⟩;refine qA 20 [] func22 λK hK=>?_;exact gR 10 rfl<|gV 6 (qi (p0.length:Int)) rfl (aI (aD _)) rfl<|gLB 5 rfl (aD _) λa=>gR 4 rfl<|go_loop m<|qW hK h []
theorem qf(m:Nat)(G:List Tree)(a:Nat)(J:Bool)(h:((a<G.length)→∃b,G[a]?=some b∧((b.kind≠1)→false=J)∧((b.kind=1)→∃c,fM b c∧((c=false)→false=J)∧((c=true)→a+1≤9223372036854775807∧jZ m G (a+1) J)))∧((¬a<G.length)→true=J)):jZ (m+1) G a J:=by
 refine qj λK Z U f=>?_;refine gR 6 rfl<|qXh 8 rfl rfl rfl h cr co ?_ ?_<;>intro O h;refine gR 7 rfl ?_;obtain⟨b,d,h⟩:=h;refine gY (aG (aq d) ah rfl rfl rfl rfl) rfl rfl<|gR 11 rfl<|qXhZ 14 13 rfl rfl rfl rfl h dq ce ?_ ?_<;>intro O h;refine gR 15 rfl<|go_xloopR<|gR 2 rfl ?_;subst h;exact qN [.tmp 2];refine gR 1 rfl ?_;obtain⟨c,e,h⟩:=h;refine qC0 e rfl<|gR 4 rfl<|qXh 18 rfl rfl rfl h bt br ?_ ?_<;>intro O h;refine gR 9 rfl<|go_xloopR<|gR 2 rfl ?_;subst h;exact qN [.tmp 2];refine gR 5 rfl ?_;obtain⟨hb,h⟩:=h;exact gR 1 rfl<|gV 19 (qi ((a+1:Nat):Int)) rfl (al (by omega) (by omega)) rfl<|gR 2 rfl<|go_xloop<|qW U h [];refine gR 3 rfl<|go_xloopE<|gR 8 rfl ?_;subst h;exact qN [.tmp 2]
def jH(m:Nat)(a:Tree)(b:Nat)(J:Tree)(O:Int):Prop:=∀(K:Ctx) (G:Nat),az K []→m≤G→qLG K f133 (λu _=>u=.tup [.agg (am J),qi O]) (xB (cA (xA (ai f133)))) [.loop (xB (cA (xA (ai f133)))) G,.blk 0,.seq (xE (ai f133))] 16 (mkF 16 0 [(1,.ptr 0 0),(2,.ptr 1 0),(4,qi (b:Int))]) ⟨2,[(1,vE 0 []),(0,.var 29 (am a))]⟩
theorem sQ(m:Nat)(p0 r0:Tree)(r1:Int)(h:jH m p0 0 r0 r1):kx p0 r0 r1:=by
 refine⟨rfl,rfl,?_⟩;refine qA 16 [] func133 λK hK=>?_;exact gR 14 rfl<|go_loop m<|qW hK h [0,1]
theorem lm(m:Nat)(a:Tree)(b:Nat)(G:Tree)(J:Int)(h:((a.kind=8)→∃c,a.kids[0]?=some c∧b+1≤9223372036854775807∧jH m c (b+1) G J)∧((a.kind≠8)→a=G∧(b:Int)=J)):jH (m+1) a b G J:=by
 refine qj λK U O e=>?_;refine gR 8 rfl<|qXe 7 rfl rfl rfl h ?_ ?_<;>intro Z h;refine gR 8 rfl ?_;obtain⟨c,d,h⟩:=h;refine gY (aG (aq d) ah rfl rfl rfl rfl) rfl rfl<|gR 6 rfl ?_;obtain⟨hb,h⟩:=h;exact gR 1 rfl<|gV 13 (qi ((b+1:Nat):Int)) rfl (al (by omega) (by omega)) rfl<|gR 3 rfl<|go_xloop<|qW O h [0,1];refine gR 3 rfl<|go_xloopE<|gR 11 rfl ?_;obtain⟨rfl,rfl⟩:=h;exact go_sub (F':=(mkF 16 0 [(2,.ptr 0 0),(3,qi (b:Int))])) (H':=⟨1,[(0,vC a.kind a.text a.leads a.kids)]⟩) [1] [] rfl O pq2 (pqo1 rfl rfl) rfl<|qN [.cell 2 29,.tmp 3]
def nT(m:Nat)(J:(List (List Int)))(a b:Nat)(U:List Int):Prop:=∀(K:Ctx) (O:Nat),az K []→m≤O→qLG K f98 (λu G=>u=.sl 0∧G=⟨1,[(0,.row 3 1 (List.map (V.int .i64) U))]⟩) (xH (ai f98)) [.loop (xH (ai f98)) O,.blk 0,.seq (xE (ai f98))] 36 (mkF 36 0 [(0,.row 1 (List.map (λl=>V.row 1 (List.map (V.int .i64) l)) J)),(3,qi (a:Int)),(9,.row 1 (List.map (λl=>V.row 1 (List.map (V.int .i64) l)) J)),(10,qi (J.length:Int)),(11,qi (b:Int))]) ⟨0,[]⟩
def nL(m:Nat)(J:(List (List Int)))(a:List Int)(b:Nat)(U:List Int):Prop:=∀(K:Ctx) (O:Nat),az K []→m≤O→qLG K f98 (λu G=>u=.sl 0∧G=⟨1,[(0,.row 3 1 (List.map (V.int .i64) U))]⟩) (xD (xF (ai f98))) [.loop (xD (xF (ai f98))) O,.blk 2,.seq (xA (xE (ai f98)))] 36 (mkF 36 0 [(6,.sl 0),(25,.row 1 (List.map (λl=>V.row 1 (List.map (V.int .i64) l)) J)),(26,qi (J.length:Int)),(27,qi (b:Int))]) ⟨1,[(0,.row 3 1 (List.map (V.int .i64) a))]⟩
theorem yu(m:Nat)(p0:(List (List Int)))(r0:List Int)(h:nT m p0 0 0 r0):oD p0 r0:=by
 refine qA 36 [] func98 λK hK=>?_;exact gR 15 rfl<|gV 10 (qi (p0.length:Int)) rfl (aI (aH (λl=>V.row 1 (List.map (V.int .i64) l)) _)) rfl<|gLB 9 rfl (aH (λl=>V.row 1 (List.map (V.int .i64) l)) _) λa=>gR 4 rfl<|go_loop m<|qW hK h []
theorem na(m:Nat)(p0:(List (List Int)))(b c:Nat)(r0:List Int)(h:((c<p0.length)→∃a,p0[c]?=some a∧b+a.length≤9223372036854775807∧((((b+a.length:Nat):Int)<0)→False)∧((¬((b+a.length:Nat):Int)<0)→c+1≤9223372036854775807∧nT m p0 (b+a.length) (c+1) r0))∧((¬c<p0.length)→∃d,vd (b:Int) d∧nL m p0 d 0 r0)):nT (m+1) p0 b c r0:=by
 refine qj λK j1 hK k=>?_;refine gR 6 rfl<|qXh 12 rfl rfl rfl h cr co ?_ ?_<;>intro hd h;refine gR 7 rfl ?_;obtain⟨a,e,h⟩:=h;refine gY (aG (aw (f:=(λl=>V.row 1 (List.map (V.int .i64) l))) e) ah rfl rfl rfl rfl) rfl rfl<|gR 9 rfl<|gV 17 (qi (a.length:Int)) rfl (aI (aH (V.int .i64) _)) rfl<|gLB 16 rfl (aH (V.int .i64) _) λi=>?_;obtain⟨hb,h⟩:=h;refine gR 1 rfl<|gV 18 (qi ((b+a.length:Nat):Int)) rfl (al (by omega) (by omega)) rfl<|gR 9 rfl<|qXd 20 rfl rfl rfl h ?_ ?_<;>intro hd h;exact h.elim;refine gR 5 rfl ?_;obtain⟨hb,h⟩:=h;exact gR 1 rfl<|gV 22 (qi ((c+1:Nat):Int)) rfl (al (by omega) (by omega)) rfl<|gR 2 rfl<|go_xloop<|qW hK h [];refine gR 3 rfl<|go_xloopE<|gR 5 rfl ?_;obtain⟨d,g,h⟩:=h;refine qC g [] ?_;exact gHR 0 (List.map (V.int .i64) d) rfl (vF _ d) rfl<|gR 8 rfl<|gV 26 (qi (p0.length:Int)) rfl (aI (aH (λl=>V.row 1 (List.map (V.int .i64) l)) _)) rfl<|gLB 25 rfl (aH (λl=>V.row 1 (List.map (V.int .i64) l)) _) λj=>gR 4 rfl<|go_loop m<|qW hK h [0]
theorem nk(m:Nat)(G:(List (List Int)))(b:List Int)(a:Nat)(J:List Int)(h:((a<G.length)→∃c,G[a]?=some c∧(b++c).length≤1000000000∧a+1≤9223372036854775807∧nL m G (b++c) (a+1) J)∧((¬a<G.length)→b=J)):nL (m+1) G b a J:=by
 refine qj λK U O e=>?_;refine gR 6 rfl<|qXh 28 rfl rfl rfl h cr co ?_ ?_<;>intro Z h;refine gR 7 rfl ?_;obtain⟨c,d,h⟩:=h;refine gY (aG (aw (f:=(λl=>V.row 1 (List.map (V.int .i64) l))) d) ah rfl rfl rfl rfl) rfl rfl<|gR 7 rfl ?_;obtain⟨hb,h⟩:=h;refine gDo (.repl 0 (.row 3 1 (List.map (V.int .i64) (b++c)))) (ju ah rfl rfl rfl rfl rfl (List.map_append (f:=(V.int .i64)) (l₁:=b) (l₂:=c)).symm (by rw[aH];exact hb)) (okR rfl) rfl rfl rfl<|gR 5 rfl ?_;obtain⟨hb,h⟩:=h;exact gR 1 rfl<|gV 34 (qi ((a+1:Nat):Int)) rfl (al (by omega) (by omega)) rfl<|gR 2 rfl<|go_xloop<|qW O h [1];refine gR 3 rfl<|go_xloopE<|gR 9 rfl ?_;subst h;exact gE O [] [(2,.sl 0)] [0] [.tmp 2]
def jY(m:Nat)(J p1:List Int)(a:Nat)(U:Bool):Prop:=∀(K:Ctx) (O:Nat),az K [0]→m≤O→qLG K f136 (λu G=>u=.bool U∧G=⟨1,[(0,.row 3 1 (List.map (V.int .i64) J))]⟩) (xH (ai f136)) [.loop (xH (ai f136)) O,.blk 0,.seq (xE (ai f136))] 26 (mkF 26 0 [(0,.sl 0),(1,.row 1 (List.map (V.int .i64) p1)),(12,qi (J.length:Int)),(13,qi (a:Int))]) ⟨1,[(0,.row 3 1 (List.map (V.int .i64) J))]⟩
theorem qL(m:Nat)(p0 p1:List Int)(r0:Bool)(h:((p0.length≠p1.length)→false=r0)∧((p0.length=p1.length)→jY m p0 p1 0 r0)):nP p0 p1 r0:=by
 refine qA 26 [0] func136 λK hK=>?_;refine gR 10 rfl<|gV 7 (qi (p0.length:Int)) rfl (aI (aH (V.int .i64) _)) rfl<|gLO 0 rfl (aH (V.int .i64) _) λa=>gR 2 rfl<|gV 9 (qi (p1.length:Int)) rfl (aI (aH (V.int .i64) _)) rfl<|gLB 8 rfl (aH (V.int .i64) _) λb=>gR 3 rfl<|qXh 10 rfl rfl rfl h xr xh ?_ ?_<;>intro hd h;refine gR 8 rfl ?_;subst h;exact gE hK [] [(4,.bool false)] [0] [.tmp 4];exact gR 8 rfl<|gV 12 (qi (p0.length:Int)) rfl (aI (aH (V.int .i64) _)) rfl<|gR 4 rfl<|go_loop m<|qW hK h [0]
theorem qc(m:Nat)(G p1:List Int)(a:Nat)(J:Bool)(h:((a<G.length)→∃b,G[a]?=some b∧∃c,p1[a]?=some c∧((b≠c)→false=J)∧((b=c)→a+1≤9223372036854775807∧jY m G p1 (a+1) J))∧((¬a<G.length)→true=J)):jY (m+1) G p1 a J:=by
 refine qj λK Z O g=>?_;refine gR 6 rfl<|qXh 14 rfl rfl rfl h cr co ?_ ?_<;>intro U h;refine gR 12 rfl<|qDs [0] 8 9<|qDr [(0,2),(1,2)] rfl rfl ?_;obtain⟨b,d,h⟩:=h;refine gYd 2 rfl (by kernel_rfl) (yIO ah rfl rfl rfl rfl (qG (aw (f:=(V.int .i64)) d))) rfl rfl ?_;refine qD 3 rfl (by kernel_rfl) rfl ah rfl rfl rfl (aw (f:=(V.int .i64)) d) rfl rfl ?_;refine qDr [(4,2),(5,0)] rfl rfl ?_;obtain⟨c,e,h⟩:=h;refine bU 6 rfl (by kernel_rfl) (aG (aw (f:=(V.int .i64)) e) ah rfl rfl rfl rfl) rfl rfl ?_;refine qDr [(7,0),(8,1)] rfl rfl<|qDe<|gR 1 rfl<|qXh 24 rfl rfl rfl h dq ce ?_ ?_<;>intro U h;refine gR 9 rfl<|go_xloopR<|gR 2 rfl ?_;subst h;exact gE O [] [(4,.bool false)] [0] [.tmp 4];refine gR 5 rfl ?_;obtain⟨hb,h⟩:=h;exact gR 1 rfl<|gV 25 (qi ((a+1:Nat):Int)) rfl (al (by omega) (by omega)) rfl<|gR 2 rfl<|go_xloop<|qW O h [0];refine gR 3 rfl<|go_xloopE<|gR 8 rfl ?_;subst h;exact gE O [] [(4,.bool true)] [0] [.tmp 4]
def oN(m:Nat)(p1:List Int)(a:Tree)(b:Nat)(J:Tree)(O:Bool):Prop:=∀(K:Ctx) (G:Nat),az K []→m≤G→qLG K f50 (λu _=>u=.tup [.agg (am J),.bool O]) (xL (ai f50)) [.loop (xL (ai f50)) G,.blk 0,.seq (xA (ai f50))] 31 (mkF 31 0 [(2,.ptr 0 0),(4,.ptr 1 0),(8,.row 1 (List.map (V.int .i64) p1)),(9,qi (p1.length:Int)),(10,qi (b:Int))]) ⟨2,[(1,vE 0 []),(0,.var 29 (am a))]⟩
theorem Bb(m:Nat)(p0:Tree)(p1:List Int)(r0:Tree)(r1:Bool)(h:oN m p1 p0 0 r0 r1):tI p0 p1 r0 r1:=by
 refine⟨rfl,rfl,?_⟩;refine qA 31 [] func50 λK hK=>?_;exact gR 12 rfl<|gV 9 (qi (p1.length:Int)) rfl (aI (aH (V.int .i64) _)) rfl<|gLB 8 rfl (aH (V.int .i64) _) λa=>gR 4 rfl<|go_loop m<|qW hK h [0,1]
theorem vj(m:Nat)(p1:List Int)(a:Tree)(b:Nat)(G:Tree)(J:Bool)(h:((b<p1.length)→∃c,p1[b]?=some c∧((c<0)→(Tree.node 0 [] [] [])=G∧false=J)∧((¬c<0)→(((a.kids.length:Int)≤c)→(Tree.node 0 [] [] [])=G∧false=J)∧((¬(a.kids.length:Int)≤c)→∃d,c=((d:Nat):Int)∧∃e,a.kids[d]?=some e∧b+1≤9223372036854775807∧oN m p1 e (b+1) G J)))∧((¬b<p1.length)→a=G∧true=J)):oN (m+1) p1 a b G J:=by
 refine qj λK Z O k=>?_;refine gR 6 rfl<|qXh 11 rfl rfl rfl h cr co ?_ ?_<;>intro U h;refine gR 7 rfl ?_;obtain⟨c,g,h⟩:=h;refine gY (aG (aw (f:=(V.int .i64)) g) ah rfl rfl rfl rfl) rfl rfl<|gR 10 rfl<|qXdZ 16 15 rfl rfl rfl rfl h ?_ ?_<;>intro U h;refine gR 20 rfl<|go_xloopR<|gR 2 rfl ?_;obtain⟨rfl,rfl⟩:=h;exact go_sub (F':=(mkF 31 0 [(4,.ptr 0 0),(5,.bool false)])) (H':=⟨1,[(0,vC ((Tree.node 0 [] [] []).kind) ((Tree.node 0 [] [] []).text) ((Tree.node 0 [] [] []).leads) ((Tree.node 0 [] [] []).kids))]⟩) [1] [] rfl O pq2 ⟨⟨_,rfl,rfl,(.cons .rfl (.cons .rfl (.cons (.nil 1) (.cons (.nil 4) .nil))))⟩,trivial⟩ rfl<|qN [.cell 4 29,.tmp 5];refine gR 4 rfl<|gV 20 (qi (a.kids.length:Int)) rfl (aI (aD _)) rfl<|gLB 19 rfl (aD _) λl=>gR 4 rfl<|qXd 22 rfl rfl rfl h ?_ ?_<;>intro U h;refine gR 12 rfl<|go_xloopR<|gR 2 rfl ?_;obtain⟨rfl,rfl⟩:=h;exact go_sub (F':=(mkF 31 0 [(4,.ptr 0 0),(5,.bool false)])) (H':=⟨1,[(0,vC ((Tree.node 0 [] [] []).kind) ((Tree.node 0 [] [] []).text) ((Tree.node 0 [] [] []).leads) ((Tree.node 0 [] [] []).kids))]⟩) [1] [] rfl O pq2 ⟨⟨_,rfl,rfl,(.cons .rfl (.cons .rfl (.cons (.nil 1) (.cons (.nil 4) .nil))))⟩,trivial⟩ rfl<|qN [.cell 4 29,.tmp 5];refine gR 7 rfl ?_;obtain⟨d,j,h⟩:=h;refine gV 26 (qi ((d:Nat):Int)) rfl (aK j) rfl ?_;obtain⟨e,i,h⟩:=h;refine gY (aG (aq i) ah rfl rfl rfl rfl) rfl rfl<|gR 6 rfl ?_;obtain⟨hb,h⟩:=h;exact gR 1 rfl<|gV 29 (qi ((b+1:Nat):Int)) rfl (al (by omega) (by omega)) rfl<|gR 2 rfl<|go_xloop<|qW O h [0,1];refine gR 3 rfl<|go_xloopE<|gR 10 rfl ?_;obtain⟨rfl,rfl⟩:=h;exact go_sub (F':=(mkF 31 0 [(4,.ptr 0 0),(5,.bool true)])) (H':=⟨1,[(0,vC a.kind a.text a.leads a.kids)]⟩) [1] [] rfl O pq2 (pqo1 rfl rfl) rfl<|qN [.cell 4 29,.tmp 5]
theorem rS_typing_checker_fault(m:Nat)(G:CKr)(p1:Int)(p2:List Int)(q0:CKr)(h:∃a,oD [G.path,p2] a∧(G.faults++[(ac.mk (bw.mk G.module a) p1)]).length≤1000000000∧{G with faults:=(G.faults++[(ac.mk (bw.mk G.module a) p1)])}=q0):aE G p1 p2 q0:=by
 refine qA 31 [2,1,0] func57 λK J=>?_;refine gR 8 rfl ?_;obtain⟨a,b,h⟩:=h;refine Pi 5 b (by kernel_rfl) rfl rfl rfl rfl rfl (lV _ (λ_=>rfl) _) rfl rfl ?_;refine gR 3 rfl<|qDs [0] 17 18<|qDr (qR 0 4 2 ((4,3)::(qR 5 3 2 [(8,3),(9,2),(10,2),(11,0),(12,0)]))) rfl rfl<|gFR 6 rfl (lV _ (λ_=>rfl) _) rfl rfl<|qDr [(13,0)] rfl rfl ?_;obtain⟨hb,h⟩:=h;refine cb 14 (.repl 4 (.row 47 3 (List.map ac.w (G.faults++[(ac.mk (bw.mk G.module a) p1)])))) rfl (by kernel_rfl) (ju ah rfl rfl rfl rfl rfl (apM ac.w G.faults (ac.mk (bw.mk G.module a) p1)) (by rw[aH];exact hb)) (okR rfl) rfl (by kernel_rfl) rfl rfl ?_;refine qDr [(15,0),(16,0),(17,1)] rfl rfl<|qDe ?_;subst h;exact gE J [] [] [0,1,2,3,8] []
theorem ug(m:Nat)(G:CKr)(J:ar)(q0:CKr)(h:∃a,G.targets[0]?=some a∧1≤G.targets.length∧a=J∧{G with targets:=(G.targets.drop 1)}=q0):iw G J q0:=by
 refine qA 19 [2,1,0] func99 λK O=>?_;refine gR 11 rfl ?_;obtain⟨a,b,h⟩:=h;refine gY (aG (aw (f:=ar.w) b) ah rfl rfl rfl rfl) rfl rfl<|gR 12 rfl ?_;obtain⟨hb,h⟩:=h;refine gY (IY (aH ar.w G.targets) ah rfl rfl (xe rfl) xy hb (Nat.le_refl _) ((Pk _ _ _ _).trans (congrArg _ (yl _ _)))) rfl rfl<|gR 12 rfl ?_;obtain⟨rfl,rfl⟩:=h;exact gE O [(5,.var 151 (ar.c a))] [(2,.ptr 5 0)] [0,1,2,3,4,5] [.cell 2 151]
theorem sL(m:Nat)(G:CKr)(p1:Int)(q0:CKr)(h:(G.path++[p1]).length≤1000000000∧{G with path:=(G.path++[p1])}=q0):cF G p1 q0:=by
 refine qA 14 [2,1,0] func54 λK J=>?_;refine gR 8 rfl ?_;obtain⟨hb,h⟩:=h;refine gDo (.repl 3 (.row 3 1 (List.map (V.int .i64) (G.path++[p1])))) (ju ah rfl rfl rfl rfl rfl (apM (V.int .i64) G.path p1) (by rw[aH];exact hb)) (okR rfl) rfl rfl rfl<|gR 4 rfl ?_;subst h;exact gE J [] [] [0,1,2,6,4] []
theorem sI(m:Nat)(G q0:CKr)(h:∃a,((G.path.length:Int)-1)=((a:Nat):Int)∧a≤G.path.length∧{G with path:=(G.path.take a)}=q0):aU G q0:=by
 refine qA 16 [2,1,0] func59 λK J=>?_;refine qDs [0] 14 15<|qDr (qR 0 4 2 ((4,3)::(qR 5 5 0 []))) rfl rfl<|gV 11 (qi (G.path.length:Int)) rfl (aI (aH (V.int .i64) _)) rfl<|gLO 3 rfl (aH (V.int .i64) _) λc=>qDr [(10,0)] rfl rfl<|gV 12 (qi ((G.path.length:Int)-1)) rfl (al (by have :=c;omega) rfl) rfl ?_;obtain⟨a,b,h⟩:=h;refine gV 12 (qi ((a:Nat):Int)) rfl (aK b) rfl ?_;obtain⟨hb,h⟩:=h;refine cb 11 (.repl 3 (.row 3 1 (List.map (V.int .i64) (G.path.take a)))) rfl (by kernel_rfl) (dTr ah rfl rfl rfl rfl (by rw[aH];exact hb) (Kk _ _ _)) (okR rfl) rfl (by kernel_rfl) rfl rfl ?_;refine qDr [(12,0),(13,0),(14,1)] rfl rfl<|qDe ?_;subst h;exact gE J [] [] [0,1,2,5,4] []
theorem hV(m:Nat)(J:CKr)(p1:Tree)(p2:Int)(q0:CKr)(h:∃d,cF J p2 d∧∃k,p2=((k:Nat):Int)∧∃a,p1.kids[k]?=some a∧((a.kind=9)→∃l e,iw d l e∧((l.Free=true)→∃f,aE e 1 [] f∧∃g,aU f g∧g=q0)∧((l.Free=false)→∃i,aU e i∧i=q0))∧((a.kind≠9)→((a.kind=8)→∃j,df d a 0 j∧∃b,aU j b∧b=q0)∧((a.kind≠8)→∃c,aU d c∧c=q0))):df J p1 p2 q0:=by
 refine qA 31 [2,1,0] func58 λK G=>?_;refine gR 3 rfl<|gFP 5 rfl rfl rfl rfl<|gR 6 rfl ?_;obtain⟨d,y,h⟩:=h;refine qC y [0,1,2,3,4] ?_;refine qHX ⟨11,(CKr.y d 9)⟩<|gR 7 rfl ?_;obtain⟨k,p,h⟩:=h;refine gV 12 (qi ((k:Nat):Int)) rfl (aK p) rfl ?_;obtain⟨a,n,h⟩:=h;refine gY (aG (aq n) ah rfl rfl rfl rfl) rfl rfl<|gR 19 rfl<|qBeZ 17 18 rfl rfl rfl rfl h ?_ ?_<;>intro h;refine gR 4 rfl ?_;obtain⟨l,e,q,h⟩:=h;refine qC q [0,1,2,9,10] ?_;refine qHX ⟨18,(CKr.z e [(11,.var 29 (am a))] 15)⟩<|gR 3 rfl<|qBi 21 rfl rfl rfl h ?_ ?_<;>intro h;refine gR 3 rfl ?_;obtain⟨f,r,h⟩:=h;refine qC r [0,1,2,15,16] (hs:=(.cons .rfl (.cons .rfl (.cons (.nil 1) .nil)))) ?_;refine qHX ⟨23,(CKr.z f [(11,.var 29 (am a))] 21)⟩<|gR 5 rfl ?_;obtain⟨g,s,h⟩:=h;refine qC s [0,1,2,21,22] ?_;refine qHX ⟨28,(CKr.z g [(11,.var 29 (am a))] 26)⟩<|gR 1 rfl ?_;subst h;exact gE G [] [] [0,1,2,26,27] [];refine gR 6 rfl ?_;obtain⟨i,t,h⟩:=h;refine qC t [0,1,2,15,16] ?_;refine qHX ⟨23,(CKr.z i [(11,.var 29 (am a))] 21)⟩<|gR 1 rfl ?_;subst h;exact gE G [] [] [0,1,2,21,22] [];refine gR 7 rfl<|qBeZ 24 25 rfl rfl rfl rfl h ?_ ?_<;>intro h;refine gR 4 rfl ?_;obtain⟨j,v,h⟩:=h;refine qC v [0,1,2,9,10] ?_;refine qHX ⟨17,(CKr.z j [(11,.var 29 (am a))] 15)⟩<|gR 5 rfl ?_;obtain⟨b,w,h⟩:=h;refine qC w [0,1,2,15,16] ?_;refine qHX ⟨22,(CKr.z b [(11,.var 29 (am a))] 20)⟩<|gR 1 rfl ?_;subst h;exact gE G [] [] [0,1,2,20,21] [];refine gR 6 rfl ?_;obtain⟨c,x,h⟩:=h;refine qC x [0,1,2,9,10] ?_;refine qHX ⟨17,(CKr.z c [(11,.var 29 (am a))] 15)⟩<|gR 1 rfl ?_;subst h;exact gE G [] [] [0,1,2,15,16] []
def eR(m:Nat)(O:CKr)(p1:Tree)(a:List au)(U:aa)(q0:CKr):Prop:=∀(K:Ctx) (J:Nat),az K [2,1,0]→m≤J→qLG K f165 (λu G=>u=.agg (aa.c U)∧G=⟨6,(CKr.y q0 3)⟩) (xL (ai f165)) [.loop (xL (ai f165)) J,.blk 0,.seq (xA (ai f165))] 29 (mkF 29 0 [(0,.ptr 0 0),(4,.box (am p1) 0),(6,.ptr 3 0),(7,.lk (List.map au.c a))]) ⟨6,(CKr.z O [(3,vB 0 0)] 4)⟩
theorem rS_typing_checker_variable(m:Nat)(p0:CKr)(p1:Tree)(p2:List au)(r0:aa)(q0:CKr)(h:eR m p0 p1 p2 r0 q0):iH p0 p1 p2 r0 q0:=by
 refine qA 29 [2,1,0] func165 λK hK=>?_;exact gR 3 rfl<|gFP 5 rfl rfl rfl rfl<|gR 11 rfl<|go_loop m<|qW hK h [0,1,2,6,3,4]
theorem kM(m:Nat)(G:CKr)(p1:Tree)(e:List au)(J:aa)(q0:CKr)(h:((e=[])→∃b,aE G 1 [] b∧(aa.mk 0 0)=J∧b=q0)∧(∀(a:au) (d:List au),e=a::d→((a.name=p1.text)→a.typ=J∧G=q0)∧((a.name≠p1.text)→eR m G p1 d J q0))):eR (m+1) G p1 e J q0:=by
 refine qj λK U O g=>?_;refine gR 4 rfl ?_;rcases e with _|⟨a,d⟩
 replace h:=h.1 rfl;refine gS 7 (.nilp) rfl Nw rfl<|gS 9 (.nilp) rfl Nw rfl<|gY (Pg underlying138 rfl) rfl rfl<|gR 5 rfl<|go_xloopE<|gR 5 rfl ?_;obtain⟨b,f,h⟩:=h;refine qC f [0,1,2,4,5] (hs:=(.cons .rfl (.cons .rfl (.cons (.nil 1) .nil)))) ?_;refine qHX ⟨11,(CKr.z b [(3,vB 0 0)] 9)⟩<|gR 9 rfl ?_;obtain⟨rfl,rfl⟩:=h;exact gE O [(5,.var 58 (aa.c (aa.mk 0 0)))] [(6,.ptr 5 0)] [0,1,2,9,10,3] [.cell 6 58];replace h:=h.2 a d rfl;refine gS 7 (.box [.str a.name,qi a.typ.simple,qi a.typ.lists,.lk (List.map au.c d)] 0) rfl (Nc rfl) rfl<|gS 9 (.box [.str a.name,qi a.typ.simple,qi a.typ.lists,.lk (List.map au.c d)] 0) rfl (Nc rfl) rfl<|gY (Pp underlying138 rfl) rfl rfl<|gR 8 rfl<|qDs [] 7 7<|qDr (qR 0 4 2 (qR 4 3 0 [])) rfl rfl<|qDe<|gR 1 rfl<|qXe 21 rfl rfl rfl h ?_ ?_<;>intro Z h;refine gR 13 rfl<|go_xloopR<|gR 2 rfl ?_;obtain⟨rfl,rfl⟩:=h;exact gE O [(5,.var 58 (aa.c a.typ))] [(6,.ptr 5 0)] [0,1,2,4,5,3] [.cell 6 58];exact gR 11 rfl<|go_xloop<|qW O h [0,1,2,3,4,5]
theorem kD(m:Nat)(O:CKr)(p1:Tree)(p2:Int)(p3:List au)(G:aa)(q0:CKr)(h:∃d,cF O p2 d∧∃i,p2=((i:Nat):Int)∧∃k,p1.kids[i]?=some k∧∃b a,gL d k p3 b a∧((a.module=a.wanted_Module)→∃j,nP a.path a.wanted_Path j∧((j=true)→∃e,aU ({a with result_simple:=b.simple,result_lists:=b.lists}) e∧b=G∧e=q0)∧((j=false)→∃f,aU a f∧b=G∧f=q0))∧((a.module≠a.wanted_Module)→∃g,aU a g∧b=G∧g=q0)):bi O p1 p2 p3 G q0:=by
 refine qA 50 [2,1,0] func95 λK J=>?_;refine gR 3 rfl<|gFP 5 rfl rfl rfl rfl<|gR 7 rfl ?_;obtain⟨d,s,h⟩:=h;refine qC s [0,1,2,3,4] ?_;refine qHX ⟨12,(CKr.z d [(6,vB 0 0)] 10)⟩<|gR 8 rfl ?_;obtain⟨i,n,h⟩:=h;refine gV 16 (qi ((i:Nat):Int)) rfl (aK n) rfl ?_;obtain⟨k,l,h⟩:=h;refine gY (aG (aq l) ah rfl rfl rfl rfl) rfl rfl<|gR 2 rfl ?_;obtain⟨b,a,t,h⟩:=h;refine qC t [0,1,2,10,11] ?_;refine qHX ⟨18,(CKr.z a [(6,vB 0 0)] 15)⟩<|gR 6 rfl<|qDs [0] 22 22<|qDr (qR 0 3 2 ((3,3)::(qR 4 7 0 []))) rfl rfl<|qBeZ 31 30 rfl rfl rfl rfl h ?_ ?_<;>intro h;refine qDr (qR 11 3 2 ((14,3)::(qR 15 5 0 []))) rfl rfl ?_;obtain⟨j,v,h⟩:=h;refine qDC 20 v [15] rfl ?_;refine qHX ⟨20,((18,.var 58 (aa.c b))::CKr.z a [(6,vB 0 0)] 15)⟩<|qDr [(21,0)] rfl rfl<|qDe<|gR 1 rfl<|qBi 42 rfl rfl rfl h ?_ ?_<;>intro h;refine gR 9 rfl<|go_sub (F':=(mkF 50 0 [(0,.ptr 0 0),(8,.ptr 3 0),(9,.ptr 4 0)])) (H':=⟨7,[(6,CKr.faults_o a),(5,CKr.path_o a),(4,.var 58 (aa.c b)),(3,vB 0 0),(2,CKr.signatures_o a),(1,CKr.names_o a),(0,CKr.o {a with result_simple:=b.simple,result_lists:=b.lists} 1 2 5 6)]⟩) [0,1,2,6,18,15,16] [2,1,0] rfl J pq3 ⟨⟨_,rfl,rfl,rfl,(vG _ a.faults).symm⟩,⟨_,rfl,rfl,rfl,(vF _ a.path).symm⟩,pqo rfl rfl,pqo rfl rfl,⟨_,rfl,rfl,rfl,rfl,rfl⟩,⟨_,rfl,rfl,rfl,rfl,rfl⟩,(pqo1 rfl rfl)⟩ rfl<|gR 3 rfl ?_;obtain⟨e,p,h⟩:=h;refine qC p [0,1,2,5,6] ?_;refine qHX ⟨12,(CKr.z e [(4,.var 58 (aa.c b)),(3,vB 0 0)] 10)⟩<|gR 9 rfl ?_;obtain⟨rfl,rfl⟩:=h;exact gE J [(5,.var 58 (aa.c b))] [(8,.ptr 5 0)] [0,1,2,10,11,3] [.cell 8 58];refine gR 6 rfl ?_;obtain⟨f,q,h⟩:=h;refine qC q [0,1,2,15,16] ?_;refine qHX ⟨25,(CKr.z f [(18,.var 58 (aa.c b)),(6,vB 0 0)] 23)⟩<|gR 9 rfl ?_;obtain⟨rfl,rfl⟩:=h;exact gE J [(5,.var 58 (aa.c b))] [(8,.ptr 5 0)] [0,1,2,23,24,6] [.cell 8 58];refine qDr (qR 11 4 2 (qR 15 7 0 [])) rfl rfl<|qDe<|gR 7 rfl ?_;obtain⟨g,r,h⟩:=h;refine qC r [0,1,2,15,16] ?_;refine qHX ⟨24,(CKr.z g [(18,.var 58 (aa.c b)),(6,vB 0 0)] 22)⟩<|gR 9 rfl ?_;obtain⟨rfl,rfl⟩:=h;exact gE J [(5,.var 58 (aa.c b))] [(8,.ptr 5 0)] [0,1,2,22,23,6] [.cell 8 58]
def dS(m:Nat)(J:CKr)(p1:Tree)(p2:List au)(a:Bool)(O:aa)(q0:CKr):Prop:=∀(K:Ctx),az K [2,1,0]→qLG K f135 (λu G=>u=.agg (aa.c O)∧G=⟨6,(CKr.y q0 3)⟩) (cB (xJ (cK (xC (cB (ai f135)))))) [.blk 0,.seq (xA (ai f135))] 72 (mkF 72 0 [(0,.ptr 0 0),(2,.lk (List.map au.c p2)),(4,.box (am p1) 0),(6,.ptr 3 0),(9,qi p1.kind),(16,.bool a)]) ⟨6,(CKr.z J [(3,vB 0 0)] 4)⟩
theorem gv(m:Nat)(J:CKr)(p1:Tree)(p2:List au)(O:aa)(q0:CKr)(h:((p1.kind=10)→(aa.mk 5 0)=O∧J=q0)∧((p1.kind≠10)→((p1.kind=11)→(aa.mk 6 0)=O∧J=q0)∧((p1.kind≠11)→((p1.kind=13)→dS m J p1 p2 true O q0)∧((p1.kind≠13)→dS m J p1 p2 (p1.kind==14) O q0)))):gL J p1 p2 O q0:=by
 refine qA 72 [2,1,0] func135 λK G=>?_;refine gR 3 rfl<|gFP 5 rfl rfl rfl rfl<|gR 17 rfl<|qBeZ 10 11 rfl rfl rfl rfl h ?_ ?_<;>intro h;refine gR 10 rfl ?_;obtain⟨rfl,rfl⟩:=h;exact gE G [(5,.var 58 (aa.c (aa.mk 5 0)))] [(6,.ptr 5 0)] [0,1,2,3,4,6] [.cell 6 58];refine gR 7 rfl<|qBeZ 13 14 rfl rfl rfl rfl h ?_ ?_<;>intro h;refine gR 10 rfl ?_;obtain⟨rfl,rfl⟩:=h;exact gE G [(5,.var 58 (aa.c (aa.mk 6 0)))] [(6,.ptr 5 0)] [0,1,2,3,4,6] [.cell 6 58];refine gR 8 rfl<|qBeZ 16 17 rfl rfl rfl rfl h ?_ ?_<;>intro h;exact gR 3 rfl<|qJ G (h K G) [0,1,2,6,3,4];exact gR 6 rfl<|qJ G (h K G) [0,1,2,6,3,4]
theorem ba(m:Nat)(G:CKr)(p1:Tree)(p2:List au)(v:Bool)(J:aa)(q0:CKr)(h:((v=true)→(aa.mk 7 0)=J∧G=q0)∧((v=false)→((p1.kind=12)→∃p f,iH G p1 p2 p f∧p=J∧f=q0)∧((p1.kind≠12)→((p1.kind=16)→∃q g,kB G p1 p2 q g∧q=J∧g=q0)∧((p1.kind≠16)→((p1.kind=18)→∃r i,og G p1 p2 r i∧r=J∧i=q0)∧((p1.kind≠18)→((p1.kind=19)→∃s j,iI G p1 p2 s j∧s=J∧j=q0)∧((p1.kind≠19)→((p1.kind=20)→∃t a,bi G p1 0 p2 t a∧∃k b,bi a p1 1 (au.mk p1.text t::p2) k b∧k=J∧b=q0)∧((p1.kind≠20)→((p1.kind=21)→∃l d,ij G p1 p2 l d∧l=J∧d=q0)∧((p1.kind≠21)→((p1.kind=22)→∃n e,bi G p1 0 p2 n e∧n=J∧e=q0)∧((p1.kind≠22)→(aa.mk 0 0)=J∧G=q0))))))))):dS (m+1) G p1 p2 v J q0:=by
 intro K O;refine qBi 16 rfl rfl rfl h ?_ ?_<;>intro h;refine gR 10 rfl ?_;obtain⟨rfl,rfl⟩:=h;exact gE O [(5,.var 58 (aa.c (aa.mk 7 0)))] [(6,.ptr 5 0)] [0,1,2,4,5,3] [.cell 6 58];refine gR 7 rfl<|qBeZ 20 21 rfl rfl rfl rfl h ?_ ?_<;>intro h;refine gR 6 rfl ?_;obtain⟨p,f,w,h⟩:=h;refine qC w [0,1,2,4,5] ?_;refine qHX ⟨12,(CKr.z f [(3,vB 0 0)] 9)⟩<|gR 6 rfl ?_;obtain⟨rfl,rfl⟩:=h;exact gE O [(5,.var 58 (aa.c p))] [(6,.ptr 5 0)] [0,1,2,9,10,3] [.cell 6 58];refine gR 7 rfl<|qBeZ 26 27 rfl rfl rfl rfl h ?_ ?_<;>intro h;refine gR 6 rfl ?_;obtain⟨q,g,x,h⟩:=h;refine qC x [0,1,2,4,5] ?_;refine qHX ⟨12,(CKr.z g [(3,vB 0 0)] 9)⟩<|gR 6 rfl ?_;obtain⟨rfl,rfl⟩:=h;exact gE O [(5,.var 58 (aa.c q))] [(6,.ptr 5 0)] [0,1,2,9,10,3] [.cell 6 58];refine gR 7 rfl<|qBeZ 32 33 rfl rfl rfl rfl h ?_ ?_<;>intro h;refine gR 6 rfl ?_;obtain⟨r,i,y,h⟩:=h;refine qC y [0,1,2,4,5] ?_;refine qHX ⟨12,(CKr.z i [(3,vB 0 0)] 9)⟩<|gR 6 rfl ?_;obtain⟨rfl,rfl⟩:=h;exact gE O [(5,.var 58 (aa.c r))] [(6,.ptr 5 0)] [0,1,2,9,10,3] [.cell 6 58];refine gR 7 rfl<|qBeZ 38 39 rfl rfl rfl rfl h ?_ ?_<;>intro h;refine gR 6 rfl ?_;obtain⟨s,j,z,h⟩:=h;refine qC z [0,1,2,4,5] ?_;refine qHX ⟨12,(CKr.z j [(3,vB 0 0)] 9)⟩<|gR 6 rfl ?_;obtain⟨rfl,rfl⟩:=h;exact gE O [(5,.var 58 (aa.c s))] [(6,.ptr 5 0)] [0,1,2,9,10,3] [.cell 6 58];refine gR 7 rfl<|qBeZ 44 45 rfl rfl rfl rfl h ?_ ?_<;>intro h;refine gR 6 rfl ?_;obtain⟨t,a,α,h⟩:=h;refine qC α [0,1,2,4,5] ?_;refine qHX ⟨12,(CKr.z a [(3,vB 0 0)] 9)⟩<|gR 14 rfl<|gFP 13 rfl rfl rfl rfl ?_;obtain⟨k,b,β,h⟩:=h;refine qC β [0,1,2,9,10] (hs:=(.cons .rfl (.cons .rfl (.cons .rfl (.cons (lkC rfl) .nil))))) ?_;refine qHX ⟨20,(CKr.z b [(12,.var 58 (aa.c t)),(3,vB 0 0)] 17)⟩<|gR 6 rfl ?_;obtain⟨rfl,rfl⟩:=h;exact gE O [(5,.var 58 (aa.c k))] [(6,.ptr 5 0)] [0,1,2,17,18,3] [.cell 6 58];refine gR 7 rfl<|qBeZ 59 60 rfl rfl rfl rfl h ?_ ?_<;>intro h;refine gR 6 rfl ?_;obtain⟨l,d,γ,h⟩:=h;refine qC γ [0,1,2,4,5] ?_;refine qHX ⟨12,(CKr.z d [(3,vB 0 0)] 9)⟩<|gR 6 rfl ?_;obtain⟨rfl,rfl⟩:=h;exact gE O [(5,.var 58 (aa.c l))] [(6,.ptr 5 0)] [0,1,2,9,10,3] [.cell 6 58];refine gR 7 rfl<|qBeZ 65 66 rfl rfl rfl rfl h ?_ ?_<;>intro h;refine gR 6 rfl ?_;obtain⟨n,e,δ,h⟩:=h;refine qC δ [0,1,2,4,5] ?_;refine qHX ⟨12,(CKr.z e [(3,vB 0 0)] 9)⟩<|gR 6 rfl ?_;obtain⟨rfl,rfl⟩:=h;exact gE O [(5,.var 58 (aa.c n))] [(6,.ptr 5 0)] [0,1,2,9,10,3] [.cell 6 58];refine gR 11 rfl ?_;obtain⟨rfl,rfl⟩:=h;exact gE O [(5,.var 58 (aa.c (aa.mk 0 0)))] [(6,.ptr 5 0)] [0,1,2,4,5,3] [.cell 6 58]
def gW:KeyT prog 176 (Int×(List UInt8)) (λx=>V.agg [(V.int .i64 x.1),(V.str x.2)]):=ON (λx=>x.1) (λx=>x.2) (λx y h1 h2=>Prod.ext h1 h2) underlying176 (by kernel_rfl) (by decide) (by decide) rfl rfl underlying3 underlying9
def dj:KeyT prog 100 (Int×Int) (λx=>V.agg [(V.int .i64 x.1),(V.int .i64 x.2)]):=Kr (λx=>x.1) (λx=>x.2) (λx y h1 h2=>Prod.ext h1 h2) underlying100 (by kernel_rfl) (by decide) (by decide) rfl rfl underlying3 underlying3
def jn(J:List Tree)(O:CKr):Prop:=bC [] prog 24 [.row 4 (kidsV J)] ⟨0,[]⟩ (λu G=>u=.ptr 0 0∧G=⟨5,(CKr.y O 3)⟩)
def je(m:Nat)(J:CKr)(p1:Int)(a:Tree)(b d e:Int)(f:Bool)(O:aa)(q0:CKr):Prop:=∀(K:Ctx),az K [2,1,0]→Go prog K (bodyPost prog f93 (SP K (λu G=>u=.agg (aa.c O)∧G=⟨6,(CKr.y q0 3)⟩))) (.ex .normal) [.seq (xA (xE (ai f93)))] 79 (mkF 79 0 [(0,.ptr 0 0),(1,qi p1),(6,.ptr 3 0),(7,.ptr 4 0),(8,qi b),(9,.ptr 5 0),(10,.ptr 6 0),(11,.bool f)]) ⟨9,(CKr.z J [(6,vB d e),(5,.var 176 [qi p1,.str a.text]),(4,.var 29 (am a)),(3,vB 0 0)] 7)⟩
def mL(m:Nat)(J:CKr)(p1:Int)(a:Tree)(b d e:Int)(f:Tree)(g:Int)(O:aa)(q0:CKr):Prop:=∀(K:Ctx),az K [2,1,0]→Go prog K (bodyPost prog f93 (SP K (λu G=>u=.agg (aa.c O)∧G=⟨6,(CKr.y q0 3)⟩))) (.ex .normal) [.seq (cB (xN (xA (xE (ai f93))))),.seq (xF (xA (ai f93)))] 79 (mkF 79 0 [(0,.ptr 0 0),(6,.ptr 3 0),(8,qi b),(9,.ptr 4 0),(10,.ptr 5 0),(12,.ptr 6 0),(13,qi g)]) ⟨9,(CKr.z J [(6,.var 29 (am f)),(5,vB d e),(4,.var 176 [qi p1,.str a.text]),(3,vB 0 0)] 7)⟩
theorem jd(m:Nat)(G:CKr)(p1:Int)(p2:Tree)(O:aa)(q0:CKr)(h:∃a b,kx p2 a b∧((a.kind≠9)→(aa.mk a.kind b)=O∧G=q0)∧((a.kind=9)→((aC (p1,a.text) G.names=none)→je m G p1 a b 0 0 false O q0)∧(∀(d:aa),aC (p1,a.text) G.names=some d→je m G p1 a b d.simple d.lists true O q0))):ga G p1 p2 O q0:=by
 refine qA 79 [2,1,0] func93 λK J=>?_;refine gR 3 rfl<|gFP 5 rfl rfl rfl rfl<|gR 6 rfl ?_;obtain⟨a,b,e,h⟩:=h;refine qC0 e rfl<|gR 16 rfl<|qBh 23 rfl rfl rfl h dq ce ?_ ?_<;>intro h;refine gR 12 rfl ?_;obtain⟨rfl,rfl⟩:=h;exact gE J [(5,.var 58 (aa.c (aa.mk a.kind b)))] [(6,.ptr 5 0)] [0,1,2,3,4,6] [.cell 6 58];refine gR 14 rfl<|qDs [0,8] 10 12<|qDr (qR 0 3 2 [(3,3),(4,3)]) rfl rfl ?_;rcases c:aC (p1,a.text) G.names with _|d
 replace h:=h.1 c;apply bH (i:=5) (j:=9) (by kernel_rfl) rfl rfl rfl rfl;exact(qe (.nop) (sp gW (encV:=aa.w) (k:=(p1,a.text)) (l:=G.names) (zv:=.agg [qi 0,qi 0]) c underlying55 zeroValue58 (by kernel_rfl) rfl rfl rfl rfl) trivial (by kernel_rfl));exact(bg ah rfl rfl);exact qDr (qR 6 3 2 [(9,0),(10,1),(11,1)]) rfl rfl<|qDe<|qJ J (h K J) [0,1,2,6,7,8,9,3,4];refine cb 5 (.nop) rfl (by kernel_rfl) (sp gW (encV:=aa.w) (k:=(p1,a.text)) (l:=G.names) (zv:=.agg [qi 0,qi 0]) c underlying55 zeroValue58 (by kernel_rfl) rfl rfl rfl rfl) trivial rfl (by kernel_rfl) rfl rfl ?_;exact qDr [(6,0),(7,2),(8,2),(10,1),(11,1)] rfl rfl<|qDe<|qJ J (h K J) [0,1,2,6,7,8,9,3,4];replace h:=h.2 d c;apply bH (i:=5) (j:=9) (by kernel_rfl) rfl rfl rfl rfl;exact(qe (.nop) (sx gW (encV:=aa.w) (k:=(p1,a.text)) (l:=G.names) (zv:=.agg [qi 0,qi 0]) c underlying55 zeroValue58 (by kernel_rfl) rfl rfl rfl rfl) trivial (by kernel_rfl));exact(bg ah rfl rfl);exact qDr (qR 6 3 2 [(9,0),(10,1),(11,1)]) rfl rfl<|qDe<|qJ J (h K J) [0,1,2,6,7,8,9,3,4];refine cb 5 (.nop) rfl (by kernel_rfl) (sx gW (encV:=aa.w) (k:=(p1,a.text)) (l:=G.names) (zv:=.agg [qi 0,qi 0]) c underlying55 zeroValue58 (by kernel_rfl) rfl rfl rfl rfl) trivial rfl (by kernel_rfl) rfl rfl ?_;exact qDr [(6,0),(7,2),(8,2),(10,1),(11,1)] rfl rfl<|qDe<|qJ J (h K J) [0,1,2,6,7,8,9,3,4]
theorem mc(m:Nat)(J:CKr)(p1:Int)(d:Tree)(c a b:Int)(e:Bool)(O:aa)(q0:CKr)(h:((e=false)→∃f g,pG J.p p1 d f g∧mL m J p1 d c a b f g O q0)∧((e=true)→((a≠0)→InI (b+c)∧(aa.mk a (b+c))=O∧J=q0)∧((a=0)→(aa.mk a b)=O∧J=q0))):je (m+1) J p1 d c a b e O q0:=by
 intro K G;refine gR 8 rfl<|qBh 42 rfl rfl rfl h bt br ?_ ?_<;>intro h;refine gR 2 rfl<|qDs [0,4] 11 13<|qDr (qR 0 3 2 [(3,3),(4,2),(5,3)]) rfl rfl ?_;obtain⟨f,g,k,h⟩:=h;apply bH (i:=6) (j:=10) (by kernel_rfl) rfl rfl rfl rfl;exact(cg (L':=[0,4]) (by kernel_rfl) rfl rfl (pS k .rfl [0,4] rfl) (.inl rfl));exact(bg ah rfl rfl);exact qDr (qR 7 3 2 [(10,0),(11,1),(12,1)]) rfl rfl<|qDe<|qJ G (h K G) [0,1,2,3,5,6,9,7,8];refine eU 6 k (by kernel_rfl) rfl (by kernel_rfl) rfl rfl .rfl rfl rfl ?_;exact qDr [(7,0),(8,2),(9,2),(11,1),(12,1)] rfl rfl<|qDe<|qJ G (h K G) [0,1,2,3,5,6,9,7,8];refine gR 11 rfl<|qBh 72 rfl rfl rfl h dq ce ?_ ?_<;>intro h;refine gR 5 rfl ?_;obtain⟨hb,h⟩:=h;refine gR 1 rfl<|gV 76 (qi (b+c)) rfl (al hb rfl) rfl<|gR 11 rfl ?_;obtain⟨rfl,rfl⟩:=h;exact gE G [(5,.var 58 (aa.c (aa.mk a (b+c))))] [(6,.ptr 5 0)] [0,1,2,7,8,3] [.cell 6 58];refine gR 10 rfl ?_;obtain⟨rfl,rfl⟩:=h;exact gE G [(5,.var 58 (aa.c (aa.mk a b)))] [(6,.ptr 5 0)] [0,1,2,7,8,3] [.cell 6 58]
theorem rc(m:Nat)(G:CKr)(p1:Int)(f:Tree)(g c e:Int)(j:Tree)(i:Int)(J:aa)(q0:CKr)(h:((i=0)→∃a b,kx j a b∧((a.kind≠0)→InI (b+g)∧(aa.mk a.kind (b+g))=J∧{G with names:=(bI (p1,f.text) (aa.mk a.kind b) G.names)}=q0)∧((a.kind=0)→(aa.mk a.kind b)=J∧{G with names:=(bI (p1,f.text) (aa.mk a.kind b) G.names)}=q0))∧((i≠0)→((c≠0)→InI (e+g)∧(aa.mk c (e+g))=J∧{G with names:=(bI (p1,f.text) (aa.mk c e) G.names)}=q0)∧((c=0)→(aa.mk c e)=J∧{G with names:=(bI (p1,f.text) (aa.mk c e) G.names)}=q0))):mL (m+1) G p1 f g c e j i J q0:=by
 intro K O;refine gR 8 rfl<|qBe 54 rfl rfl rfl h ?_ ?_<;>intro h;refine gR 4 rfl ?_;obtain⟨a,b,n,h⟩:=h;refine qC0 n rfl<|gR 16 rfl<|qDs [0,4,5] 6 7<|qDr (qR 0 3 2 [(3,3),(4,3),(5,0)]) rfl rfl<|cb 6 (.set 1 (.mp 176 58 (List.map (λp=>(λx=>V.agg [(V.int .i64 x.1),(V.str x.2)]) p.1) (bI (p1,f.text) (aa.mk a.kind b) G.names)) (List.map (λp=>aa.w p.2) (bI (p1,f.text) (aa.mk a.kind b) G.names)))) rfl (by kernel_rfl) (vP gW (encV:=aa.w) (k:=(p1,f.text)) (d:=(aa.mk a.kind b)) (l:=G.names) underlying55 rfl rfl rfl rfl rfl rfl rfl rfl) (okM rfl) rfl (by kernel_rfl) rfl rfl<|qDe<|gR 9 rfl<|qBh 72 rfl rfl rfl h dq ce ?_ ?_<;>intro h;refine gR 5 rfl ?_;obtain⟨hb,h⟩:=h;refine gR 1 rfl<|gV 76 (qi (b+g)) rfl (al hb rfl) rfl<|gR 11 rfl ?_;obtain⟨rfl,rfl⟩:=h;exact gE O [(5,.var 58 (aa.c (aa.mk a.kind (b+g))))] [(6,.ptr 5 0)] [0,1,2,7,8,3] [.cell 6 58];refine gR 10 rfl ?_;obtain⟨rfl,rfl⟩:=h;exact gE O [(5,.var 58 (aa.c (aa.mk a.kind b)))] [(6,.ptr 5 0)] [0,1,2,7,8,3] [.cell 6 58];refine gR 3 rfl<|qDs [0,4,5] 6 7<|qDr (qR 0 3 2 [(3,3),(4,3),(5,0)]) rfl rfl<|cb 6 (.set 1 (.mp 176 58 (List.map (λp=>(λx=>V.agg [(V.int .i64 x.1),(V.str x.2)]) p.1) (bI (p1,f.text) (aa.mk c e) G.names)) (List.map (λp=>aa.w p.2) (bI (p1,f.text) (aa.mk c e) G.names)))) rfl (by kernel_rfl) (vP gW (encV:=aa.w) (k:=(p1,f.text)) (d:=(aa.mk c e)) (l:=G.names) underlying55 rfl rfl rfl rfl rfl rfl rfl rfl) (okM rfl) rfl (by kernel_rfl) rfl rfl<|qDe<|gR 9 rfl<|qBh 72 rfl rfl rfl h dq ce ?_ ?_<;>intro h;refine gR 5 rfl ?_;obtain⟨hb,h⟩:=h;refine gR 1 rfl<|gV 76 (qi (e+g)) rfl (al hb rfl) rfl<|gR 11 rfl ?_;obtain⟨rfl,rfl⟩:=h;exact gE O [(5,.var 58 (aa.c (aa.mk c (e+g))))] [(6,.ptr 5 0)] [0,1,2,7,8,3] [.cell 6 58];refine gR 10 rfl ?_;obtain⟨rfl,rfl⟩:=h;exact gE O [(5,.var 58 (aa.c (aa.mk c e)))] [(6,.ptr 5 0)] [0,1,2,7,8,3] [.cell 6 58]
def gD(m:Nat)(p1:Int)(p2:Tree)(b:Nat)(a:CKr)(d:List aa)(e:Nat)(O:ak)(q0:CKr):Prop:=∀(K:Ctx) (J:Nat),az K [2,1,0]→m≤J→qLG K f53 (λu G=>u=.agg (ak.c O)∧G=⟨6,(CKr.y q0 3)⟩) (xG (ai f53)) [.loop (xG (ai f53)) J,.blk 0,.seq (xF (ai f53))] 47 (mkF 47 0 [(0,.ptr 0 0),(1,qi p1),(5,.box (am p2) 0),(6,.ptr 3 0),(7,.ptr 4 0),(8,qi ((p2.kids.length:Int)-2)),(18,.row 4 (kidsV (p2.kids.take b))),(19,qi (((p2.kids.take b).length:Nat):Int)),(20,qi (e:Int))]) ⟨8,((7,.row 58 2 (List.map aa.w d))::CKr.z a [(4,.var 97 [.sl 7,qi 0,qi 0]),(3,.var 97 [.nils,qi 0,qi 0])] 5)⟩
theorem tK(m:Nat)(p0:CKr)(p1:Int)(p2:Tree)(r0:ak)(q0:CKr)(h:∃a,((p2.kids.length:Int)-2)=((a:Nat):Int)∧a≤p2.kids.length∧gD m p1 p2 a p0 ([]:List aa) 0 r0 q0):kv p0 p1 p2 r0 q0:=by
 refine qA 47 [2,1,0] func53 λK hK=>?_;refine gR 3 rfl<|gFP 5 rfl rfl rfl rfl<|gR 13 rfl<|gV 13 (qi (p2.kids.length:Int)) rfl (aI (aD _)) rfl<|gLB 12 rfl (aD _) λc=>gR 1 rfl<|gV 14 (qi ((p2.kids.length:Int)-2)) rfl (al (by have :=c;omega) rfl) rfl<|gR 9 rfl ?_;obtain⟨a,b,h⟩:=h;refine gV 17 (qi ((a:Nat):Int)) rfl (aK b) rfl ?_;obtain⟨hb',h⟩:=h;exact gY (IY (aD p2.kids) ah rfl rfl xy (xe rfl) (Nat.zero_le _) hb' (((MO _ _ _).trans (congrArg _ (uF _ _))))) rfl rfl<|gR 1 rfl<|gV 19 (qi (((p2.kids.take a).length:Nat):Int)) rfl (aI (aD _)) rfl<|gLB 18 rfl (aD _) λd=>gR 4 rfl<|go_loop m<|gNC 7 0 58 2 rfl rfl rfl rfl<|qW hK h [0,1,2,6,7,3,4,8]
theorem mV(m:Nat)(p1:Int)(p2:Tree)(g:Nat)(k:CKr)(a:List aa)(d:Nat)(G:ak)(q0:CKr)(h:((d<((p2.kids.take g).length))→∃i,(p2.kids.take g)[d]?=some i∧∃l,i.kids[0]?=some l∧∃e b,ga k p1 l e b∧(a++[e]).length≤1000000000∧d+1≤9223372036854775807∧gD m p1 p2 g b (a++[e]) (d+1) G q0)∧((¬d<((p2.kids.take g).length))→∃j,((p2.kids.length:Int)-2)=((j:Nat):Int)∧∃n,p2.kids[j]?=some n∧∃f c,ga k p1 n f c∧(ak.mk a f)=G∧c=q0)):gD (m+1) p1 p2 g k a d G q0:=by
 refine qj λK O J x=>?_;refine gR 6 rfl<|qXh 21 rfl rfl rfl h cr co ?_ ?_<;>intro U h;refine gR 7 rfl ?_;obtain⟨i,p,h⟩:=h;refine gY (aG (aq p) ah rfl rfl rfl rfl) rfl rfl<|gR 5 rfl<|qDs [4,8] 12 13<|qDr [(0,2),(1,3),(2,2),(3,2),(4,0),(5,0)] rfl rfl ?_;obtain⟨l,q,h⟩:=h;refine bU 6 rfl (by kernel_rfl) (aG (aq q) ah rfl rfl rfl rfl) rfl rfl ?_;refine qDr [(7,0)] rfl rfl ?_;obtain⟨e,b,t,h⟩:=h;refine qDC 8 t [0,1,2,5,6] rfl ?_;refine qHX ⟨15,(CKr.z b [(8,.var 29 (am i)),(7,.row 58 2 (List.map aa.w a)),(4,.var 97 [.sl 7,qi 0,qi 0]),(3,.var 97 [.nils,qi 0,qi 0])] 12)⟩<|qDr [(9,0)] rfl rfl ?_;obtain⟨hb,h⟩:=h;refine cb 10 (.repl 7 (.row 58 2 (List.map aa.w (a++[e])))) rfl (by kernel_rfl) (ju ah rfl rfl rfl rfl rfl (apM aa.w a e) (by rw[aH];exact hb)) (okR rfl) rfl (by kernel_rfl) rfl rfl ?_;refine qDr [(11,0),(12,1)] rfl rfl<|qDe<|gR 3 rfl ?_;obtain⟨hb,h⟩:=h;exact gR 1 rfl<|gV 36 (qi ((d+1:Nat):Int)) rfl (al (by omega) (by omega)) rfl<|gR 2 rfl<|go_xloop<|qW J h [0,1,2,3,4,12,13,16];refine gR 3 rfl<|go_xloopE<|gR 9 rfl ?_;obtain⟨j,s,h⟩:=h;refine gV 41 (qi ((j:Nat):Int)) rfl (aK s) rfl ?_;obtain⟨n,r,h⟩:=h;refine gY (aG (aq r) ah rfl rfl rfl rfl) rfl rfl<|gR 1 rfl ?_;obtain⟨f,c,v,h⟩:=h;refine qC v [0,1,2,5,6] ?_;refine qHX ⟨14,(CKr.z c [(7,.row 58 2 (List.map aa.w a)),(4,.var 97 [.sl 7,qi 0,qi 0]),(3,.var 97 [.nils,qi 0,qi 0])] 11)⟩<|gR 11 rfl<|gFR 7 rfl (lV _ (λ_=>rfl) _) rfl rfl ?_;obtain⟨rfl,rfl⟩:=h;exact gE J [(5,.var 97 [.row 2 (List.map aa.w ((ak.mk a f).params)),qi (((ak.mk a f).result).simple),qi (((ak.mk a f).result).lists)])] [(6,.ptr 5 0)] [0,1,2,11,12,3] [.cell 6 97]
def fN(m:Nat)(J:List Tree)(b:Nat)(a U:CKr):Prop:=∀(K:Ctx) (O:Nat),az K []→m≤O→qLG K f24 (λu G=>u=.ptr 0 0∧G=⟨5,(CKr.y U 3)⟩) (xH (ai f24)) [.loop (xH (ai f24)) O,.blk 0,.seq (xE (ai f24))] 47 (mkF 47 0 [(3,.ptr 0 0),(15,.row 4 (kidsV J)),(16,qi (J.length:Int)),(17,qi (b:Int))]) ⟨5,(CKr.y a 3)⟩
def fT(m:Nat)(J:List Tree)(b:Tree)(e:Nat)(a:CKr)(c d:Nat)(Z:CKr):Prop:=∀(K:Ctx) (O U:Nat),az K []→m≤O→m≤U→qLG K f24 (λu G=>u=.ptr 0 0∧G=⟨5,(CKr.y Z 3)⟩) (xB (xA (xK (xA (xH (ai f24)))))) [.loop (xB (xA (xK (xA (xH (ai f24)))))) O,.blk 2,.blk 1,.seq (xE (xH (ai f24))),.loop (xH (ai f24)) U,.blk 0,.seq (xE (ai f24))] 47 (mkF 47 0 [(3,.ptr 0 0),(4,qi (c:Int)),(15,.row 4 (kidsV J)),(16,qi (J.length:Int)),(17,qi (d:Int)),(23,.row 4 (kidsV b.kids)),(24,qi (b.kids.length:Int)),(25,qi (e:Int))]) ⟨5,(CKr.y a 3)⟩
def ou(m:Nat)(J:List Tree)(b:Tree)(a:CKr)(c d e:Nat)(Z:CKr):Prop:=∀(K:Ctx) (O U:Nat),az K []→m≤O→m≤U→Go prog K (bodyPost prog f24 (SP K (λu G=>u=.ptr 0 0∧G=⟨5,(CKr.y Z 3)⟩))) (.ex .normal) [.blk 3,.seq (xE (xB (xA (xK (xA (xH (ai f24))))))),.loop (xB (xA (xK (xA (xH (ai f24)))))) O,.blk 2,.blk 1,.seq (xE (xH (ai f24))),.loop (xH (ai f24)) U,.blk 0,.seq (xE (ai f24))] 47 (mkF 47 0 [(3,.ptr 0 0),(4,qi (c:Int)),(15,.row 4 (kidsV J)),(16,qi (J.length:Int)),(17,qi (d:Int)),(23,.row 4 (kidsV b.kids)),(24,qi (b.kids.length:Int)),(25,qi (e:Int))]) ⟨5,(CKr.y a 3)⟩
theorem uM(m:Nat)(p0:List Tree)(r0:CKr)(h:∃a,mT p0 a∧fN m p0 0 (CKr.mk p0 a ([]:(List ((Int×(List UInt8))×aa))) ([]:(List ((Int×Int)×ak))) 0 ([]:List Int) ([]:List ac) 0 [] 0 0) r0):jn p0 r0:=by
 refine qA 47 [] func24 λK hK=>?_;refine gR 9 rfl ?_;obtain⟨a,b,h⟩:=h;refine qC0 b rfl<|gDo (.new (.mp 176 58 [] [])) (dMM 176 58) trivial rfl rfl rfl<|gHM 0 (List.map (λp=>(λx=>V.agg [(V.int .i64 x.1),(V.str x.2)]) p.1) ([]:(List ((Int×(List UInt8))×aa)))) (List.map (λp=>aa.w p.2) ([]:(List ((Int×(List UInt8))×aa)))) rfl rfl rfl rfl<|gDo (.new (.mp 100 97 [] [])) (dMM 100 97) trivial rfl rfl rfl<|gHM 1 (List.map (λp=>(λx=>V.agg [(V.int .i64 x.1),(V.int .i64 x.2)]) p.1) ([]:(List ((Int×Int)×ak)))) (List.map (λp=>ak.w p.2) ([]:(List ((Int×Int)×ak)))) rfl rfl rfl rfl<|gR 10 rfl<|gV 16 (qi (p0.length:Int)) rfl (aI (aD _)) rfl ?_;exact gLB 15 rfl (aD _) λc=>gR 4 rfl<|go_loop m<|gNC 2 5 3 1 rfl rfl rfl rfl<|gNC 2 6 47 3 rfl rfl rfl rfl<|qJH hK (h K _ hK (by omega)) [2,0,1,3,4] ⟨⟨_,rfl,⟨rfl,rfl,rfl⟩⟩,⟨⟨_,rfl,⟨rfl,rfl,rfl⟩⟩,⟨⟨_,rfl,⟨rfl,rfl,rfl,rfl⟩⟩,⟨⟨_,rfl,⟨rfl,rfl,rfl,rfl⟩⟩,⟨⟨_,rfl,⟨rfl,(.cons .rfl (.cons .rfl (.cons .rfl (.cons .rfl (.cons .rfl (.cons .rfl (.cons .rfl (.cons .rfl (.cons (.nil 1) (.cons .rfl (.cons .rfl .nil)))))))))))⟩⟩,trivial⟩⟩⟩⟩⟩
theorem nV(m:Nat)(p0:List Tree)(a:Nat)(b r0:CKr)(h:((a<p0.length)→∃c,p0[a]?=some c∧fT m p0 c 0 b a a r0)∧((¬a<p0.length)→b=r0)):fN (m+1) p0 a b r0:=by
 refine qj λK j1 hK f=>?_;refine gR 6 rfl<|qXh 18 rfl rfl rfl h cr co ?_ ?_<;>intro hd h;refine gR 8 rfl ?_;obtain⟨c,d,h⟩:=h;exact gY (aG (aq d) ah rfl rfl rfl rfl) rfl rfl<|gR 11 rfl<|gV 24 (qi (c.kids.length:Int)) rfl (aI (aD _)) rfl<|gLB 23 rfl (aD _) λe=>gR 4 rfl<|go_loop m<|qJ hK (h K _ _ hK (by omega) (by omega)) [0,1,2,3,4];refine gR 3 rfl<|go_xloopE<|gR 9 rfl ?_;subst h;exact gE hK [] [(2,.ptr 0 0)] [0,1,2,3,4] [.tmp 2]
theorem kq(m:Nat)(J:List Tree)(q:Tree)(c:Nat)(e:CKr)(b n:Nat)(O:CKr)(h:((c<q.kids.length)→∃g,q.kids[c]?=some g∧((g.kind=2)→∃f a,kv e (b:Int) g f a∧ou m J q ({a with signatures:=(bI ((b:Int),(c:Int)) f a.signatures)}) b n c O)∧((g.kind≠2)→c+1≤9223372036854775807∧fT m J q (c+1) e b n O))∧((¬c<q.kids.length)→n+1≤9223372036854775807∧fN m J (n+1) e O)):fT (m+1) J q c e b n O:=by
 intro K U Z G v y;obtain⟨U,rfl⟩:∃j,U=j+1:=⟨U-1,by omega⟩;obtain⟨Z,rfl⟩:∃j,Z=j+1:=⟨Z-1,by omega⟩;refine gR 6 rfl<|qXh 26 rfl rfl rfl h cr co ?_ ?_<;>intro hd h;refine gR 8 rfl ?_;obtain⟨g,r,h⟩:=h;refine gY (aG (aq r) ah rfl rfl rfl rfl) rfl rfl<|gR 13 rfl<|qXe 32 rfl rfl rfl h ?_ ?_<;>intro hd h;refine gR 1 rfl<|qDs [] 12 12<|qDr (qR 0 3 2 (qR 4 5 2 [])) rfl rfl ?_;apply bH (i:=3) (j:=9) (by kernel_rfl) rfl rfl rfl rfl;exact(bg ah rfl rfl);exact(bg ah rfl rfl);refine qDr [(9,0)] rfl rfl ?_;obtain⟨f,a,t,h⟩:=h;refine qDC 10 t [0,1,2,3,4] rfl ?_;refine qHX ⟨12,(CKr.z a [(5,.var 29 (am g))] 9)⟩<|cb 11 (.set 2 (.mp 100 97 (List.map (λp=>(λx=>V.agg [(V.int .i64 x.1),(V.int .i64 x.2)]) p.1) (bI ((b:Int),(c:Int)) f a.signatures)) (List.map (λp=>ak.w p.2) (bI ((b:Int),(c:Int)) f a.signatures)))) rfl (by kernel_rfl) (vP dj (encV:=ak.w) (k:=((b:Int),(c:Int))) (d:=f) (l:=a.signatures) underlying56 rfl rfl rfl rfl rfl rfl rfl rfl) (okM rfl) rfl (by kernel_rfl) rfl rfl ?_;exact qDe<|qJ G (h K _ _ G (by omega) (by omega)) [0,1,2,9,10];obtain⟨f,a,s,h⟩:=h;apply bH (i:=3) (j:=10) (by kernel_rfl) rfl rfl rfl rfl;exact(bg ah rfl rfl);exact(cg (L':=[]) (by kernel_rfl) rfl rfl (fW (H:=⟨6,((5,.var 29 (am g))::CKr.y e 3)⟩) s [0,1,2,3,4] .rfl ⟨⟨_,rfl,⟨rfl,rfl,(vG _ e.faults).symm⟩⟩,⟨⟨_,rfl,⟨rfl,rfl,(vF _ e.path).symm⟩⟩,⟨⟨_,rfl,⟨rfl,rfl,rfl,rfl⟩⟩,⟨⟨_,rfl,⟨rfl,rfl,rfl,rfl⟩⟩,⟨⟨_,rfl,⟨rfl,be.rfl⟩⟩,trivial⟩⟩⟩⟩⟩ rfl [] rfl) (.inl rfl));refine qDC 10 s [0,1,2,3,4] rfl ?_;refine qHX ⟨12,(CKr.z a [(5,.var 29 (am g))] 9)⟩<|cb 11 (.set 2 (.mp 100 97 (List.map (λp=>(λx=>V.agg [(V.int .i64 x.1),(V.int .i64 x.2)]) p.1) (bI ((b:Int),(c:Int)) f a.signatures)) (List.map (λp=>ak.w p.2) (bI ((b:Int),(c:Int)) f a.signatures)))) rfl (by kernel_rfl) (vP dj (encV:=ak.w) (k:=((b:Int),(c:Int))) (d:=f) (l:=a.signatures) underlying56 rfl rfl rfl rfl rfl rfl rfl rfl) (okM rfl) rfl (by kernel_rfl) rfl rfl ?_;exact qDe<|qJ G (h K _ _ G (by omega) (by omega)) [0,1,2,9,10];refine qHX ⟨12,(CKr.z a [(5,.var 29 (am g))] 9)⟩<|qDr [(3,0)] rfl rfl<|cb 11 (.set 2 (.mp 100 97 (List.map (λp=>(λx=>V.agg [(V.int .i64 x.1),(V.int .i64 x.2)]) p.1) (bI ((b:Int),(c:Int)) f a.signatures)) (List.map (λp=>ak.w p.2) (bI ((b:Int),(c:Int)) f a.signatures)))) rfl (by kernel_rfl) (vP dj (encV:=ak.w) (k:=((b:Int),(c:Int))) (d:=f) (l:=a.signatures) underlying56 rfl rfl rfl rfl rfl rfl rfl rfl) (okM rfl) rfl (by kernel_rfl) rfl rfl ?_;exact qDe<|qJ G (h K _ _ G (by omega) (by omega)) [0,1,2,9,10];refine gR 5 rfl ?_;obtain⟨hb,h⟩:=h;exact gR 1 rfl<|gV 44 (qi ((c+1:Nat):Int)) rfl (al (by omega) (by omega)) rfl<|gR 2 rfl<|go_xloop<|qJ G (h K _ _ G (by omega) (by omega)) [0,1,2,3,4];refine gR 3 rfl<|go_xloopE<|gR 4 rfl ?_;obtain⟨hb,h⟩:=h;exact gR 1 rfl<|gV 45 (qi ((n+1:Nat):Int)) rfl (al (by omega) (by omega)) rfl<|gR 2 rfl<|go_xloop<|qW G h [0,1,2,3,4]
theorem tU(m:Nat)(O:List Tree)(b:Tree)(c:CKr)(d e a:Nat)(U:CKr)(h:a+1≤9223372036854775807∧fT m O b (a+1) c d e U):ou (m+1) O b c d e a U:=by
 intro K G J Z f g;obtain⟨G,rfl⟩:∃j,G=j+1:=⟨G-1,by omega⟩;obtain⟨J,rfl⟩:∃j,J=j+1:=⟨J-1,by omega⟩;refine gR 3 rfl ?_;obtain⟨hb,h⟩:=h;exact gR 1 rfl<|gV 44 (qi ((a+1:Nat):Int)) rfl (al (by omega) (by omega)) rfl<|gR 2 rfl<|go_xloop<|qJ Z (h K _ _ Z (by omega) (by omega)) [0,1,2,3,4]
def L0_typing_checker_call(m:Nat)(p1:Tree)(p2:List au)(a:CKr)(b:List aa)(d e:Int)(f:Nat)(O:aa)(q0:CKr):Prop:=∀(K:Ctx) (J:Nat),az K [2,1,0]→m≤J→qLG K f166 (λu G=>u=.agg (aa.c O)∧G=⟨6,(CKr.y q0 3)⟩) (xD (xF (ai f166))) [.loop (xD (xF (ai f166))) J,.blk 0,.seq (xA (xE (ai f166)))] 75 (mkF 75 0 [(0,.ptr 0 0),(2,.lk (List.map au.c p2)),(6,.ptr 3 0),(8,.ptr 4 0),(38,.row 4 (kidsV p1.kids)),(39,qi (p1.kids.length:Int)),(40,qi (f:Int))]) ⟨7,(CKr.z a [(4,.var 97 [.row 2 (List.map aa.w b),qi d,qi e]),(3,vB 0 0)] 5)⟩
theorem tH(m:Nat)(p0:CKr)(p1:Tree)(p2:List au)(r0:aa)(q0:CKr)(h:∃b a,iw p0 b a∧((b.Free=true)→∃e,aE a 1 [] e∧L0_typing_checker_call m p1 p2 e [] 0 0 0 r0 q0)∧((b.Free=false)→((aC (b.Module,b.Def) a.signatures=none)→((0≠(p1.kids.length:Int))→∃f,aE a 3 [] f∧L0_typing_checker_call m p1 p2 f [] 0 0 0 r0 q0)∧((0=(p1.kids.length:Int))→L0_typing_checker_call m p1 p2 a [] 0 0 0 r0 q0))∧(∀(d:ak),aC (b.Module,b.Def) a.signatures=some d→((d.params.length≠p1.kids.length)→∃g,aE a 3 [] g∧L0_typing_checker_call m p1 p2 g d.params d.result.simple d.result.lists 0 r0 q0)∧((d.params.length=p1.kids.length)→L0_typing_checker_call m p1 p2 a d.params d.result.simple d.result.lists 0 r0 q0)))):kB p0 p1 p2 r0 q0:=by
 refine qA 75 [2,1,0] func166 λK hK=>?_;refine gR 3 rfl<|gFP 5 rfl rfl rfl rfl<|gR 6 rfl ?_;obtain⟨b,a,j,h⟩:=h;refine qC j [0,1,2,3,4] ?_;refine qHX ⟨13,(CKr.z a [(6,vB 0 0)] 10)⟩<|gR 16 rfl<|qXi 15 rfl rfl rfl h ?_ ?_<;>intro hd h;refine gR 3 rfl ?_;obtain⟨e,n,h⟩:=h;refine qC n [0,1,2,10,11] (hs:=(.cons .rfl (.cons .rfl (.cons (.nil 1) .nil)))) ?_;exact qHX ⟨20,(CKr.z e [(14,.var 97 [.nils,qi 0,qi 0]),(13,.var 151 (ar.c b)),(6,vB 0 0)] 18)⟩<|gR 8 rfl<|gV 39 (qi (p1.kids.length:Int)) rfl (aI (aD _)) rfl<|gLB 38 rfl (aD _) λr=>gR 4 rfl<|go_loop m<|qJH hK (h K _ hK (by omega)) [0,1,2,6,14,18,19] ⟨⟨_,rfl,⟨rfl,rfl,(vG _ e.faults).symm⟩⟩,⟨⟨_,rfl,⟨rfl,rfl,(vF _ e.path).symm⟩⟩,⟨⟨_,rfl,⟨rfl,(.cons (.nil 2) (.cons .rfl (.cons .rfl .nil)))⟩⟩,⟨⟨_,rfl,⟨rfl,be.rfl⟩⟩,⟨⟨_,rfl,⟨rfl,rfl,rfl,rfl⟩⟩,⟨⟨_,rfl,⟨rfl,rfl,rfl,rfl⟩⟩,⟨⟨_,rfl,⟨rfl,be.rfl⟩⟩,trivial⟩⟩⟩⟩⟩⟩⟩;refine gR 2 rfl<|qDs [0,13] 10 11<|qDr (qR 0 3 2 ((3,3)::(4,2)::(5,3)::(qR 6 3 0 []))) rfl rfl ?_;rcases i:aC (b.Module,b.Def) a.signatures with _|d
 replace h:=h.1 i;refine cb (v:=some (.agg [.nils,qi 0,qi 0])) 9 (.nop) rfl (by kernel_rfl) (sp dj (encV:=ak.w) (k:=(b.Module,b.Def)) (l:=a.signatures) (zv:=.agg [.nils,qi 0,qi 0]) i underlying56 zeroValue97 (by kernel_rfl) rfl rfl rfl rfl) trivial rfl (by kernel_rfl) rfl rfl ?_;refine qDr [(10,1)] rfl rfl<|qDe<|gR 9 rfl<|gV 33 (qi (p1.kids.length:Int)) rfl (aI (aD _)) rfl<|gLB 32 rfl (aD _) λs=>gR 3 rfl<|qXh 34 rfl rfl rfl h dq ce ?_ ?_<;>intro hd h;refine gR 3 rfl ?_;obtain⟨f,p,h⟩:=h;refine qC p [0,1,2,10,11] (hs:=(.cons .rfl (.cons .rfl (.cons (.nil 1) .nil)))) ?_;exact qHX ⟨20,(CKr.z f [(14,.var 97 [.nils,qi 0,qi 0]),(13,.var 151 (ar.c b)),(6,vB 0 0)] 18)⟩<|gR 8 rfl<|gV 39 (qi (p1.kids.length:Int)) rfl (aI (aD _)) rfl<|gR 4 rfl<|go_loop m<|qJH hK (h K _ hK (by omega)) [0,1,2,6,14,18,19] ⟨⟨_,rfl,⟨rfl,rfl,(vG _ f.faults).symm⟩⟩,⟨⟨_,rfl,⟨rfl,rfl,(vF _ f.path).symm⟩⟩,⟨⟨_,rfl,⟨rfl,(.cons (.nil 2) (.cons .rfl (.cons .rfl .nil)))⟩⟩,⟨⟨_,rfl,⟨rfl,be.rfl⟩⟩,⟨⟨_,rfl,⟨rfl,rfl,rfl,rfl⟩⟩,⟨⟨_,rfl,⟨rfl,rfl,rfl,rfl⟩⟩,⟨⟨_,rfl,⟨rfl,be.rfl⟩⟩,trivial⟩⟩⟩⟩⟩⟩⟩;exact gR 9 rfl<|gV 39 (qi (p1.kids.length:Int)) rfl (aI (aD _)) rfl<|gR 4 rfl<|go_loop m<|qJH hK (h K _ hK (by omega)) [0,1,2,6,14,10,11] ⟨⟨_,rfl,⟨rfl,rfl,(vG _ a.faults).symm⟩⟩,⟨⟨_,rfl,⟨rfl,rfl,(vF _ a.path).symm⟩⟩,⟨⟨_,rfl,⟨rfl,(.cons (.nil 2) (.cons .rfl (.cons .rfl .nil)))⟩⟩,⟨⟨_,rfl,⟨rfl,be.rfl⟩⟩,⟨⟨_,rfl,⟨rfl,rfl,rfl,rfl⟩⟩,⟨⟨_,rfl,⟨rfl,rfl,rfl,rfl⟩⟩,⟨⟨_,rfl,⟨rfl,be.rfl⟩⟩,trivial⟩⟩⟩⟩⟩⟩⟩;replace h:=h.2 d i;refine cb (v:=some (.agg (ak.c d))) 9 (.nop) rfl (by kernel_rfl) (sx dj (encV:=ak.w) (k:=(b.Module,b.Def)) (l:=a.signatures) (zv:=.agg [.nils,qi 0,qi 0]) i underlying56 zeroValue97 (by kernel_rfl) rfl rfl rfl rfl) trivial rfl (by kernel_rfl) rfl rfl ?_;refine qDr [(10,1)] rfl rfl<|qDe<|gR 6 rfl<|gV 30 (qi (d.params.length:Int)) rfl (aI (aH aa.w _)) rfl<|gLB 29 rfl (aH aa.w _) λt=>gR 3 rfl<|gV 33 (qi (p1.kids.length:Int)) rfl (aI (aD _)) rfl<|gLB 32 rfl (aD _) λx=>gR 3 rfl<|qXh 34 rfl rfl rfl h xr xh ?_ ?_<;>intro hd h;refine gR 3 rfl ?_;obtain⟨g,q,h⟩:=h;refine qC q [0,1,2,10,11] (hs:=(.cons .rfl (.cons .rfl (.cons (.nil 1) .nil)))) ?_;exact qHX ⟨20,(CKr.z g [(14,.var 97 (ak.c d)),(13,.var 151 (ar.c b)),(6,vB 0 0)] 18)⟩<|gR 8 rfl<|gV 39 (qi (p1.kids.length:Int)) rfl (aI (aD _)) rfl<|gR 4 rfl<|go_loop m<|qW hK h [0,1,2,6,14,18,19];exact gR 9 rfl<|gV 39 (qi (p1.kids.length:Int)) rfl (aI (aD _)) rfl<|gR 4 rfl<|go_loop m<|qW hK h [0,1,2,6,14,10,11]
theorem mY(m:Nat)(p1:Tree)(p2:List au)(q:CKr)(b:List aa)(d e:Int)(a:Nat)(G:aa)(q0:CKr)(h:((a<p1.kids.length)→∃l,p1.kids[a]?=some l∧∃i,cF q (a:Int) i∧∃n j,bi i l 0 p2 n j∧∃g,aU j g∧((a<b.length)→∃r,b[a]?=some r∧∃p,bY n r p∧((p=true)→∃k,aE g 4 [(a:Int),0] k∧L0_typing_checker_call m p1 p2 k b d e (a+1) G q0)∧((p=false)→L0_typing_checker_call m p1 p2 g b d e (a+1) G q0))∧((¬a<b.length)→a+1≤9223372036854775807∧L0_typing_checker_call m p1 p2 g b d e (a+1) G q0))∧((¬a<p1.kids.length)→(aa.mk d e)=G∧q=q0)):L0_typing_checker_call (m+1) p1 p2 q b d e a G q0:=by
 refine qj λK U J γ=>?_;refine gR 6 rfl<|qXh 41 rfl rfl rfl h cr co ?_ ?_<;>intro O h;refine gR 8 rfl ?_;obtain⟨l,s,h⟩:=h;refine gY (aG (aq s) ah rfl rfl rfl rfl) rfl rfl<|gR 10 rfl ?_;obtain⟨i,x,h⟩:=h;refine qC x [0,1,2,5,6] ?_;refine qHX ⟨13,(CKr.z i [(7,.var 29 (am l)),(4,.var 97 [.row 2 (List.map aa.w b),qi d,qi e]),(3,vB 0 0)] 11)⟩<|gR 7 rfl ?_;obtain⟨n,j,y,h⟩:=h;refine qC y [0,1,2,11,12] ?_;refine qHX ⟨19,(CKr.z j [(7,.var 29 (am l)),(4,.var 97 [.row 2 (List.map aa.w b),qi d,qi e]),(3,vB 0 0)] 16)⟩<|gR 7 rfl ?_;obtain⟨g,z,h⟩:=h;refine qC z [0,1,2,16,17] ?_;refine qHX ⟨25,(CKr.z g [(19,.var 58 (aa.c n)),(7,.var 29 (am l)),(4,.var 97 [.row 2 (List.map aa.w b),qi d,qi e]),(3,vB 0 0)] 23)⟩<|gR 3 rfl<|qDs [4,19] 14 14<|qDr ((0,2)::(qR 1 3 0 [])) rfl rfl<|gV 57 (qi (b.length:Int)) rfl (aI (aH aa.w _)) rfl<|gLB 56 rfl (aH aa.w _) λv=>qDr [(4,0),(5,0)] rfl rfl<|qXhZ 59 58 rfl rfl rfl rfl h cr co ?_ ?_<;>intro O h;refine qDr [(6,3),(7,2),(8,3),(9,0)] rfl rfl ?_;obtain⟨r,t,h⟩:=h;refine bU 10 rfl (by kernel_rfl) (aG (aw (f:=aa.w) t) ah rfl rfl rfl rfl) rfl rfl ?_;refine qDr [(11,0)] rfl rfl ?_;obtain⟨p,α,h⟩:=h;refine eU 12 α (by kernel_rfl) rfl (by kernel_rfl) rfl rfl .rfl rfl rfl ?_;refine qDr [(13,0)] rfl rfl<|qDe<|gR 1 rfl<|qXi 67 rfl rfl rfl h ?_ ?_<;>intro O h;refine gR 5 rfl<|gFR 25 rfl rfl rfl rfl ?_;obtain⟨k,β,h⟩:=h;refine qC β [0,1,2,23,24] ?_;exact qHX ⟨31,(CKr.z k [(19,.var 58 (aa.c n)),(7,.var 29 (am l)),(4,.var 97 [.row 2 (List.map aa.w b),qi d,qi e]),(3,vB 0 0)] 29)⟩<|gR 5 rfl<|gV 72 (qi ((a+1:Nat):Int)) rfl (al (by have :=v;omega) (by omega)) rfl<|gR 2 rfl<|go_xloop<|qW J h [0,1,2,3,4,29,30];exact gR 6 rfl<|gV 72 (qi ((a+1:Nat):Int)) rfl (al (by have :=v;omega) (by omega)) rfl<|gR 2 rfl<|go_xloop<|qW J h [0,1,2,3,4,23,24];refine qDr (qR 6 3 2 (qR 9 5 0 [])) rfl rfl<|qDe<|gR 6 rfl ?_;obtain⟨hb,h⟩:=h;exact gR 1 rfl<|gV 72 (qi ((a+1:Nat):Int)) rfl (al (by omega) (by omega)) rfl<|gR 2 rfl<|go_xloop<|qW J h [0,1,2,3,4,23,24];refine gR 3 rfl<|go_xloopE<|gR 10 rfl ?_;obtain⟨rfl,rfl⟩:=h;exact gE J [(5,.var 58 (aa.c (aa.mk d e)))] [(6,.ptr 5 0)] [0,1,2,5,6,3] [.cell 6 58]
def L0_typing_checker_list(m:Nat)(p1:Tree)(p2:List au)(a:CKr)(b d:Int)(e:Nat)(O:aa)(q0:CKr):Prop:=∀(K:Ctx) (J:Nat),az K [2,1,0]→m≤J→qLG K f167 (λu G=>u=.agg (aa.c O)∧G=⟨6,(CKr.y q0 3)⟩) (xH (ai f167)) [.loop (xH (ai f167)) J,.blk 0,.seq (xE (ai f167))] 41 (mkF 41 0 [(0,.ptr 0 0),(2,.lk (List.map au.c p2)),(4,.box (am p1) 0),(6,.ptr 3 0),(7,.ptr 4 0),(12,qi (p1.kids.length:Int)),(13,qi (e:Int))]) ⟨7,(CKr.z a [(4,vB b d),(3,vB 0 0)] 5)⟩
theorem tu(m:Nat)(p0:CKr)(p1:Tree)(p2:List au)(r0:aa)(q0:CKr)(h:L0_typing_checker_list m p1 p2 p0 0 0 0 r0 q0):og p0 p1 p2 r0 q0:=by
 refine qA 41 [2,1,0] func167 λK hK=>?_;exact gR 3 rfl<|gFP 5 rfl rfl rfl rfl<|gR 14 rfl<|gV 12 (qi (p1.kids.length:Int)) rfl (aI (aD _)) rfl<|gLB 11 rfl (aD _) λa=>gR 4 rfl<|go_loop m<|qW hK h [0,1,2,6,7,3,4]
theorem mX(m:Nat)(p1:Tree)(p2:List au)(j:CKr)(b d:Int)(a:Nat)(G:aa)(q0:CKr)(h:((a<p1.kids.length)→∃e f,bi j p1 (a:Int) p2 e f∧((b=0)→∃k,bY e e k∧((k=true)→∃g,aE f 6 [(a:Int)] g∧a+1≤9223372036854775807∧L0_typing_checker_list m p1 p2 g e.simple e.lists (a+1) G q0)∧((k=false)→a+1≤9223372036854775807∧L0_typing_checker_list m p1 p2 f e.simple e.lists (a+1) G q0))∧((b≠0)→∃l,bY e (aa.mk b d) l∧((l=true)→∃i,aE f 6 [(a:Int)] i∧a+1≤9223372036854775807∧L0_typing_checker_list m p1 p2 i b d (a+1) G q0)∧((l=false)→a+1≤9223372036854775807∧L0_typing_checker_list m p1 p2 f b d (a+1) G q0)))∧((¬a<p1.kids.length)→((b≠0)→InI (d+1)∧(aa.mk b (d+1))=G∧j=q0)∧((b=0)→(aa.mk b d)=G∧j=q0))):L0_typing_checker_list (m+1) p1 p2 j b d a G q0:=by
 refine qj λK U J t=>?_;refine gR 6 rfl<|qXh 14 rfl rfl rfl h cr co ?_ ?_<;>intro O h;refine gR 17 rfl ?_;obtain⟨e,f,n,h⟩:=h;refine qC n [0,1,2,5,6] ?_;refine qHX ⟨13,(CKr.z f [(4,vB b d),(3,vB 0 0)] 10)⟩<|gR 12 rfl<|qXe 23 rfl rfl rfl h ?_ ?_<;>intro O h;refine gR 10 rfl ?_;obtain⟨k,p,h⟩:=h;refine qC0 p rfl<|gR 2 rfl<|qXi 27 rfl rfl rfl h ?_ ?_<;>intro O h;refine gR 5 rfl<|gFR 14 rfl rfl rfl rfl ?_;obtain⟨g,q,h⟩:=h;refine qC q [0,1,2,10,11] ?_;refine qHX ⟨20,(CKr.z g [(13,.var 58 (aa.c e)),(4,.var 58 (aa.c e)),(3,vB 0 0)] 18)⟩<|gR 4 rfl ?_;obtain⟨hb,h⟩:=h;exact gR 1 rfl<|gV 32 (qi ((a+1:Nat):Int)) rfl (al (by omega) (by omega)) rfl<|gR 2 rfl<|go_xloop<|qW J h [0,1,2,3,4,18,19];refine gR 5 rfl ?_;obtain⟨hb,h⟩:=h;exact gR 1 rfl<|gV 32 (qi ((a+1:Nat):Int)) rfl (al (by omega) (by omega)) rfl<|gR 2 rfl<|go_xloop<|qW J h [0,1,2,3,4,10,11];refine gR 7 rfl ?_;obtain⟨l,r,h⟩:=h;refine qC0 r rfl<|gR 2 rfl<|qXi 27 rfl rfl rfl h ?_ ?_<;>intro O h;refine gR 5 rfl<|gFR 14 rfl rfl rfl rfl ?_;obtain⟨i,s,h⟩:=h;refine qC s [0,1,2,10,11] ?_;refine qHX ⟨20,(CKr.z i [(13,.var 58 (aa.c e)),(4,vB b d),(3,vB 0 0)] 18)⟩<|gR 4 rfl ?_;obtain⟨hb,h⟩:=h;exact gR 1 rfl<|gV 32 (qi ((a+1:Nat):Int)) rfl (al (by omega) (by omega)) rfl<|gR 2 rfl<|go_xloop<|qW J h [0,1,2,3,4,18,19];refine gR 5 rfl ?_;obtain⟨hb,h⟩:=h;exact gR 1 rfl<|gV 32 (qi ((a+1:Nat):Int)) rfl (al (by omega) (by omega)) rfl<|gR 2 rfl<|go_xloop<|qW J h [0,1,2,3,4,10,11];refine gR 3 rfl<|go_xloopE<|gR 10 rfl<|qXh 35 rfl rfl rfl h dq ce ?_ ?_<;>intro O h;refine gR 4 rfl ?_;obtain⟨hb,h⟩:=h;refine gR 1 rfl<|gV 38 (qi (d+1)) rfl (al hb rfl) rfl<|gR 11 rfl ?_;obtain⟨rfl,rfl⟩:=h;exact gE J [(5,.var 58 (aa.c (aa.mk b (d+1))))] [(6,.ptr 5 0)] [0,1,2,5,6,3] [.cell 6 58];refine gR 10 rfl ?_;obtain⟨rfl,rfl⟩:=h;exact gE J [(5,.var 58 (aa.c (aa.mk b d)))] [(6,.ptr 5 0)] [0,1,2,5,6,3] [.cell 6 58]
def eO(m:Nat)(p1:Tree)(p2:List au)(a:CKr)(J:aa)(q0:CKr):Prop:=∀(K:Ctx),az K [2,1,0]→qLG K f168 (λu G=>u=.agg (aa.c J)∧G=⟨6,(CKr.y q0 3)⟩) (xA (ai f168)) [] 37 (mkF 37 0 [(0,.ptr 0 0),(2,.lk (List.map au.c p2)),(4,.box (am p1) 0),(6,.ptr 3 0)]) ⟨6,(CKr.z a [(3,vB 0 0)] 4)⟩
theorem qy(m:Nat)(O:CKr)(p1:Tree)(p2:List au)(J:aa)(q0:CKr)(h:∃d a,bi O p1 0 p2 d a∧∃c,bY d (aa.mk 7 0) c∧((c=true)→∃b,aE a 4 [0] b∧eO m p1 p2 b J q0)∧((c=false)→eO m p1 p2 a J q0)):iI O p1 p2 J q0:=by
 refine qA 37 [2,1,0] func168 λK G=>?_;refine gR 3 rfl<|gFP 5 rfl rfl rfl rfl<|gR 5 rfl<|qDs [] 6 6<|qDr (qR 0 3 2 [(4,2)]) rfl rfl ?_;obtain⟨d,a,e,h⟩:=h;refine qDC 3 e [0,1,2,3,4] rfl ?_;refine qHX ⟨13,(CKr.z a [(6,vB 0 0)] 10)⟩ ?_;obtain⟨c,f,h⟩:=h;refine eU 5 f (by kernel_rfl) rfl (by kernel_rfl) rfl rfl .rfl rfl rfl ?_;refine qDe<|gR 1 rfl<|qBi 14 rfl rfl rfl h ?_ ?_<;>intro h;refine gR 4 rfl<|gFR 13 rfl rfl rfl rfl ?_;obtain⟨b,g,h⟩:=h;refine qC g [0,1,2,10,11] ?_;exact qHX ⟨19,(CKr.z b [(6,vB 0 0)] 17)⟩<|gR 2 rfl<|qJ G (h K G) [0,1,2,6,17,18];exact gR 3 rfl<|qJ G (h K G) [0,1,2,6,10,11]
theorem pZ(m:Nat)(p1:Tree)(p2:List au)(i:CKr)(G:aa)(q0:CKr)(h:∃a f,bi i p1 1 p2 a f∧∃b d,bi f p1 2 p2 b d∧∃g,bY a b g∧((g=true)→∃e,aE d 6 [2] e∧((a.simple=0)→b=G∧e=q0)∧((a.simple≠0)→a=G∧e=q0))∧((g=false)→((a.simple=0)→b=G∧d=q0)∧((a.simple≠0)→a=G∧d=q0))):eO (m+1) p1 p2 i G q0:=by
 intro K J;refine gR 5 rfl ?_;obtain⟨a,f,j,h⟩:=h;refine qC j [0,1,2,4,5] ?_;refine qHX ⟨12,(CKr.z f [(3,vB 0 0)] 9)⟩<|gR 9 rfl ?_;obtain⟨b,d,k,h⟩:=h;refine qC k [0,1,2,9,10] ?_;refine qHX ⟨19,(CKr.z d [(12,.var 58 (aa.c a)),(3,vB 0 0)] 16)⟩<|gR 9 rfl ?_;obtain⟨g,l,h⟩:=h;refine qC0 l rfl<|gR 2 rfl<|qBi 28 rfl rfl rfl h ?_ ?_<;>intro h;refine gR 4 rfl<|gFR 20 rfl rfl rfl rfl ?_;obtain⟨e,n,h⟩:=h;refine qC n [0,1,2,16,17] ?_;refine qHX ⟨26,(CKr.z e [(19,.var 58 (aa.c b)),(12,.var 58 (aa.c a)),(3,vB 0 0)] 24)⟩<|gR 10 rfl<|qBe 34 rfl rfl rfl h ?_ ?_<;>intro h;refine gR 9 rfl ?_;obtain⟨rfl,rfl⟩:=h;exact gE J [(5,.var 58 (aa.c b))] [(6,.ptr 5 0)] [0,1,2,24,25,3] [.cell 6 58];refine gR 10 rfl ?_;obtain⟨rfl,rfl⟩:=h;exact gE J [(5,.var 58 (aa.c a))] [(6,.ptr 5 0)] [0,1,2,24,25,3] [.cell 6 58];refine gR 11 rfl<|qBe 34 rfl rfl rfl h ?_ ?_<;>intro h;refine gR 9 rfl ?_;obtain⟨rfl,rfl⟩:=h;exact gE J [(5,.var 58 (aa.c b))] [(6,.ptr 5 0)] [0,1,2,16,17,3] [.cell 6 58];refine gR 10 rfl ?_;obtain⟨rfl,rfl⟩:=h;exact gE J [(5,.var 58 (aa.c a))] [(6,.ptr 5 0)] [0,1,2,16,17,3] [.cell 6 58]
def gO(m:Nat)(p1:Tree)(b d:aa)(a:CKr)(J:aa)(q0:CKr):Prop:=∀(K:Ctx),az K [2,1,0]→Go prog K (bodyPost prog f169 (SP K (λu G=>u=.agg (aa.c J)∧G=⟨6,(CKr.y q0 3)⟩))) (.ex .normal) [.seq (xA (ai f169))] 55 (mkF 55 0 [(0,.ptr 0 0),(4,.box (am p1) 0),(6,.ptr 3 0),(7,.ptr 4 0)]) ⟨7,(CKr.z a [(4,.var 197 [qi b.simple,qi b.lists,qi d.simple,qi d.lists]),(3,vB 0 0)] 5)⟩
def kJ(m:Nat)(p1:Tree)(b d:aa)(a:CKr)(J:aa)(q0:CKr):Prop:=∀(K:Ctx),az K [2,1,0]→qLG K f169 (λu G=>u=.agg (aa.c J)∧G=⟨6,(CKr.y q0 3)⟩) (xD (xF (ai f169))) [.loop (xD (xF (ai f169))) 3,.blk 0,.seq (xA (xE (ai f169)))] 55 (mkF 55 0 [(0,.ptr 0 0),(4,.box (am p1) 0),(6,.ptr 3 0),(37,.agg [qi b.simple,qi b.lists,qi d.simple,qi d.lists]),(38,qi 0)]) ⟨6,(CKr.z a [(3,vB 0 0)] 4)⟩
def ep(m:Nat)(p1:Tree)(b d:aa)(a:CKr)(J:aa)(q0:CKr):Prop:=∀(K:Ctx),az K [2,1,0]→qLG K f169 (λu G=>u=.agg (aa.c J)∧G=⟨6,(CKr.y q0 3)⟩) (xD (xF (ai f169))) [.loop (xD (xF (ai f169))) 2,.blk 0,.seq (xA (xE (ai f169)))] 55 (mkF 55 0 [(0,.ptr 0 0),(4,.box (am p1) 0),(6,.ptr 3 0),(37,.agg [qi b.simple,qi b.lists,qi d.simple,qi d.lists]),(38,qi 1)]) ⟨6,(CKr.z a [(3,vB 0 0)] 4)⟩
def ew(m:Nat)(p1:Tree)(b d:aa)(a:CKr)(J:aa)(q0:CKr):Prop:=∀(K:Ctx),az K [2,1,0]→qLG K f169 (λu G=>u=.agg (aa.c J)∧G=⟨6,(CKr.y q0 3)⟩) (xD (xF (ai f169))) [.loop (xD (xF (ai f169))) 1,.blk 0,.seq (xA (xE (ai f169)))] 55 (mkF 55 0 [(0,.ptr 0 0),(4,.box (am p1) 0),(6,.ptr 3 0),(37,.agg [qi b.simple,qi b.lists,qi d.simple,qi d.lists]),(38,qi 2)]) ⟨6,(CKr.z a [(3,vB 0 0)] 4)⟩
theorem qn(m:Nat)(J:CKr)(p1:Tree)(p2:List au)(O:aa)(q0:CKr)(h:∃d a,bi J p1 0 p2 d a∧∃c b,bi a p1 1 p2 c b∧gO m p1 d c b O q0):ij J p1 p2 O q0:=by
 refine qA 55 [2,1,0] func169 λK G=>?_;refine gR 3 rfl<|gFP 5 rfl rfl rfl rfl<|gR 4 rfl<|qDs [] 10 11<|qDr (qR 0 3 2 (qR 4 3 2 [])) rfl rfl ?_;obtain⟨d,a,e,h⟩:=h;apply bH (i:=3) (j:=9) (by kernel_rfl) rfl rfl rfl rfl;exact(cg (L':=[]) (by kernel_rfl) rfl rfl (fW (H:=⟨7,((6,vB 0 0)::CKr.y J 3)⟩) e [0,1,2,3,4] .rfl ⟨⟨_,rfl,⟨rfl,rfl,(vG _ J.faults).symm⟩⟩,⟨⟨_,rfl,⟨rfl,rfl,(vF _ J.path).symm⟩⟩,⟨⟨_,rfl,⟨rfl,rfl,rfl,rfl⟩⟩,⟨⟨_,rfl,⟨rfl,rfl,rfl,rfl⟩⟩,⟨⟨_,rfl,⟨rfl,be.rfl⟩⟩,trivial⟩⟩⟩⟩⟩ rfl [] rfl) (.inl rfl));exact(bg ah rfl rfl);refine qHX ⟨13,(CKr.z a [(6,vB 0 0)] 10)⟩ ?_;obtain⟨c,b,f,h⟩:=h;apply bH (i:=7) (j:=9) (by kernel_rfl) rfl rfl rfl rfl;exact(cg (L':=[]) (by kernel_rfl) rfl rfl (fW (H:=⟨13,(CKr.z a [(6,vB 0 0)] 10)⟩) f [0,1,2,10,11] .rfl ⟨⟨_,rfl,⟨rfl,rfl,(vG _ a.faults).symm⟩⟩,⟨⟨_,rfl,⟨rfl,rfl,(vF _ a.path).symm⟩⟩,⟨⟨_,rfl,⟨rfl,rfl,rfl,rfl⟩⟩,⟨⟨_,rfl,⟨rfl,rfl,rfl,rfl⟩⟩,⟨⟨_,rfl,⟨rfl,be.rfl⟩⟩,trivial⟩⟩⟩⟩⟩ rfl [] rfl) (.inl rfl));exact(bg ah rfl rfl);exact qHX ⟨19,(CKr.z b [(6,vB 0 0)] 16)⟩<|qDr [(8,2),(9,0),(10,1)] rfl rfl<|qDe<|qJ G (h K G) [0,1,2,6,19,16,17];refine qDC 7 f [0,1,2,10,11] rfl ?_;exact qHX ⟨20,(CKr.z b [(13,.var 197 [qi 0,qi 0,qi 0,qi 0]),(6,vB 0 0)] 17)⟩<|qDr [(8,0),(10,1)] rfl rfl<|qDe<|qJ G (h K G) [0,1,2,6,13,17,18];refine qDC 3 e [0,1,2,3,4] rfl ?_;refine qHX ⟨14,(CKr.z a [(7,.var 197 [qi 0,qi 0,qi 0,qi 0]),(6,vB 0 0)] 11)⟩ ?_;obtain⟨c,b,g,h⟩:=h;refine qDC 7 g [0,1,2,11,12] rfl ?_;exact qHX ⟨20,(CKr.z b [(7,.var 197 [qi 0,qi 0,qi 0,qi 0]),(6,vB 0 0)] 17)⟩<|qDr [(8,0),(10,1)] rfl rfl<|qDe<|qJ G (h K G) [0,1,2,6,7,17,18]
theorem pI(m:Nat)(p1:Tree)(a b:aa)(f:CKr)(r0:aa)(q0:CKr)(h:((p1.text=[43])→∃g c,kX f (a,b) g c∧g=r0∧c=q0)∧((p1.text≠[43])→((p1.text=[61,61])→∃i,bY a b i∧((i=true)→∃d,aE f 6 [1] d∧(aa.mk 7 0)=r0∧d=q0)∧((i=false)→(aa.mk 7 0)=r0∧f=q0))∧((p1.text≠[61,61])→kJ m p1 a b f r0 q0))):gO (m+1) p1 a b f r0 q0:=by
 intro K hK;refine gR 9 rfl<|qBe 21 rfl rfl rfl h ?_ ?_<;>intro h;refine gR 5 rfl ?_;obtain⟨g,c,j,h⟩:=h;refine qC j [0,1,2,5,6] ?_;refine qHX ⟨13,(CKr.z c [(4,.var 197 [qi a.simple,qi a.lists,qi b.simple,qi b.lists]),(3,vB 0 0)] 10)⟩<|gR 5 rfl ?_;obtain⟨rfl,rfl⟩:=h;exact gE hK [(5,.var 58 (aa.c g))] [(6,.ptr 5 0)] [0,1,2,10,11,3] [.cell 6 58];refine gR 11 rfl<|qBe 27 rfl rfl rfl h ?_ ?_<;>intro h;refine gR 4 rfl<|gY (yIP (len:=2) (e:=58) (sz:=2) ah rfl rfl rfl rfl rfl rfl rfl rfl) rfl rfl<|gR 1 rfl<|gY (yIP (len:=2) (e:=58) (sz:=2) ah rfl rfl rfl rfl rfl rfl rfl rfl) rfl rfl<|gR 1 rfl ?_;obtain⟨i,k,h⟩:=h;refine qC0 k rfl<|gR 2 rfl<|qBi 32 rfl rfl rfl h ?_ ?_<;>intro h;refine gR 4 rfl<|gFR 7 rfl rfl rfl rfl ?_;obtain⟨d,l,h⟩:=h;refine qC l [0,1,2,5,6] ?_;refine qHX ⟨13,(CKr.z d [(4,.var 197 [qi a.simple,qi a.lists,qi b.simple,qi b.lists]),(3,vB 0 0)] 11)⟩<|gR 10 rfl ?_;obtain⟨rfl,rfl⟩:=h;exact gE hK [(5,.var 58 (aa.c (aa.mk 7 0)))] [(6,.ptr 5 0)] [0,1,2,11,12,3] [.cell 6 58];refine gR 11 rfl ?_;obtain⟨rfl,rfl⟩:=h;exact gE hK [(5,.var 58 (aa.c (aa.mk 7 0)))] [(6,.ptr 5 0)] [0,1,2,5,6,3] [.cell 6 58];exact gR 11 rfl<|go_loop 3<|qJ hK (h K hK) [0,1,2,3,5,6]
theorem py(m:Nat)(p1:Tree)(b f:aa)(g:CKr)(J:aa)(q0:CKr)(h:∃d,bY b (aa.mk 5 0) d∧((d=true)→∃a,aE g 4 [0] a∧ep m p1 b f a J q0)∧((d=false)→ep m p1 b f g J q0)):kJ (m+1) p1 b f g J q0:=by
 intro K G;refine gR 14 rfl<|gY (FW (len:=2) (e:=58) (sz:=2) (k:=0) ah rfl rfl (by kernel_rfl) rfl rfl (by decide) rfl) rfl rfl<|gR 9 rfl ?_;obtain⟨d,i,h⟩:=h;refine qC0 i rfl<|gR 2 rfl<|qXi 44 rfl rfl rfl h ?_ ?_<;>intro O h;refine gR 5 rfl<|gFR 7 rfl rfl rfl rfl ?_;obtain⟨a,j,h⟩:=h;refine qC j [0,1,2,4,5] ?_;exact qHX ⟨13,(CKr.z a [(6,.var 58 (aa.c b)),(3,vB 0 0)] 11)⟩<|gR 5 rfl<|gV 49 (qi 1) rfl (al (by omega) (by omega)) rfl<|gR 2 rfl<|go_xloop<|qJ G (h K G) [0,1,2,3,11,12];exact gR 6 rfl<|gV 49 (qi 1) rfl (al (by omega) (by omega)) rfl<|gR 2 rfl<|go_xloop<|qJ G (h K G) [0,1,2,3,4,5]
theorem rL2_typing_checker_operation(m:Nat)(p1:Tree)(f b:aa)(g:CKr)(J:aa)(q0:CKr)(h:∃d,bY b (aa.mk 5 0) d∧((d=true)→∃a,aE g 4 [1] a∧ew m p1 f b a J q0)∧((d=false)→ew m p1 f b g J q0)):ep (m+1) p1 f b g J q0:=by
 intro K G;refine gR 14 rfl<|gY (FW (len:=2) (e:=58) (sz:=2) (k:=1) ah rfl rfl (by kernel_rfl) rfl rfl (by decide) rfl) rfl rfl<|gR 9 rfl ?_;obtain⟨d,i,h⟩:=h;refine qC0 i rfl<|gR 2 rfl<|qXi 44 rfl rfl rfl h ?_ ?_<;>intro O h;refine gR 5 rfl<|gFR 7 rfl rfl rfl rfl ?_;obtain⟨a,j,h⟩:=h;refine qC j [0,1,2,4,5] ?_;exact qHX ⟨13,(CKr.z a [(6,.var 58 (aa.c b)),(3,vB 0 0)] 11)⟩<|gR 5 rfl<|gV 49 (qi 2) rfl (al (by omega) (by omega)) rfl<|gR 2 rfl<|go_xloop<|qJ G (h K G) [0,1,2,3,11,12];exact gR 6 rfl<|gV 49 (qi 2) rfl (al (by omega) (by omega)) rfl<|gR 2 rfl<|go_xloop<|qJ G (h K G) [0,1,2,3,4,5]
theorem rL3_typing_checker_operation(m:Nat)(p1:Tree)(b c:aa)(a:CKr)(G:aa)(q0:CKr)(h:((p1.text=[60])→(aa.mk 7 0)=G∧a=q0)∧((p1.text≠[60])→(aa.mk 5 0)=G∧a=q0)):ew (m+1) p1 b c a G q0:=by
 intro K J;refine gR 9 rfl<|go_xloopE<|gR 10 rfl<|qBe 52 rfl rfl rfl h ?_ ?_<;>intro h;refine gR 9 rfl ?_;obtain⟨rfl,rfl⟩:=h;exact gE J [(5,.var 58 (aa.c (aa.mk 7 0)))] [(6,.ptr 5 0)] [0,1,2,4,5,3] [.cell 6 58];refine gR 10 rfl ?_;obtain⟨rfl,rfl⟩:=h;exact gE J [(5,.var 58 (aa.c (aa.mk 5 0)))] [(6,.ptr 5 0)] [0,1,2,4,5,3] [.cell 6 58]
def nY(m:Nat)(J:CKr)(p1:(aa×aa))(O:aa)(q0:CKr):Prop:=∀(K:Ctx),az K [2,1,0]→qLG K f184 (λu G=>u=.agg (aa.c O)∧G=⟨6,(CKr.y q0 3)⟩) (xG (ai f184)) [.loop (xG (ai f184)) 3,.blk 0,.seq (xF (ai f184))] 49 (mkF 49 0 [(0,.ptr 0 0),(3,.box [qi p1.1.simple,qi p1.1.lists,qi p1.2.simple,qi p1.2.lists] 0),(4,.ptr 3 0),(5,.bool false),(6,.ptr 4 0),(9,.agg [qi p1.1.simple,qi p1.1.lists,qi p1.2.simple,qi p1.2.lists]),(10,qi 0)]) ⟨7,(CKr.z J [(4,vB 0 0),(3,vB 0 0)] 5)⟩
def gX(m:Nat)(J:CKr)(p1:(aa×aa))(a:Bool)(O:aa)(q0:CKr):Prop:=∀(K:Ctx),az K [2,1,0]→qLG K f184 (λu G=>u=.agg (aa.c O)∧G=⟨6,(CKr.y q0 3)⟩) (cB (cK (cB (xK (xA (xG (ai f184))))))) [.blk 2,.blk 1,.seq (xE (xG (ai f184))),.loop (xG (ai f184)) 3,.blk 0,.seq (xF (ai f184))] 49 (mkF 49 0 [(0,.ptr 0 0),(3,.box [qi p1.1.simple,qi p1.1.lists,qi p1.2.simple,qi p1.2.lists] 0),(4,.ptr 3 0),(5,.bool false),(6,.ptr 4 0),(7,qi 0),(8,.ptr 5 0),(9,.agg [qi p1.1.simple,qi p1.1.lists,qi p1.2.simple,qi p1.2.lists]),(10,qi 0),(14,.bool a)]) ⟨8,(CKr.z J [(5,.var 58 (aa.c p1.1)),(4,vB 0 0),(3,vB 0 0)] 6)⟩
def fi(m:Nat)(p1:(aa×aa))(a:CKr)(b:Bool)(d e:Int)(J:aa)(q0:CKr):Prop:=∀(K:Ctx),az K [2,1,0]→qLG K f184 (λu G=>u=.agg (aa.c J)∧G=⟨6,(CKr.y q0 3)⟩) (xG (ai f184)) [.loop (xG (ai f184)) 2,.blk 0,.seq (xF (ai f184))] 49 (mkF 49 0 [(0,.ptr 0 0),(3,.box [qi p1.1.simple,qi p1.1.lists,qi p1.2.simple,qi p1.2.lists] 0),(4,.ptr 3 0),(5,.bool b),(6,.ptr 4 0),(9,.agg [qi p1.1.simple,qi p1.1.lists,qi p1.2.simple,qi p1.2.lists]),(10,qi 1)]) ⟨7,(CKr.z a [(4,vB d e),(3,vB 0 0)] 5)⟩
def gQ(m:Nat)(p1:(aa×aa))(a:CKr)(b:Bool)(d e:Int)(f:Bool)(J:aa)(q0:CKr):Prop:=∀(K:Ctx),az K [2,1,0]→qLG K f184 (λu G=>u=.agg (aa.c J)∧G=⟨6,(CKr.y q0 3)⟩) (cB (cK (cB (xK (xA (xG (ai f184))))))) [.blk 2,.blk 1,.seq (xE (xG (ai f184))),.loop (xG (ai f184)) 2,.blk 0,.seq (xF (ai f184))] 49 (mkF 49 0 [(0,.ptr 0 0),(3,.box [qi p1.1.simple,qi p1.1.lists,qi p1.2.simple,qi p1.2.lists] 0),(4,.ptr 3 0),(5,.bool b),(6,.ptr 4 0),(7,qi 1),(8,.ptr 5 0),(9,.agg [qi p1.1.simple,qi p1.1.lists,qi p1.2.simple,qi p1.2.lists]),(10,qi 1),(14,.bool f)]) ⟨8,(CKr.z a [(5,.var 58 (aa.c p1.2)),(4,vB d e),(3,vB 0 0)] 6)⟩
def dE(m:Nat)(p1:(aa×aa))(b d:Int)(a:CKr)(e:Bool)(J:aa)(q0:CKr):Prop:=∀(K:Ctx),az K [2,1,0]→qLG K f184 (λu G=>u=.agg (aa.c J)∧G=⟨6,(CKr.y q0 3)⟩) (xG (ai f184)) [.loop (xG (ai f184)) 1,.blk 0,.seq (xF (ai f184))] 49 (mkF 49 0 [(0,.ptr 0 0),(3,.box [qi p1.1.simple,qi p1.1.lists,qi p1.2.simple,qi p1.2.lists] 0),(4,.ptr 3 0),(5,.bool e),(6,.ptr 4 0),(9,.agg [qi p1.1.simple,qi p1.1.lists,qi p1.2.simple,qi p1.2.lists]),(10,qi 2)]) ⟨7,(CKr.z a [(4,vB b d),(3,vB 0 0)] 5)⟩
theorem uo(m:Nat)(p0:CKr)(p1:(aa×aa))(r0:aa)(q0:CKr)(h:nY m p0 p1 r0 q0):kX p0 p1 r0 q0:=by
 refine qA 49 [2,1,0] func184 λK hK=>?_;exact gR 3 rfl<|gFP 5 rfl rfl rfl rfl<|gR 21 rfl<|go_loop 3<|qJ hK (h K hK) [0,1,2,6,7,3,4]
theorem tG(m:Nat)(J:CKr)(p1:(aa×aa))(O:aa)(q0:CKr)(h:((p1.1.simple=5∧p1.1.lists=0)→gX m J p1 true O q0)∧((¬(p1.1.simple=5∧p1.1.lists=0))→gX m J p1 (p1.1.simple==6&&p1.1.lists==0) O q0)):nY (m+1) J p1 O q0:=by
 intro K G;refine gR 14 rfl<|gY (FW (len:=2) (e:=58) (sz:=2) (k:=0) ah rfl rfl (by kernel_rfl) rfl rfl (by decide) rfl) rfl rfl<|gR 10 rfl<|gY (v:=.bool (p1.1.simple==5&&p1.1.lists==0)) (zS (neg:=false) underlying58 (by kernel_rfl) (by kernel_rfl) (by decide) (by decide) rfl rfl (by kernel_rfl) (by kernel_rfl) rfl rfl qI qI qI qI (eI underlying3) (eI underlying3)) rfl rfl<|gR 1 rfl<|qBhZ 18 17 rfl rfl rfl rfl h Cd BT ?_ ?_<;>intro h;exact gR 7 rfl<|qJ G (h K G) [0,1,2,3,4,7,5,6];exact gR 2 rfl<|gY (v:=.bool (p1.1.simple==6&&p1.1.lists==0)) (zS (neg:=false) underlying58 (by kernel_rfl) (by kernel_rfl) (by decide) (by decide) rfl rfl (by kernel_rfl) (by kernel_rfl) rfl rfl qI qI qI qI (eI underlying3) (eI underlying3)) rfl rfl<|gR 4 rfl<|qJ G (h K G) [0,1,2,3,4,7,5,6]
theorem tB(m:Nat)(J:CKr)(p1:(aa×aa))(b:Bool)(O:aa)(q0:CKr)(h:((b=true)→fi m p1 J false p1.1.simple p1.1.lists O q0)∧((b=false)→((p1.1.simple≠0)→∃a,aE J 4 [0] a∧fi m p1 a true 0 0 O q0)∧((p1.1.simple=0)→fi m p1 J false 0 0 O q0))):gX (m+1) J p1 b O q0:=by
 intro K G;refine qXi 14 rfl rfl rfl h ?_ ?_<;>intro U h;exact gR 18 rfl<|gV 35 (qi 1) rfl (al (by omega) (by omega)) rfl<|gR 2 rfl<|go_xloop<|qJ G (h K G) [0,1,2,3,4,6,7];refine gR 9 rfl<|qXhZ 27 30 rfl rfl rfl rfl h dq ce ?_ ?_<;>intro U h;refine gR 10 rfl<|gFR 8 rfl rfl rfl rfl ?_;obtain⟨a,d,h⟩:=h;refine qC d [0,1,2,6,7] ?_;exact qHX ⟨14,(CKr.z a [(5,.var 58 (aa.c p1.1)),(4,vB 0 0),(3,vB 0 0)] 12)⟩<|gR 6 rfl<|gV 35 (qi 1) rfl (al (by omega) (by omega)) rfl<|gR 2 rfl<|go_xloop<|qJ G (h K G) [0,1,2,3,4,12,13];exact gR 7 rfl<|gV 35 (qi 1) rfl (al (by omega) (by omega)) rfl<|gR 2 rfl<|go_xloop<|qJ G (h K G) [0,1,2,3,4,6,7]
theorem rL2_typing_checker_sum(m:Nat)(p1:(aa×aa))(a:CKr)(b:Bool)(c d:Int)(J:aa)(q0:CKr)(h:((p1.2.simple=5∧p1.2.lists=0)→gQ m p1 a b c d true J q0)∧((¬(p1.2.simple=5∧p1.2.lists=0))→gQ m p1 a b c d (p1.2.simple==6&&p1.2.lists==0) J q0)):fi (m+1) p1 a b c d J q0:=by
 intro K G;refine gR 14 rfl<|gY (FW (len:=2) (e:=58) (sz:=2) (k:=1) ah rfl rfl (by kernel_rfl) rfl rfl (by decide) rfl) rfl rfl<|gR 10 rfl<|gY (v:=.bool (p1.2.simple==5&&p1.2.lists==0)) (zS (neg:=false) underlying58 (by kernel_rfl) (by kernel_rfl) (by decide) (by decide) rfl rfl (by kernel_rfl) (by kernel_rfl) rfl rfl qI qI qI qI (eI underlying3) (eI underlying3)) rfl rfl<|gR 1 rfl<|qBhZ 18 17 rfl rfl rfl rfl h Cd BT ?_ ?_<;>intro h;exact gR 7 rfl<|qJ G (h K G) [0,1,2,3,4,7,5,6];exact gR 2 rfl<|gY (v:=.bool (p1.2.simple==6&&p1.2.lists==0)) (zS (neg:=false) underlying58 (by kernel_rfl) (by kernel_rfl) (by decide) (by decide) rfl rfl (by kernel_rfl) (by kernel_rfl) rfl rfl qI qI qI qI (eI underlying3) (eI underlying3)) rfl rfl<|gR 4 rfl<|qJ G (h K G) [0,1,2,3,4,7,5,6]
theorem tq(m:Nat)(p1:(aa×aa))(d:CKr)(f:Bool)(b e:Int)(g:Bool)(J:aa)(q0:CKr)(h:((g=true)→((b=0)→dE m p1 p1.2.simple p1.2.lists d f J q0)∧((b≠0)→dE m p1 b e d f J q0))∧((g=false)→((p1.2.simple≠0)→∃a,aE d 4 [1] a∧dE m p1 b e a true J q0)∧((p1.2.simple=0)→dE m p1 b e d f J q0))):gQ (m+1) p1 d f b e g J q0:=by
 intro K G;refine qXi 14 rfl rfl rfl h ?_ ?_<;>intro O h;refine gR 8 rfl<|qXe 25 rfl rfl rfl h ?_ ?_<;>intro O h;exact gR 10 rfl<|gV 35 (qi 2) rfl (al (by omega) (by omega)) rfl<|gR 2 rfl<|go_xloop<|qJ G (h K G) [0,1,2,3,4,6,7];exact gR 7 rfl<|gV 35 (qi 2) rfl (al (by omega) (by omega)) rfl<|gR 2 rfl<|go_xloop<|qJ G (h K G) [0,1,2,3,4,6,7];refine gR 9 rfl<|qXhZ 27 30 rfl rfl rfl rfl h dq ce ?_ ?_<;>intro O h;refine gR 10 rfl<|gFR 8 rfl rfl rfl rfl ?_;obtain⟨a,i,h⟩:=h;refine qC i [0,1,2,6,7] ?_;exact qHX ⟨14,(CKr.z a [(5,.var 58 (aa.c p1.2)),(4,vB b e),(3,vB 0 0)] 12)⟩<|gR 6 rfl<|gV 35 (qi 2) rfl (al (by omega) (by omega)) rfl<|gR 2 rfl<|go_xloop<|qJ G (h K G) [0,1,2,3,4,12,13];exact gR 7 rfl<|gV 35 (qi 2) rfl (al (by omega) (by omega)) rfl<|gR 2 rfl<|go_xloop<|qJ G (h K G) [0,1,2,3,4,6,7]
theorem tv(m:Nat)(p1:(aa×aa))(a b:Int)(d:CKr)(g:Bool)(G:aa)(q0:CKr)(h:((g=false)→∃f,bY p1.1 p1.2 f∧((f=true)→∃c,aE d 6 [1] c∧(aa.mk a b)=G∧c=q0)∧((f=false)→(aa.mk a b)=G∧d=q0))∧((g=true)→(aa.mk a b)=G∧d=q0)):dE (m+1) p1 a b d g G q0:=by
 intro K J;refine gR 9 rfl<|go_xloopE<|gR 8 rfl<|qBhZ 38 37 rfl rfl rfl rfl h bt br ?_ ?_<;>intro h;refine gY (yIA (len:=2) (e:=58) (sz:=2) ah rfl rfl rfl rfl rfl rfl (by decide) rfl (Nat.le_of_ble_eq_true rfl)) rfl rfl<|gR 1 rfl<|gY (yIA (len:=2) (e:=58) (sz:=2) ah rfl rfl rfl rfl rfl rfl (by decide) rfl (Nat.le_of_ble_eq_true rfl)) rfl rfl<|gR 1 rfl ?_;obtain⟨f,i,h⟩:=h;refine qC0 i rfl<|gR 3 rfl<|qBi 44 rfl rfl rfl h ?_ ?_<;>intro h;refine gR 4 rfl<|gFR 7 rfl rfl rfl rfl ?_;obtain⟨c,j,h⟩:=h;refine qC j [0,1,2,5,6] ?_;refine qHX ⟨13,(CKr.z c [(4,vB a b),(3,vB 0 0)] 11)⟩<|gR 9 rfl ?_;obtain⟨rfl,rfl⟩:=h;exact gE J [(5,.var 58 (aa.c (aa.mk a b)))] [(4,.ptr 5 0)] [0,1,2,11,12,3] [.cell 4 58];refine gR 10 rfl ?_;obtain⟨rfl,rfl⟩:=h;exact gE J [(5,.var 58 (aa.c (aa.mk a b)))] [(4,.ptr 5 0)] [0,1,2,5,6,3] [.cell 4 58];refine gR 18 rfl ?_;obtain⟨rfl,rfl⟩:=h;exact gE J [(5,.var 58 (aa.c (aa.mk a b)))] [(4,.ptr 5 0)] [0,1,2,5,6,3] [.cell 4 58]
open Go.RowKit Go.Shelf Lx Sx
def wI:Go.Shelf.Ren:=⟨fun|4=>137|n=>n,fun|22=>23|25=>3|3=>3|4=>4|9=>9|0=>0|20=>20|n=>n,fun|n=>n⟩
theorem JO:Go.Proofs.Lays8.n4 prog wI:={
 mixed:=by kernel_rfl
 f4:=⟨ "slices.Grow[[]int,int]",by decide,func137.trans (congrArg some (by kernel_rfl))⟩
 t0:=underlying0
 a0:=isAgg0
 z0:=sizeOf0
 v0:=zeroValue0
 t3:=underlying3
 a3:=isAgg3
 z3:=sizeOf3
 v3:=zeroValue3
 t4:=underlying4
 a4:=isAgg4
 z4:=sizeOf4
 v4:=zeroValue4
 t9:=underlying9
 a9:=isAgg9
 z9:=sizeOf9
 v9:=zeroValue9
 t20:=underlying20
 a20:=isAgg20
 z20:=sizeOf20
 v20:=zeroValue20
 t22:=underlying23
 a22:=isAgg23
 z22:=sizeOf23
 v22:=zeroValue23}
theorem LY{w:World}{g n c:Nat}{e:TypeId}{C xs:List Value}(h:Blk w g e C)(G:C.length=c)(J:n≤c)(O:c≤maxLen)(hx:C.take n=xs):w.ownsRow 0 e 1 (.slice (some ⟨g,0,none⟩) n c) n xs:=by
 refine⟨by rw[←hx,List.length_take];omega,.inr ⟨g,c,C.toArray,rfl,Nat.zero_le _,h,J,O,by simp[G],by simpa using hx⟩⟩
theorem Js(w:World)(n:Nat)(hn:n≤1000000000):Calls prog 137 #[.slice none 0 0,.int .i64 (n:Int)] w λe w'=>∃v,e=.returned v∧w'.ownsRow 0 3 1 v 0 []∧Chg [] w w'∧∀b,v.ownBlock=some b→w.heap.size≤b:=by
 have L:=JO;by_cases h0:n=0
 ·subst h0;refine(Any8.slices_Grow_room L none 0 0 0 w (by omega) (by omega) (by omega) (by omega)).mono ?_;rintro e w' ⟨rfl,rfl⟩;exact⟨_,rfl,⟨rfl,.inl ⟨rfl,rfl⟩⟩,Chg.refl _ _,λb hb=>by cases hb⟩
 ·have hi:(prog.info? 3).map (λi=>(i.zero,i.size,i.bytes))=some (some (.int .i64 0),1,8):=by kernel_rfl
  obtain⟨i0,h1,U⟩:=Option.map_eq_some_iff.1 hi;simp only[Prod.mk.injEq]at U;obtain⟨h2,h3,h4⟩:=U;refine(Any8.slices_Grow_grow L i0 (.int .i64 0) h1 h2 (by omega) none 0 0 n [] w (by omega) (by omega) (by rw[h4];omega) (by omega) (by simp) (λ_=>rfl) (λa h=>by cases h)).mono ?_;rintro e w' ⟨rfl,rfl⟩;have J:=grownCap_ge w (0+n) 0 (wI.t 25);have O:=grownCap_le_maxLen w (0+n) 0 (wI.t 25) (by simp only[maxLen];omega);obtain⟨G,hG⟩:∃G,G=grownCap w (0+n) 0 (wI.t 25):=⟨_,rfl⟩;rw[←hG]at J O⊢;obtain⟨C,Z⟩:∃C:List Value,C=(Builtin.zeroCells (Value.int .i64 0).cells (0+n-0)).toList++(Builtin.zeroCells (Value.int .i64 0).cells (G-(0+n))).toList:=⟨_,rfl⟩;have e:(([]:List Value).toArray++Builtin.zeroCells (Value.int .i64 0).cells (0+n-0)++Builtin.zeroCells (Value.int .i64 0).cells (G-(0+n)))=C.toArray:=by
   rw[Z];apply Array.ext';simp
  rw[e];have hz:∀k,(Builtin.zeroCells (Value.int .i64 0).cells k).toList.length=k*1:=λk=>size_zeroCells _ _;have hl:C.length=G:=by rw[Z,List.length_append,hz,hz];omega
  refine⟨_,rfl,LY (Blk.new w.drew _ C) hl (Nat.zero_le _) O (by simp),(Chg.drew w).trans (Chg.alloc _ _) (by simp),λb hb=>?_⟩;simp only[Value.ownBlock,Option.some.injEq]at hb;omega
theorem Mv(n:Nat)(Z:n≤1000000000):vd (n:Int) []:=λS w ρ xs hr hx=>by
 simp only[LRel,VRel]at hx;obtain⟨x,ys,rfl,rfl,y,zs,rfl,rfl,rfl⟩:=hx;refine(Js w n Z).mono λe w' hR=>?_;obtain⟨v,rfl,O,g3,g4⟩:=hR;have hf:(⟨0,[]⟩:Hp).get 0=.free:=rfl;have J:=eff_new (x:=v) (o:=.row 3 1 (([]:List Int).map (V.int .i64))) hr hf g3 ⟨v,[],aW _ _ _,O,by simp[CRel]⟩ (λb hb=>by
  obtain⟨q,U,e2⟩:=hb;rw[aW]at U;cases U;exact g4 b e2)
 have G:bW (⟨0,[]⟩:Hp).get 0 (.row 3 1 (([]:List Int).map (V.int .i64)))=(⟨1,[(0,.row 3 1 (([]:List Int).map (V.int .i64)))]⟩:Hp).get:=by
  funext j
  match j with
  |0=>rfl
  |n+1=>rfl
 rw[G]at J;have hi:Inv ⟨w,S,λb=>∃id,own ρ id ((⟨0,[]⟩:Hp).get id) b,tJ [] (⟨0,[]⟩:Hp).get ρ⟩ S w ρ (⟨0,[]⟩:Hp).get:=⟨ChgP.refl _ _,λ_ h=>h,λ_ h=>.inl h,λid b hb=>.inl ⟨id,hb⟩,λid x h=>by
  simp only[tJ]at h;split at h
  ·exact h
  ·cases h⟩
 exact⟨v,S,eV ρ 0 v,_,_,rfl,⟨rfl,rfl⟩,J.hr,hi.eff J,by simp only[VRel];exact⟨aW _ _ _,zy O⟩⟩
open Go.RowKit Lx
theorem qmm{P:Program}{f:FuncId}{a:Array Value}{w:World}{v:Ending}{Q:Ending→World→Prop}(h:Calls P f a w λe w'=>e=v∧w=w')(k:Q v w):Calls P f a w Q:=h.mono λe w' z=>by obtain⟨rfl,rfl⟩:=z;exact k
theorem qEx{w w':World}(h:Ext w w':=by repeat (first|exact Ext.refl _|apply Ext.alloc|(refine Ext.setCell ?_ (Nat.le_refl _) _))):Ext w w':=h
theorem gy{a b:Bool}(h:a=b):Ending.returned (.bool a)=.returned (.bool b):=by rw[h]
theorem bG{k:IntKind}{a b:Int}(h:a=b):Ending.returned (.int k a)=.returned (.int k b):=by rw[h]
theorem uZ(n m:Nat):((n:Int)==(m:Int))=(n==m):=by rw[Bool.eq_iff_iff];simp;omega
theorem ff(c:UInt8)(w:World):Calls prog 155 #[.int .u8 (c.toNat:Int)] w λe w'=>e=.returned (.bool (cO c))∧w=w':=by
 go_enter func155,ntmps155
 go_wp2<;>(go_ret;go_light;refine⟨gy ?_,rfl⟩;(first|rw[Bool.eq_iff_iff]|skip);simp_all[cO]<;>omega)
theorem cz(c:UInt8)(w:World):Calls prog 188 #[.int .u8 (c.toNat:Int)] w λe w'=>e=.returned (.bool (cO c))∧w=w':=by
 go_enter func188,ntmps188
 go_wp2<;>(go_ret;go_light;refine⟨gy ?_,rfl⟩;(first|rw[Bool.eq_iff_iff]|skip);simp_all[cO]<;>omega)
theorem fj(c:UInt8)(w:World):Calls prog 156 #[.int .u8 (c.toNat:Int)] w λe w'=>e=.returned (.bool (upperB c))∧w=w':=by
 go_enter func156,ntmps156
 go_wp2<;>(go_ret;go_light;refine⟨gy ?_,rfl⟩;(first|rw[Bool.eq_iff_iff]|skip);simp_all[upperB]<;>omega)
theorem bk(c:UInt8)(w:World):Calls prog 189 #[.int .u8 (c.toNat:Int)] w λe w'=>e=.returned (.bool (upperB c))∧w=w':=by
 go_enter func189,ntmps189
 go_wp2<;>(go_ret;go_light;refine⟨gy ?_,rfl⟩;(first|rw[Bool.eq_iff_iff]|skip);simp_all[upperB]<;>omega)
theorem eL(c:UInt8)(w:World):Calls prog 117 #[.int .u8 (c.toNat:Int)] w λe w'=>e=.returned (.bool (bZ c))∧w=w':=by
 go_enter func117,ntmps117
 go_wp2<;>(go_ret;go_light;refine⟨gy ?_,rfl⟩;(first|rw[Bool.eq_iff_iff]|skip);simp_all[bZ]<;>omega)
theorem dJ(c:UInt8)(w:World):Calls prog 187 #[.int .u8 (c.toNat:Int)] w λe w'=>e=.returned (.bool (bZ c))∧w=w':=by
 go_enter func187,ntmps187
 go_wp2<;>(go_ret;go_light;refine⟨gy ?_,rfl⟩;(first|rw[Bool.eq_iff_iff]|skip);simp_all[bZ]<;>omega)
theorem ND(c:UInt8)(w:World):Calls prog 77 #[.int .u8 (c.toNat:Int)] w λe w'=>e=.returned (.bool (iW c))∧w=w':=by
 go_enter func77,ntmps77
 go_wp2<;>(go_ret;go_light;refine⟨gy ?_,rfl⟩;(first|rw[Bool.eq_iff_iff]|skip);simp_all[iW]<;>omega)
theorem zl(c:UInt8)(w:World):Calls prog 170 #[.int .u8 (c.toNat:Int)] w λe w'=>e=.returned (.bool (iW c))∧w=w':=by
 go_enter func170,ntmps170
 go_wp2<;>(go_ret;go_light;refine⟨gy ?_,rfl⟩;(first|rw[Bool.eq_iff_iff]|skip);simp_all[iW]<;>omega)
theorem ca(c:UInt8)(w:World):Calls prog 186 #[.int .u8 (c.toNat:Int)] w λe w'=>e=.returned (.bool (gs c))∧w=w':=by
 go_enter func186,ntmps186
 go_wp2<;>(go_ret;go_light;refine⟨gy ?_,rfl⟩;(first|rw[Bool.eq_iff_iff]|skip);simp_all[gs]<;>omega)
theorem bD(c:UInt8)(w:World):Calls prog 115 #[.int .u8 (c.toNat:Int)] w λe w'=>e=.returned (.bool (bu c))∧w=w':=by
 cases G:cO c<;>cases h1:upperB c
 all_goals
  go_enter func115,ntmps115
  go_wp2_with (first|(go_at_call 155;refine qmm (ff _ _) ?_)|(go_at_call 156;refine qmm (fj _ _) ?_))
  all_goals (go_ret;go_light;refine⟨gy ?_,rfl⟩;(first|(simp[bu,G,h1];done)|with_reducible exact uZ _ _|((first|rw[Bool.eq_iff_iff]|skip);simp_all[bu]<;>omega)))
theorem dP(c:UInt8)(w:World):Calls prog 78 #[.int .u8 (c.toNat:Int)] w λe w'=>e=.returned (.bool (bS c))∧w=w':=by
 cases G:iW c
 all_goals
  go_enter func78,ntmps78
  go_wp2_with (first|(go_at_call 77;refine qmm (ND _ _) ?_))
  all_goals (go_ret;go_light;refine⟨gy ?_,rfl⟩;(first|(simp[bS,gs,iW,G];done)|with_reducible exact uZ _ _|((first|rw[Bool.eq_iff_iff]|skip);simp_all[bS,gs,iW]<;>omega)))
theorem cj(c:UInt8)(w:World):Calls prog 185 #[.int .u8 (c.toNat:Int)] w λe w'=>e=.returned (.bool (bS c))∧w=w':=by
 cases G:iW c<;>cases h1:gs c
 all_goals
  go_enter func185,ntmps185
  go_wp2_with (first|(go_at_call 170;refine qmm (zl _ _) ?_)|(go_at_call 186;refine qmm (ca _ _) ?_))
  all_goals (go_ret;go_light;refine⟨gy ?_,rfl⟩;(first|(simp[bS,G,h1];done)|with_reducible exact uZ _ _|((first|rw[Bool.eq_iff_iff]|skip);simp_all[bS]<;>omega)))
theorem ry(c:UInt8)(w:World):Calls prog 200 #[.int .u8 (c.toNat:Int)] w λe w'=>e=.returned (.bool (aZ c))∧w=w':=by
 cases G:cO c<;>cases h1:upperB c<;>cases h2:bZ c
 all_goals
  go_enter func200,ntmps200
  go_wp2_with (first|(go_at_call 188;refine qmm (cz _ _) ?_)|(go_at_call 189;refine qmm (bk _ _) ?_)|(go_at_call 187;refine qmm (dJ _ _) ?_))
  all_goals (go_ret;go_light;refine⟨gy ?_,rfl⟩;(first|(simp[aZ,bu,G,h1,h2];done)|with_reducible exact uZ _ _|((first|rw[Bool.eq_iff_iff]|skip);simp_all[aZ,bu]<;>omega)))
theorem Ft(w:World):Calls prog 158 #[.string ⟨([109,111,100,117,108,101]:List UInt8).toArray⟩] w λe w'=>e=.returned (.bool true)∧w=w':=by
 go_enter func158,ntmps158
 go_wp2
 go_ret
 exact⟨rfl,rfl⟩
theorem Gu(w:World):Calls prog 158 #[.string ⟨([100,101,102]:List UInt8).toArray⟩] w λe w'=>e=.returned (.bool true)∧w=w':=by
 go_enter func158,ntmps158
 go_wp2
 go_ret
 exact⟨rfl,rfl⟩
theorem FJ(w:World):Calls prog 158 #[.string ⟨([116,121,112,101]:List UInt8).toArray⟩] w λe w'=>e=.returned (.bool true)∧w=w':=by
 go_enter func158,ntmps158
 go_wp2
 go_ret
 exact⟨rfl,rfl⟩
theorem Gp(w:World):Calls prog 158 #[.string ⟨([108,101,116]:List UInt8).toArray⟩] w λe w'=>e=.returned (.bool true)∧w=w':=by
 go_enter func158,ntmps158
 go_wp2
 go_ret
 exact⟨rfl,rfl⟩
theorem FV(w:World):Calls prog 158 #[.string ⟨([105,110]:List UInt8).toArray⟩] w λe w'=>e=.returned (.bool true)∧w=w':=by
 go_enter func158,ntmps158
 go_wp2
 go_ret
 exact⟨rfl,rfl⟩
theorem GD(w:World):Calls prog 158 #[.string ⟨([105,102]:List UInt8).toArray⟩] w λe w'=>e=.returned (.bool true)∧w=w':=by
 go_enter func158,ntmps158
 go_wp2
 go_ret
 exact⟨rfl,rfl⟩
theorem Gj(w:World):Calls prog 158 #[.string ⟨([116,104,101,110]:List UInt8).toArray⟩] w λe w'=>e=.returned (.bool true)∧w=w':=by
 go_enter func158,ntmps158
 go_wp2
 go_ret
 exact⟨rfl,rfl⟩
theorem Fn(w:World):Calls prog 158 #[.string ⟨([101,108,115,101]:List UInt8).toArray⟩] w λe w'=>e=.returned (.bool true)∧w=w':=by
 go_enter func158,ntmps158
 go_wp2
 go_ret
 exact⟨rfl,rfl⟩
theorem FH(w:World):Calls prog 158 #[.string ⟨([116,114,117,101]:List UInt8).toArray⟩] w λe w'=>e=.returned (.bool true)∧w=w':=by
 go_enter func158,ntmps158
 go_wp2
 go_ret
 exact⟨rfl,rfl⟩
theorem Fg(w:World):Calls prog 158 #[.string ⟨([102,97,108,115,101]:List UInt8).toArray⟩] w λe w'=>e=.returned (.bool true)∧w=w':=by
 go_enter func158,ntmps158
 go_wp2
 go_ret
 exact⟨rfl,rfl⟩
theorem DT(w:World):Calls prog 158 #[.string ⟨([73,110,116]:List UInt8).toArray⟩] w λe w'=>e=.returned (.bool true)∧w=w':=by
 go_enter func158,ntmps158
 go_wp2
 go_ret
 exact⟨rfl,rfl⟩
theorem DC(w:World):Calls prog 158 #[.string ⟨([84,101,120,116]:List UInt8).toArray⟩] w λe w'=>e=.returned (.bool true)∧w=w':=by
 go_enter func158,ntmps158
 go_wp2
 go_ret
 exact⟨rfl,rfl⟩
theorem DP(w:World):Calls prog 158 #[.string ⟨([66,111,111,108]:List UInt8).toArray⟩] w λe w'=>e=.returned (.bool true)∧w=w':=by
 go_enter func158,ntmps158
 go_wp2
 go_ret
 exact⟨rfl,rfl⟩
theorem DI(l:List UInt8)(w:World)(U:(l==[109,111,100,117,108,101])=false)(Z:(l==[100,101,102])=false)(b2:(l==[116,121,112,101])=false)(b3:(l==[108,101,116])=false)(b4:(l==[105,110])=false)(b5:(l==[105,102])=false)(b6:(l==[116,104,101,110])=false)(b7:(l==[101,108,115,101])=false)(b8:(l==[116,114,117,101])=false)(b9:(l==[102,97,108,115,101])=false)(G:(l==[73,110,116])=false)(J:(l==[84,101,120,116])=false)(O:(l==[66,111,111,108])=false):Calls prog 158 #[.string ⟨l.toArray⟩] w λe w'=>e=.returned (.bool false)∧w=w':=by
 go_enter func158,ntmps158
 go_wp2
 go_ret
 exact⟨rfl,rfl⟩
theorem cy(l:List UInt8)(w:World):Calls prog 158 #[.string ⟨l.toArray⟩] w λe w'=>e=.returned (.bool (lc l))∧w=w':=by
 by_cases U:l=[109,111,100,117,108,101]
 ·subst U;exact Ft w
 by_cases h1:l=[100,101,102]
 ·subst h1;exact Gu w
 by_cases h2:l=[116,121,112,101]
 ·subst h2;exact FJ w
 by_cases Z:l=[108,101,116]
 ·subst Z;exact Gp w
 by_cases h4:l=[105,110]
 ·subst h4;exact FV w
 by_cases h5:l=[105,102]
 ·subst h5;exact GD w
 by_cases h6:l=[116,104,101,110]
 ·subst h6;exact Gj w
 by_cases h7:l=[101,108,115,101]
 ·subst h7;exact Fn w
 by_cases h8:l=[116,114,117,101]
 ·subst h8;exact FH w
 by_cases h9:l=[102,97,108,115,101]
 ·subst h9;exact Fg w
 by_cases G:l=[73,110,116]
 ·subst G;exact DT w
 by_cases J:l=[84,101,120,116]
 ·subst J;exact DC w
 by_cases O:l=[66,111,111,108]
 ·subst O;exact DP w
 have hr:lc l=false:=by simp[lc,GL,U,h1,h2,Z,h4,h5,h6,h7,h8,h9,G,J,O]
 rw[hr];exact DI l w (by simpa using U) (by simpa using h1) (by simpa using h2) (by simpa using Z) (by simpa using h4) (by simpa using h5) (by simpa using h6) (by simpa using h7) (by simpa using h8) (by simpa using h9) (by simpa using G) (by simpa using J) (by simpa using O)
theorem FF(w:World):Calls prog 196 #[.string ⟨([109,111,100,117,108,101]:List UInt8).toArray⟩] w λe w'=>e=.returned (.bool true)∧w=w':=by
 go_enter func196,ntmps196
 go_wp2
 go_ret
 exact⟨rfl,rfl⟩
theorem FG(w:World):Calls prog 196 #[.string ⟨([100,101,102]:List UInt8).toArray⟩] w λe w'=>e=.returned (.bool true)∧w=w':=by
 go_enter func196,ntmps196
 go_wp2
 go_ret
 exact⟨rfl,rfl⟩
theorem Gz(w:World):Calls prog 196 #[.string ⟨([116,121,112,101]:List UInt8).toArray⟩] w λe w'=>e=.returned (.bool true)∧w=w':=by
 go_enter func196,ntmps196
 go_wp2
 go_ret
 exact⟨rfl,rfl⟩
theorem Gi(w:World):Calls prog 196 #[.string ⟨([108,101,116]:List UInt8).toArray⟩] w λe w'=>e=.returned (.bool true)∧w=w':=by
 go_enter func196,ntmps196
 go_wp2
 go_ret
 exact⟨rfl,rfl⟩
theorem Fq(w:World):Calls prog 196 #[.string ⟨([105,110]:List UInt8).toArray⟩] w λe w'=>e=.returned (.bool true)∧w=w':=by
 go_enter func196,ntmps196
 go_wp2
 go_ret
 exact⟨rfl,rfl⟩
theorem GK(w:World):Calls prog 196 #[.string ⟨([105,102]:List UInt8).toArray⟩] w λe w'=>e=.returned (.bool true)∧w=w':=by
 go_enter func196,ntmps196
 go_wp2
 go_ret
 exact⟨rfl,rfl⟩
theorem FA(w:World):Calls prog 196 #[.string ⟨([116,104,101,110]:List UInt8).toArray⟩] w λe w'=>e=.returned (.bool true)∧w=w':=by
 go_enter func196,ntmps196
 go_wp2
 go_ret
 exact⟨rfl,rfl⟩
theorem Fw(w:World):Calls prog 196 #[.string ⟨([101,108,115,101]:List UInt8).toArray⟩] w λe w'=>e=.returned (.bool true)∧w=w':=by
 go_enter func196,ntmps196
 go_wp2
 go_ret
 exact⟨rfl,rfl⟩
theorem FN(w:World):Calls prog 196 #[.string ⟨([116,114,117,101]:List UInt8).toArray⟩] w λe w'=>e=.returned (.bool true)∧w=w':=by
 go_enter func196,ntmps196
 go_wp2
 go_ret
 exact⟨rfl,rfl⟩
theorem Fy(w:World):Calls prog 196 #[.string ⟨([102,97,108,115,101]:List UInt8).toArray⟩] w λe w'=>e=.returned (.bool true)∧w=w':=by
 go_enter func196,ntmps196
 go_wp2
 go_ret
 exact⟨rfl,rfl⟩
theorem DO(w:World):Calls prog 196 #[.string ⟨([73,110,116]:List UInt8).toArray⟩] w λe w'=>e=.returned (.bool true)∧w=w':=by
 go_enter func196,ntmps196
 go_wp2
 go_ret
 exact⟨rfl,rfl⟩
theorem DQ(w:World):Calls prog 196 #[.string ⟨([84,101,120,116]:List UInt8).toArray⟩] w λe w'=>e=.returned (.bool true)∧w=w':=by
 go_enter func196,ntmps196
 go_wp2
 go_ret
 exact⟨rfl,rfl⟩
theorem DA(w:World):Calls prog 196 #[.string ⟨([66,111,111,108]:List UInt8).toArray⟩] w λe w'=>e=.returned (.bool true)∧w=w':=by
 go_enter func196,ntmps196
 go_wp2
 go_ret
 exact⟨rfl,rfl⟩
theorem DE(l:List UInt8)(w:World)(U:(l==[109,111,100,117,108,101])=false)(Z:(l==[100,101,102])=false)(b2:(l==[116,121,112,101])=false)(b3:(l==[108,101,116])=false)(b4:(l==[105,110])=false)(b5:(l==[105,102])=false)(b6:(l==[116,104,101,110])=false)(b7:(l==[101,108,115,101])=false)(b8:(l==[116,114,117,101])=false)(b9:(l==[102,97,108,115,101])=false)(G:(l==[73,110,116])=false)(J:(l==[84,101,120,116])=false)(O:(l==[66,111,111,108])=false):Calls prog 196 #[.string ⟨l.toArray⟩] w λe w'=>e=.returned (.bool false)∧w=w':=by
 go_enter func196,ntmps196
 go_wp2
 go_ret
 exact⟨rfl,rfl⟩
theorem dK(l:List UInt8)(w:World):Calls prog 196 #[.string ⟨l.toArray⟩] w λe w'=>e=.returned (.bool (lc l))∧w=w':=by
 by_cases U:l=[109,111,100,117,108,101]
 ·subst U;exact FF w
 by_cases h1:l=[100,101,102]
 ·subst h1;exact FG w
 by_cases h2:l=[116,121,112,101]
 ·subst h2;exact Gz w
 by_cases Z:l=[108,101,116]
 ·subst Z;exact Gi w
 by_cases h4:l=[105,110]
 ·subst h4;exact Fq w
 by_cases h5:l=[105,102]
 ·subst h5;exact GK w
 by_cases h6:l=[116,104,101,110]
 ·subst h6;exact FA w
 by_cases h7:l=[101,108,115,101]
 ·subst h7;exact Fw w
 by_cases h8:l=[116,114,117,101]
 ·subst h8;exact FN w
 by_cases h9:l=[102,97,108,115,101]
 ·subst h9;exact Fy w
 by_cases G:l=[73,110,116]
 ·subst G;exact DO w
 by_cases J:l=[84,101,120,116]
 ·subst J;exact DQ w
 by_cases O:l=[66,111,111,108]
 ·subst O;exact DA w
 have hr:lc l=false:=by simp[lc,GL,U,h1,h2,Z,h4,h5,h6,h7,h8,h9,G,J,O]
 rw[hr];exact DE l w (by simpa using U) (by simpa using h1) (by simpa using h2) (by simpa using Z) (by simpa using h4) (by simpa using h5) (by simpa using h6) (by simpa using h7) (by simpa using h8) (by simpa using h9) (by simpa using G) (by simpa using J) (by simpa using O)
set_option maxHeartbeats 1000000 in
theorem NM(s:ByteArray)(c:Int)(w:World):Calls prog 159 #[.string s,.int .u8 c] w λe w'=>e=.returned (.int .i64 (Lib.indexByte s.data.toList c.toNat.toUInt8))∧w=w':=by
 go_enter func159,ntmps159
 go_wp2
 rw[run_callFunc_extern func178 (by kernel_rfl) (by kernel_rfl) (by kernel_rfl) (e:=Extern.BytealgIndexByte.indexByte) (by kernel_rfl),Lib.run_indexByteString];simp only[Result.andThen];rw[Oper.upon_value]
 go_wp2
 go_ret
 exact⟨rfl,rfl⟩
theorem Fp(s:ByteArray)(c:Int)(w:World):Calls prog 120 #[.string s,.int .u8 c] w λe w'=>e=.returned (.int .i64 (Lib.indexByte s.data.toList c.toNat.toUInt8))∧w=w':=by
 go_enter func120,ntmps120
 go_wp2_with (go_at_call 159;refine qmm (NM _ _ _) ?_)
 go_ret
 exact⟨rfl,rfl⟩
set_option maxHeartbeats 400000 in
theorem hO(l:List UInt8)(w:World)(hl:l.length≤281474976710656):Calls prog 157 #[.string ⟨l.toArray⟩] w λe w'=>e=.returned (.int .i64 (spanN aZ l:Nat))∧w=w':=by
 go_enter func157,ntmps157
 go_wp2_with fail
 go_loop [3] (λn=>∃k:Nat,k≤l.length∧n=.int .i64 k∧Hid (spanN aZ l=k+spanN aZ (l.drop k))) (λn=>l.length-(intOf n).toNat)
 case atStart=>exact⟨0,by omega,rfl,Lib.hid (by simp)⟩
 case round=>
  obtain⟨k,hk,rfl,hrel⟩:=hrel;by_cases hlt:k<l.length
  ·obtain⟨c,hc⟩:∃c,({data:=l.toArray}:ByteArray)[k]'hlt=c:=⟨_,rfl⟩;have HC:=Lib.hid (show l[k]=c from hc)
   go_wp2_with (first|(go_at_call 115;refine qmm (bD _ _) ?_)|(go_at_call 117;refine qmm (eL _ _) ?_))
   all_goals go_light
   ·go_round
    case rel=>exact⟨k+1,by omega,by go_num,Lib.hid (by rw[hrel.out,mM hlt HC.out (ut (.inl ‹_›))];omega)⟩
    case measure=>simp[intOf];omega
   ·go_round
    case rel=>exact⟨k+1,by omega,by go_num,Lib.hid (by rw[hrel.out,mM hlt HC.out (ut (.inr (.inl ‹_›)))];omega)⟩
    case measure=>simp[intOf];omega
   ·go_round
    case rel=>exact⟨k+1,by omega,by go_num,Lib.hid (by rw[hrel.out,mM hlt HC.out (ut (.inr (.inr ‹_›)))];omega)⟩
    case measure=>simp[intOf];omega
   ·go_ret
    exact⟨bG (by rw[hrel.out,ra hlt HC.out (Dx ‹_› ‹_› ‹_›)];omega),rfl⟩
  ·go_wp2_with fail
   go_ret
   exact⟨bG (by rw[hrel.out,sU (by omega)];omega),rfl⟩
set_option maxHeartbeats 1000000 in
theorem kE(l:List UInt8)(w:World)(hl:l.length≤281474976710656):Calls prog 118 #[.string ⟨l.toArray⟩] w λe w'=>e=.returned (.tuple #[.int .i64 ((jy l).1:Nat),.int .i64 ((jy l).2:Nat)])∧w=w':=by
 go_enter func118,ntmps118
 go_wp2_with fail
 go_loop [4] (λn=>∃k:Nat,k≤l.length∧n=.int .i64 k∧Hid (spanN bZ l=k+spanN bZ (l.drop k))) (λn=>l.length-(intOf n).toNat)
 case atStart=>exact⟨0,by omega,rfl,Lib.hid (by simp)⟩
 case round=>
  obtain⟨k,hk,rfl,hrel⟩:=hrel;by_cases hlt:k<l.length
  ·obtain⟨c,hc⟩:∃c,({data:=l.toArray}:ByteArray)[k]'hlt=c:=⟨_,rfl⟩;have HC:=Lib.hid (show l[k]=c from hc);cases hd:bZ c
   ·have HN:=Lib.hid (show spanN bZ l=k from by rw[hrel.out,ra hlt HC.out hd];omega);have hk0:=hk;by_cases h1:1<k
    ·have h0:0<l.length:=by omega
     obtain⟨c0,hc0⟩:∃c,({data:=l.toArray}:ByteArray)[0]'h0=c:=⟨_,rfl⟩;have HC0:=Lib.hid (show l[0]=c0 from hc0);cases h48:((c0.toNat:Int)==48)
     ·have HG:=Lib.hid (show 1<k→¬(l.getD 0 0).toNat=48 from λ_=>by rw[aN h0 HC0.out];exact cW (m:=48) h48);by_cases h15:15<k
      ·go_wp2_with (go_at_call 117;refine qmm (eL _ _) ?_)
       go_ret2
       exact⟨by rw[oS HN.out HG.out h15];rfl,rfl⟩
      ·go_wp2_with (go_at_call 117;refine qmm (eL _ _) ?_)
       go_ret2
       exact⟨by rw[jK HN.out HG.out h15];rfl,rfl⟩
     ·go_wp2_with (go_at_call 117;refine qmm (eL _ _) ?_)
      go_ret2
      exact⟨by rw[om HN.out h1 h0 HC0.out h48];rfl,rfl⟩
    ·go_wp2_with (go_at_call 117;refine qmm (eL _ _) ?_)
     go_ret2
     exact⟨by rw[jK HN.out (λh=>absurd h h1) (by omega)];rfl,rfl⟩
   ·go_wp2_with (go_at_call 117;refine qmm (eL _ _) ?_)
    go_light
    go_round
    case rel=>exact⟨k+1,by omega,by go_num,Lib.hid (by rw[hrel.out,mM hlt HC.out hd];omega)⟩
    case measure=>simp[intOf];omega
  ·have HN:=Lib.hid (show spanN bZ l=k from by rw[hrel.out,sU (by omega)];omega);have hk0:=hk;by_cases h1:1<k
   ·have h0:0<l.length:=by omega
    obtain⟨c0,hc0⟩:∃c,({data:=l.toArray}:ByteArray)[0]'h0=c:=⟨_,rfl⟩;have HC0:=Lib.hid (show l[0]=c0 from hc0);cases h48:((c0.toNat:Int)==48)
    ·have HG:=Lib.hid (show 1<k→¬(l.getD 0 0).toNat=48 from λ_=>by rw[aN h0 HC0.out];exact cW (m:=48) h48);by_cases h15:15<k
     ·go_wp2_with (go_at_call 117;refine qmm (eL _ _) ?_)
      go_ret2
      exact⟨by rw[oS HN.out HG.out h15];rfl,rfl⟩
     ·go_wp2_with (go_at_call 117;refine qmm (eL _ _) ?_)
      go_ret2
      exact⟨by rw[jK HN.out HG.out h15];rfl,rfl⟩
    ·go_wp2_with (go_at_call 117;refine qmm (eL _ _) ?_)
     go_ret2
     exact⟨by rw[om HN.out h1 h0 HC0.out h48];rfl,rfl⟩
   ·go_wp2_with (go_at_call 117;refine qmm (eL _ _) ?_)
    go_ret2
    exact⟨by rw[jK HN.out (λh=>absurd h h1) (by omega)];rfl,rfl⟩
set_option maxHeartbeats 1000000 in
theorem ku(l:List UInt8)(w:World)(h0:0<l.length)(hl:l.length≤281474976710656):Calls prog 119 #[.string ⟨l.toArray⟩] w λe w'=>e=.returned (.tuple #[.int .i64 ((quotedT l.tail 1).1:Nat),.int .i64 ((quotedT l.tail 1).2:Nat)])∧w=w':=by
 obtain⟨r,hr⟩:∃r,quotedT l.tail 1=r:=⟨_,rfl⟩;rw[hr];have HR:=Lib.hid hr;clear hr
 go_enter func119,ntmps119
 go_wp2_with fail
 go_loop [4,5] (λn c=>∃k:Nat,k≤l.length∧n=.int .i64 k∧Hid (r=quotedT (l.drop k) k)) (λn _=>l.length-(intOf n).toNat)
 case atStart=>exact⟨1,by omega,rfl,Lib.hid (by rw[←HR.out,List.drop_one])⟩
 case round=>
  obtain⟨k,hk,rfl,hrel⟩:=hrel;by_cases hlt:k<l.length
  ·obtain⟨c,hc⟩:∃c,({data:=l.toArray}:ByteArray)[k]'hlt=c:=⟨_,rfl⟩;have HC:=Lib.hid (show l[k]=c from hc);have HS:=Lib.hid (Ds hlt HC.out);cases ha:bS c
   ·go_wp2_with (go_at_call 78;refine qmm (dP _ _) ?_)
    go_ret2
    exact⟨by rw[hrel.out,HS.out,if_pos ha];rfl,rfl⟩
   cases h34:((c.toNat:Int)==34)
   rotate_left
   ·go_wp2_with (go_at_call 78;refine qmm (dP _ _) ?_)
    go_ret2
    exact⟨by rw[hrel.out,HS.out,if_neg (by simp[ha]),if_pos (gx (m:=34) h34)];rfl,rfl⟩
   cases h92:((c.toNat:Int)==92)
   rotate_left
   ·go_wp2_with (go_at_call 78;refine qmm (dP _ _) ?_)
    go_ret2
    exact⟨by rw[hrel.out,HS.out,if_neg (by simp[ha]),if_neg (cW (m:=34) h34),if_pos (.inl (gx (m:=92) h92))];rfl,rfl⟩
   by_cases h32:(c.toNat:Int)<32
   ·go_wp2_with (go_at_call 78;refine qmm (dP _ _) ?_)
    go_ret2
    exact⟨by rw[hrel.out,HS.out,if_neg (by simp[ha]),if_neg (cW (m:=34) h34),if_pos (.inr (by omega))];rfl,rfl⟩
   ·go_wp2_with (go_at_call 78;refine qmm (dP _ _) ?_)
    go_light
    go_round
    case rel=>exact⟨k+1,by omega,by go_num,Lib.hid (by rw[hrel.out,HS.out,if_neg (by simp[ha]),if_neg (cW (m:=34) h34),if_neg (by have :=cW (m:=92) h92;omega)])⟩
    case measure=>simp[intOf];omega
  ·go_wp2_with (go_at_call 78;refine qmm (dP _ _) ?_)
   go_ret2
   exact⟨by rw[hrel.out,DS (by omega)];rfl,rfl⟩
set_option maxHeartbeats 4000000 in
theorem oq(l:List UInt8)(w:World)(h0:0<l.length)(hl:l.length≤281474976710656):Calls prog 116 #[.string ⟨l.toArray⟩] w λe w'=>e=.returned (.tuple #[.int .i64 ((cd l).1:Nat),.int .i64 ((cd l).2.1:Nat),.int .i64 ((cd l).2.2:Nat)])∧w=w':=by
 obtain⟨n,hn⟩:∃n,spanN aZ l=n:=⟨_,rfl⟩;have hnl:n≤l.length:=by have :=rB aZ l;omega
 have HN:=Lib.hid hn;clear hn;obtain⟨c0,hc0⟩:∃c,({data:=l.toArray}:ByteArray)[0]'h0=c:=⟨_,rfl⟩;have HC0:=Lib.hid (show l[0]=c0 from hc0);have hx:=Bx;have hx2:=vg
 go_enter func116,ntmps116
 go_wp2_with fail
 refine(hO _ _ hl).mono ?_;rintro e w' ⟨rfl,rfl⟩;rw[HN.out];cases hr:lc (l.take n)
 rotate_left
 ·cases hu:upperB c0
  all_goals
   have HQ:=Lib.hid (jR HN.out (Hh HN.out hr));by_cases G:24<n
   ·skip
    have HW:=Lib.hid (show cd l=(0,0,3)from by rw[HQ.out,bQ,if_pos G])
    go_wp2_with (first|(go_at_call 157;refine qmm (hO _ _ (by simp;omega)) ?_)|(go_at_call 158;refine qmm (cy _ _) ?_)|(go_at_call 156;refine qmm (fj _ _) ?_)|(go_at_call 155;refine qmm (ff _ _) ?_)|(go_at_call 115;refine qmm (bD _ _) ?_))
    go_ret3
    exact⟨by rw[HW.out];rfl,rfl⟩
   ·skip
    have HW:=Lib.hid (show cd l=(7,n,0)from by rw[HQ.out,bQ,if_neg G,if_pos hr])
    go_wp2_with (first|(go_at_call 157;refine qmm (hO _ _ (by simp;omega)) ?_)|(go_at_call 158;refine qmm (cy _ _) ?_)|(go_at_call 156;refine qmm (fj _ _) ?_)|(go_at_call 155;refine qmm (ff _ _) ?_)|(go_at_call 115;refine qmm (bD _ _) ?_))
    go_ret3
    exact⟨by rw[HW.out];rfl,rfl⟩
 cases hu:upperB c0
 ·skip
  have HQ:=Lib.hid (jR HN.out (Ht h0 HC0.out hu));by_cases G:24<n
  ·skip
   have HW:=Lib.hid (show cd l=(0,0,3)from by rw[HQ.out,bQ,if_pos G])
   go_wp2_with (first|(go_at_call 157;refine qmm (hO _ _ (by simp;omega)) ?_)|(go_at_call 158;refine qmm (cy _ _) ?_)|(go_at_call 156;refine qmm (fj _ _) ?_)|(go_at_call 155;refine qmm (ff _ _) ?_)|(go_at_call 115;refine qmm (bD _ _) ?_))
   go_ret3
   exact⟨by rw[HW.out];rfl,rfl⟩
  ·cases J:cO c0
   ·skip
    have HW:=Lib.hid (show cd l=(2,n,0)from by rw[HQ.out,bQ,if_neg G,if_neg (by simp[hr]),if_neg (by rw[aN h0 HC0.out];simp[J])])
    go_wp2_with (first|(go_at_call 157;refine qmm (hO _ _ (by simp;omega)) ?_)|(go_at_call 158;refine qmm (cy _ _) ?_)|(go_at_call 156;refine qmm (fj _ _) ?_)|(go_at_call 155;refine qmm (ff _ _) ?_)|(go_at_call 115;refine qmm (bD _ _) ?_))
    go_ret3
    exact⟨by rw[HW.out];rfl,rfl⟩
   ·skip
    have HW:=Lib.hid (show cd l=(1,n,0)from by rw[HQ.out,bQ,if_neg G,if_neg (by simp[hr]),if_pos (by rw[aN h0 HC0.out];exact J)])
    go_wp2_with (first|(go_at_call 157;refine qmm (hO _ _ (by simp;omega)) ?_)|(go_at_call 158;refine qmm (cy _ _) ?_)|(go_at_call 156;refine qmm (fj _ _) ?_)|(go_at_call 155;refine qmm (ff _ _) ?_)|(go_at_call 115;refine qmm (bD _ _) ?_))
    go_ret3
    exact⟨by rw[HW.out];rfl,rfl⟩
 by_cases h2:n+1<l.length
 rotate_left
 ·have h2':¬((n:Int)+1<l.length):=by omega
  have HQ:=Lib.hid (jR HN.out (Ip HN.out h2));by_cases G:24<n
  ·skip
   have HW:=Lib.hid (show cd l=(0,0,3)from by rw[HQ.out,bQ,if_pos G])
   go_wp2_with (first|(go_at_call 157;refine qmm (hO _ _ (by simp;omega)) ?_)|(go_at_call 158;refine qmm (cy _ _) ?_)|(go_at_call 156;refine qmm (fj _ _) ?_)|(go_at_call 155;refine qmm (ff _ _) ?_)|(go_at_call 115;refine qmm (bD _ _) ?_))
   go_ret3
   exact⟨by rw[HW.out];rfl,rfl⟩
  ·cases J:cO c0
   ·skip
    have HW:=Lib.hid (show cd l=(2,n,0)from by rw[HQ.out,bQ,if_neg G,if_neg (by simp[hr]),if_neg (by rw[aN h0 HC0.out];simp[J])])
    go_wp2_with (first|(go_at_call 157;refine qmm (hO _ _ (by simp;omega)) ?_)|(go_at_call 158;refine qmm (cy _ _) ?_)|(go_at_call 156;refine qmm (fj _ _) ?_)|(go_at_call 155;refine qmm (ff _ _) ?_)|(go_at_call 115;refine qmm (bD _ _) ?_))
    go_ret3
    exact⟨by rw[HW.out];rfl,rfl⟩
   ·skip
    have HW:=Lib.hid (show cd l=(1,n,0)from by rw[HQ.out,bQ,if_neg G,if_neg (by simp[hr]),if_pos (by rw[aN h0 HC0.out];exact J)])
    go_wp2_with (first|(go_at_call 157;refine qmm (hO _ _ (by simp;omega)) ?_)|(go_at_call 158;refine qmm (cy _ _) ?_)|(go_at_call 156;refine qmm (fj _ _) ?_)|(go_at_call 155;refine qmm (ff _ _) ?_)|(go_at_call 115;refine qmm (bD _ _) ?_))
    go_ret3
    exact⟨by rw[HW.out];rfl,rfl⟩
 have hn1:n<l.length:=by omega
 obtain⟨c1,hc1⟩:∃c,({data:=l.toArray}:ByteArray)[n]'hn1=c:=⟨_,rfl⟩;have HC1:=Lib.hid (show l[n]=c1 from hc1);obtain⟨c2,hc2⟩:∃c,({data:=l.toArray}:ByteArray)[n+1]'h2=c:=⟨_,rfl⟩;have HC2:=Lib.hid (show l[n+1]=c2 from hc2);cases U:((c1.toNat:Int)==46)
 ·skip
  have HQ:=Lib.hid (jR HN.out (Im HN.out hn1 HC1.out U));by_cases G:24<n
  ·skip
   have HW:=Lib.hid (show cd l=(0,0,3)from by rw[HQ.out,bQ,if_pos G])
   go_wp2_with (first|(go_at_call 157;refine qmm (hO _ _ (by simp;omega)) ?_)|(go_at_call 158;refine qmm (cy _ _) ?_)|(go_at_call 156;refine qmm (fj _ _) ?_)|(go_at_call 155;refine qmm (ff _ _) ?_)|(go_at_call 115;refine qmm (bD _ _) ?_))
   go_ret3
   exact⟨by rw[HW.out];rfl,rfl⟩
  ·cases J:cO c0
   ·skip
    have HW:=Lib.hid (show cd l=(2,n,0)from by rw[HQ.out,bQ,if_neg G,if_neg (by simp[hr]),if_neg (by rw[aN h0 HC0.out];simp[J])])
    go_wp2_with (first|(go_at_call 157;refine qmm (hO _ _ (by simp;omega)) ?_)|(go_at_call 158;refine qmm (cy _ _) ?_)|(go_at_call 156;refine qmm (fj _ _) ?_)|(go_at_call 155;refine qmm (ff _ _) ?_)|(go_at_call 115;refine qmm (bD _ _) ?_))
    go_ret3
    exact⟨by rw[HW.out];rfl,rfl⟩
   ·skip
    have HW:=Lib.hid (show cd l=(1,n,0)from by rw[HQ.out,bQ,if_neg G,if_neg (by simp[hr]),if_pos (by rw[aN h0 HC0.out];exact J)])
    go_wp2_with (first|(go_at_call 157;refine qmm (hO _ _ (by simp;omega)) ?_)|(go_at_call 158;refine qmm (cy _ _) ?_)|(go_at_call 156;refine qmm (fj _ _) ?_)|(go_at_call 155;refine qmm (ff _ _) ?_)|(go_at_call 115;refine qmm (bD _ _) ?_))
    go_ret3
    exact⟨by rw[HW.out];rfl,rfl⟩
 cases h3:bu c2
 ·skip
  have HQ:=Lib.hid (jR HN.out (GO HN.out h2 HC2.out h3));by_cases G:24<n
  ·skip
   have HW:=Lib.hid (show cd l=(0,0,3)from by rw[HQ.out,bQ,if_pos G])
   go_wp2_with (first|(go_at_call 157;refine qmm (hO _ _ (by simp;omega)) ?_)|(go_at_call 158;refine qmm (cy _ _) ?_)|(go_at_call 156;refine qmm (fj _ _) ?_)|(go_at_call 155;refine qmm (ff _ _) ?_)|(go_at_call 115;refine qmm (bD _ _) ?_))
   go_ret3
   exact⟨by rw[HW.out];rfl,rfl⟩
  ·cases J:cO c0
   ·skip
    have HW:=Lib.hid (show cd l=(2,n,0)from by rw[HQ.out,bQ,if_neg G,if_neg (by simp[hr]),if_neg (by rw[aN h0 HC0.out];simp[J])])
    go_wp2_with (first|(go_at_call 157;refine qmm (hO _ _ (by simp;omega)) ?_)|(go_at_call 158;refine qmm (cy _ _) ?_)|(go_at_call 156;refine qmm (fj _ _) ?_)|(go_at_call 155;refine qmm (ff _ _) ?_)|(go_at_call 115;refine qmm (bD _ _) ?_))
    go_ret3
    exact⟨by rw[HW.out];rfl,rfl⟩
   ·skip
    have HW:=Lib.hid (show cd l=(1,n,0)from by rw[HQ.out,bQ,if_neg G,if_neg (by simp[hr]),if_pos (by rw[aN h0 HC0.out];exact J)])
    go_wp2_with (first|(go_at_call 157;refine qmm (hO _ _ (by simp;omega)) ?_)|(go_at_call 158;refine qmm (cy _ _) ?_)|(go_at_call 156;refine qmm (fj _ _) ?_)|(go_at_call 155;refine qmm (ff _ _) ?_)|(go_at_call 115;refine qmm (bD _ _) ?_))
    go_ret3
    exact⟨by rw[HW.out];rfl,rfl⟩
 obtain⟨m,hm⟩:∃m,spanN aZ (l.drop (n+1))=m:=⟨_,rfl⟩;have hml:n+1+m≤l.length:=by have :=rB aZ (l.drop (n+1));simp at this;omega
 have HM:=Lib.hid hm;have HQ:=Lib.hid (AB HN.out hm (BB HN.out h0 HC0.out hu hr h2 hn1 HC1.out U HC2.out h3));by_cases G:24<n
 ·skip
  have HW:=Lib.hid (show cd l=(0,0,3)from by rw[HQ.out,fO,if_pos (.inl G)])
  go_wp2_with (first|(go_at_call 157;refine qmm (hO _ _ (by simp;omega)) ?_)|(go_at_call 158;refine qmm (cy _ _) ?_)|(go_at_call 156;refine qmm (fj _ _) ?_)|(go_at_call 155;refine qmm (ff _ _) ?_)|(go_at_call 115;refine qmm (bD _ _) ?_))
  go_ret3
  exact⟨by rw[HW.out];rfl,rfl⟩
 by_cases Z:24<m
 ·skip
  have HW:=Lib.hid (show cd l=(0,0,3)from by rw[HQ.out,fO,if_pos (.inr Z)])
  go_wp2_with (first|(go_at_call 157;refine qmm (hO _ _ (by simp;omega)) ?_)|(go_at_call 158;refine qmm (cy _ _) ?_)|(go_at_call 156;refine qmm (fj _ _) ?_)|(go_at_call 155;refine qmm (ff _ _) ?_)|(go_at_call 115;refine qmm (bD _ _) ?_))
  go_ret3
  exact⟨by rw[HW.out];rfl,rfl⟩
 have he:n+1+m-(n+1)=m:=by omega
 cases O:lc ((l.drop (n+1)).take m)
 rotate_left
 ·skip
  have HW:=Lib.hid (show cd l=(0,0,2)from by rw[HQ.out,fO,if_neg (by omega),if_pos O])
  go_wp2_with (first|(go_at_call 157;refine qmm (hO _ _ (by simp;omega)) ?_)|(go_at_call 158;refine qmm (cy _ _) ?_)|(go_at_call 156;refine qmm (fj _ _) ?_)|(go_at_call 155;refine qmm (ff _ _) ?_)|(go_at_call 115;refine qmm (bD _ _) ?_))
  go_ret3
  exact⟨by rw[HW.out];rfl,rfl⟩
 cases J:cO c2
 ·skip
  have HW:=Lib.hid (show cd l=(4,n+1+m,0)from by rw[HQ.out,fO,if_neg (by omega),if_neg (by simp[O]),if_neg (by rw[aN h2 HC2.out];simp[J])])
  go_wp2_with (first|(go_at_call 157;refine qmm (hO _ _ (by simp;omega)) ?_)|(go_at_call 158;refine qmm (cy _ _) ?_)|(go_at_call 156;refine qmm (fj _ _) ?_)|(go_at_call 155;refine qmm (ff _ _) ?_)|(go_at_call 115;refine qmm (bD _ _) ?_))
  go_ret3
  exact⟨by rw[HW.out];rfl,rfl⟩
 ·skip
  have HW:=Lib.hid (show cd l=(3,n+1+m,0)from by rw[HQ.out,fO,if_neg (by omega),if_neg (by simp[O]),if_pos (by rw[aN h2 HC2.out];exact J)])
  go_wp2_with (first|(go_at_call 157;refine qmm (hO _ _ (by simp;omega)) ?_)|(go_at_call 158;refine qmm (cy _ _) ?_)|(go_at_call 156;refine qmm (fj _ _) ?_)|(go_at_call 155;refine qmm (ff _ _) ?_)|(go_at_call 115;refine qmm (bD _ _) ?_))
  go_ret3
  exact⟨by rw[HW.out];rfl,rfl⟩
end Go.Proofs.YtomplbgchbfjpaaGreatDoor
namespace Go.Proofs.YtomplbgchbfjpaaGreatDoor.Lx
def jw(l:List UInt8):Nat:=if bu (l.getD 0 0)=true then spanN aZ l else 0
def signLen(l:List UInt8):Nat:=
 if(l.getD 0 0).toNat=61 then(if 1<l.length∧(l.getD 1 0).toNat=61 then 2 else 1)
 else if([40,41,91,93,58,44,43,45,42,60,63]:List Nat).contains (l.getD 0 0).toNat=true then 1 else 0
theorem wf(l:List UInt8)(k:Nat):(l.drop k).getD 0 0=l.getD k 0:=by simp[List.getD]
theorem FP(l:List UInt8)(k:Nat):(l.drop k).getD 1 0=l.getD (k+1) 0:=by simp[List.getD]
variable{k:Nat}
theorem GF{l:List UInt8}{c:UInt8}(h:k<l.length)(G:l[k]=c):
  signLen (l.drop k)=if c.toNat=61 then(if k+1<l.length∧(l.getD (k+1) 0).toNat=61 then 2 else 1)
   else if([40,41,91,93,58,44,43,45,42,60,63]:List Nat).contains c.toNat=true then 1 else 0:=by
 unfold signLen;rw[wf,FP,aN h G,List.length_drop];by_cases h2:k+1<l.length
 ·have h1:1<l.length-k:=by omega
  simp only[h1,h2]
 ·have h1:¬1<l.length-k:=by omega
  simp only[h1,h2]
theorem Bq{c:UInt8}(h:bu c=true)(G:upperB c=false):cO c=true:=by simpa[bu,G]using h
theorem tj{c:UInt8}(G:upperB c=true):cO c=false:=by simp[upperB,cO]at *;omega
theorem GH{l:List UInt8}{j:Nat}{c:UInt8}(h:k<l.length)(G:l[k]=c):
  quotedT (l.drop k) j=if bS c=false then(j,1)else if c.toNat=34 then(j+1,0)else if c.toNat=92∨c.toNat<32 then(0,2)else quotedT (l.drop (k+1)) (j+1):=by
 rw[List.drop_eq_getElem_cons h,G];rfl
theorem zH{l:List UInt8}{j:Nat}(h:l.length≤k):quotedT (l.drop k) j=(0,2):=by
 rw[List.drop_of_length_le h];rfl
theorem Gs{c:UInt8}(J:bS c=true)(G:gs c=false):c.toNat<32:=by
 simp[bS,G,iW]at J;simp[gs]at G;omega
theorem FQ{c:UInt8}(G:gs c=true):¬c.toNat<32:=by
 simp[gs]at G;omega
theorem AH{c:UInt8}(h:c.toNat=34):bS c=true:=by simp[bS,gs,h]
theorem IA(l:List UInt8):(if(l.getD 0 0).toNat=61∧1<l.length∧(l.getD 1 0).toNat=61 then((8,2,0):Nat×Nat×Nat)else if pT.contains (l.getD 0 0)=true then(8,1,0)else(0,0,2))=
  if signLen l=0 then(0,0,2)else(8,signLen l,0):=by
 unfold signLen;generalize l.getD 0 0=c;generalize l.getD 1 0=d;by_cases G:c.toNat=61
 ·have J:c=61:=by apply UInt8.toNat_inj.1;simpa using G
  subst J;by_cases h2:1<l.length∧d.toNat=61
  ·simp[h2]
  ·simp[h2,pT]
 ·have :pT.contains c=([40,41,91,93,58,44,43,45,42,60,63]:List Nat).contains c.toNat:=by
   simp only[pT,List.contains_cons,List.contains_nil,Bool.or_false];have h:∀n:UInt8,(c==n)=(c.toNat==n.toNat):=λn=>by rw[Bool.eq_iff_iff];simp[UInt8.toNat_inj]
   simp only[h];have :(c.toNat==(61:UInt8).toNat)=false:=by simpa using G
   rw[this];rfl
  rw[this];simp only[G,false_and,if_false];split<;>simp_all
end Go.Proofs.YtomplbgchbfjpaaGreatDoor.Lx
namespace Go.Proofs.YtomplbgchbfjpaaGreatDoor
open _root_.Go.Proofs.Tryz
open Go.RowKit Lx
set_option maxRecDepth 100000
set_option maxHeartbeats 1000000 in
theorem kf(l:List UInt8)(x:Int)(k:Nat)(hx:x=k)(w:World)(hk:k≤l.length)(hl:l.length≤281474976710656):Calls prog 195 #[.string ⟨l.toArray⟩,.int .i64 x] w λe w'=>e=.returned (.int .i64 (jw (l.drop k):Nat))∧w=w':=by
 subst hx;by_cases hlt:k<l.length
 rotate_left
 ·have HR:=Lib.hid (show jw (l.drop k)=0 from by rw[List.drop_of_length_le (by omega)];rfl);have hge:(l.length:Int)≤k:=by omega
  go_enter func195,ntmps195
  go_wp2_with (first|(go_at_call 188;refine qmm (cz _ _) ?_)|(go_at_call 189;refine qmm (bk _ _) ?_)|(go_at_call 200;refine qmm (ry _ _) ?_))
  go_ret
  exact⟨bG (by rw[HR.out];rfl),rfl⟩
 obtain⟨c,hc⟩:∃c,({data:=l.toArray}:ByteArray)[k]'hlt=c:=⟨_,rfl⟩;have HC:=Lib.hid (show l[k]=c from hc);have hge:decide (l.length≤k)=false:=by simp;omega
 have HG:=Lib.hid (show(l.drop k).getD 0 0=c from by rw[wf];exact aN hlt HC.out);cases hlo:cO c<;>cases hup:upperB c
 ·have HR:=Lib.hid (show jw (l.drop k)=0 from by rw[jw,HG.out];simp[bu,hlo,hup])
  go_enter func195,ntmps195
  go_wp2_with (first|(go_at_call 188;refine qmm (cz _ _) ?_)|(go_at_call 189;refine qmm (bk _ _) ?_)|(go_at_call 200;refine qmm (ry _ _) ?_))
  go_ret
  exact⟨bG (by rw[HR.out];rfl),rfl⟩
 all_goals
  have HR:=Lib.hid (show jw (l.drop k)=spanN aZ (l.drop k)from by rw[jw,HG.out];simp[bu,hlo,hup]);rw[HR.out];clear HR
  go_enter func195,ntmps195
  go_wp2_with (first|(go_at_call 188;refine qmm (cz _ _) ?_)|(go_at_call 189;refine qmm (bk _ _) ?_)|(go_at_call 200;refine qmm (ry _ _) ?_))
  go_loopg [5] (l.length-k) (λg n wx=>∃i:Nat,g=l.length-i∧wx=w∧k≤i∧i≤l.length∧n=.int .i64 i∧Hid (spanN aZ (l.drop k)=i-k+spanN aZ (l.drop i)))
  case atStart=>exact⟨k,rfl,rfl,Nat.le_refl _,hk,rfl,Lib.hid (by omega)⟩
  case round=>
   obtain⟨i,rfl,rfl,hki,hil,rfl,hrel⟩:=hrel;by_cases hit:i<l.length
   ·skip
    obtain⟨d,hd⟩:∃c,({data:=l.toArray}:ByteArray)[i]'hit=c:=⟨_,rfl⟩;have HD:=Lib.hid (show l[i]=d from hd);cases hwd:aZ d
    ·go_wp2_with (first|(go_at_call 188;refine qmm (cz _ _) ?_)|(go_at_call 189;refine qmm (bk _ _) ?_)|(go_at_call 200;refine qmm (ry _ _) ?_))
     go_ret
     exact⟨bG (by rw[hrel.out,ra hit HD.out hwd];omega),rfl⟩
    ·go_wp2_with (first|(go_at_call 188;refine qmm (cz _ _) ?_)|(go_at_call 189;refine qmm (bk _ _) ?_)|(go_at_call 200;refine qmm (ry _ _) ?_))
     go_roundg (l.length-(i+1))
     case measure=>omega
     case rel=>exact⟨i+1,rfl,rfl,by omega,by omega,by go_num,Lib.hid (by rw[hrel.out,mM hit HD.out hwd];omega)⟩
   ·go_wp2_with (first|(go_at_call 188;refine qmm (cz _ _) ?_)|(go_at_call 189;refine qmm (bk _ _) ?_)|(go_at_call 200;refine qmm (ry _ _) ?_))
    go_ret
    exact⟨bG (by rw[hrel.out,sU (by omega)];omega),rfl⟩
set_option maxHeartbeats 2000000 in
theorem gb(l:List UInt8)(x:Int)(k:Nat)(hx:x=k)(w:World)(hlt:k<l.length)(hl:l.length≤281474976710656):Calls prog 191 #[.string ⟨l.toArray⟩,.int .i64 x] w λe w'=>e=.returned (.int .i64 (signLen (l.drop k):Nat))∧w=w':=by
 subst hx;obtain⟨c,hc⟩:∃c,({data:=l.toArray}:ByteArray)[k]'hlt=c:=⟨_,rfl⟩;have HC:=Lib.hid (show l[k]=c from hc);have HS:=Lib.hid (GF hlt HC.out);cases G:((c.toNat:Int)==61)
 rotate_left
 ·by_cases h1:k+1<l.length
  ·have h1':(k:Int)+1<l.length:=by omega
   obtain⟨d,hd⟩:∃c,({data:=l.toArray}:ByteArray)[k+1]'h1=c:=⟨_,rfl⟩;have HD:=Lib.hid (show l[k+1]=d from hd);cases J:((d.toNat:Int)==61)
   ·go_enter func191,ntmps191
    go_wp2
    go_ret
    exact⟨bG (by rw[HS.out,if_pos (gx (m:=61) G),if_neg (λh=>cW (m:=61) J (by rw[←aN h1 HD.out];exact h.2))];rfl),rfl⟩
   ·go_enter func191,ntmps191
    go_wp2
    go_ret
    exact⟨bG (by rw[HS.out,if_pos (gx (m:=61) G),if_pos ⟨h1,by rw[aN h1 HD.out];exact gx (m:=61) J⟩];rfl),rfl⟩
  ·have h1':¬((k:Int)+1<l.length):=by omega
   go_enter func191,ntmps191
   go_wp2
   go_ret
   exact⟨bG (by rw[HS.out,if_pos (gx (m:=61) G),if_neg (λh=>h1 h.1)];rfl),rfl⟩
 cases O:((c.toNat:Int)==40)
 rotate_left
 ·go_enter func191,ntmps191
  go_wp2
  go_ret
  exact⟨bG (by rw[HS.out,if_neg (cW (m:=61) G),if_pos (by simp[gx (m:=40) O])];rfl),rfl⟩
 cases U:((c.toNat:Int)==41)
 rotate_left
 ·go_enter func191,ntmps191
  go_wp2
  go_ret
  exact⟨bG (by rw[HS.out,if_neg (cW (m:=61) G),if_pos (by simp[gx (m:=41) U])];rfl),rfl⟩
 cases Z:((c.toNat:Int)==91)
 rotate_left
 ·go_enter func191,ntmps191
  go_wp2
  go_ret
  exact⟨bG (by rw[HS.out,if_neg (cW (m:=61) G),if_pos (by simp[gx (m:=91) Z])];rfl),rfl⟩
 cases h93:((c.toNat:Int)==93)
 rotate_left
 ·go_enter func191,ntmps191
  go_wp2
  go_ret
  exact⟨bG (by rw[HS.out,if_neg (cW (m:=61) G),if_pos (by simp[gx (m:=93) h93])];rfl),rfl⟩
 cases h58:((c.toNat:Int)==58)
 rotate_left
 ·go_enter func191,ntmps191
  go_wp2
  go_ret
  exact⟨bG (by rw[HS.out,if_neg (cW (m:=61) G),if_pos (by simp[gx (m:=58) h58])];rfl),rfl⟩
 cases h44:((c.toNat:Int)==44)
 rotate_left
 ·go_enter func191,ntmps191
  go_wp2
  go_ret
  exact⟨bG (by rw[HS.out,if_neg (cW (m:=61) G),if_pos (by simp[gx (m:=44) h44])];rfl),rfl⟩
 cases h43:((c.toNat:Int)==43)
 rotate_left
 ·go_enter func191,ntmps191
  go_wp2
  go_ret
  exact⟨bG (by rw[HS.out,if_neg (cW (m:=61) G),if_pos (by simp[gx (m:=43) h43])];rfl),rfl⟩
 cases h45:((c.toNat:Int)==45)
 rotate_left
 ·go_enter func191,ntmps191
  go_wp2
  go_ret
  exact⟨bG (by rw[HS.out,if_neg (cW (m:=61) G),if_pos (by simp[gx (m:=45) h45])];rfl),rfl⟩
 cases h42:((c.toNat:Int)==42)
 rotate_left
 ·go_enter func191,ntmps191
  go_wp2
  go_ret
  exact⟨bG (by rw[HS.out,if_neg (cW (m:=61) G),if_pos (by simp[gx (m:=42) h42])];rfl),rfl⟩
 cases h60:((c.toNat:Int)==60)
 rotate_left
 ·go_enter func191,ntmps191
  go_wp2
  go_ret
  exact⟨bG (by rw[HS.out,if_neg (cW (m:=61) G),if_pos (by simp[gx (m:=60) h60])];rfl),rfl⟩
 cases h63:((c.toNat:Int)==63)
 rotate_left
 ·go_enter func191,ntmps191
  go_wp2
  go_ret
  exact⟨bG (by rw[HS.out,if_neg (cW (m:=61) G),if_pos (by simp[gx (m:=63) h63])];rfl),rfl⟩
 go_enter func191,ntmps191
 go_wp2
 go_ret
 exact⟨bG (by rw[HS.out,if_neg (cW (m:=61) G),if_neg (by simp[cW (m:=40) O,cW (m:=41) U,cW (m:=91) Z,cW (m:=93) h93,cW (m:=58) h58,cW (m:=44) h44,cW (m:=43) h43,cW (m:=45) h45,cW (m:=42) h42,cW (m:=60) h60,cW (m:=63) h63])];rfl),rfl⟩
def sR(G:Nat)(t:Nat×Nat×Nat):Value:=
 if t.2.2=0 then .agg #[.int .i64 (t.2.1:Nat),.int .i64 (t.1:Nat),.int .i64 0,.int .i64 0]else .agg #[.int .i64 0,.int .i64 0,.int .i64 (t.2.2:Nat),.int .i64 ((G+t.2.1:Nat):Int)]
def uL(G:Nat)(t:Nat×Nat×Nat)(w:World)(e:Ending)(w':World):Prop:=e=.returned (sR G t)∧Ext w w'
variable{k:Nat}
theorem iO{G n:Nat}{t:Nat×Nat×Nat}{w w':World}{x y:Int}(h:t=(k,n,0))(hx:x=n)(hy:y=k)(J:Ext w w'):uL G t w (.returned (.agg #[.int .i64 x,.int .i64 y,.int .i64 0,.int .i64 0])) w':=by
 subst h;subst hx;subst hy;exact⟨rfl,J⟩
theorem dp{G n e:Nat}{t:Nat×Nat×Nat}{w w':World}{x y:Int}(h:t=(k,n,e))(J:¬e=0)(hx:x=e)(hy:y=((G+n:Nat):Int))(O:Ext w w'):uL G t w (.returned (.agg #[.int .i64 0,.int .i64 0,.int .i64 x,.int .i64 y])) w':=by
 subst h;subst hx;subst hy;exact⟨by simp only[sR,if_neg J],O⟩
set_option maxHeartbeats 4000000 in
theorem Ms(l:List UInt8)(x:Int)(k:Nat)(hxk:x=k)(w:World)(hlt:k<l.length)(hle:bu (l[k]'hlt)=true)(J:l.length≤281474976710656):Calls prog 190 #[.string ⟨l.toArray⟩,.int .i64 x] w (uL k (cd (l.drop k)) w):=by
 subst hxk;obtain⟨T,O⟩:∃T,cd (l.drop k)=T:=⟨_,rfl⟩;rw[O];have h0:0<(l.drop k).length:=by simp;omega
 obtain⟨c0,hc0⟩:∃c,({data:=l.toArray}:ByteArray)[k]'hlt=c:=⟨_,rfl⟩;have HCk:=Lib.hid (show l[k]=c0 from hc0);have HC0:=Lib.hid (show(l.drop k)[0]=c0 from by rw[List.getElem_drop];exact hc0);have HL0:=Lib.hid (show bu c0=true from hc0▸hle);obtain⟨n,hn⟩:∃n,spanN aZ (l.drop k)=n:=⟨_,rfl⟩;have hnl:k+n≤l.length:=by have :=rB aZ (l.drop k);simp at this;omega
 have HN:=Lib.hid hn;have HW0:=Lib.hid (show jw (l.drop k)=n from by rw[jw,aN h0 HC0.out,if_pos HL0.out];exact hn);clear hn hle;obtain⟨E,hE⟩:∃E,k+n=E:=⟨_,rfl⟩;have hE1:(k:Int)+n=(E:Nat):=by omega
 have hE2:E-k=n:=by omega
 have hE3:E≤l.length:=by omega
 have hkE:k≤E:=by omega
 have HE:=Lib.hid hE;clear hE;have hx:=Bx;have hx2:=vg
 go_enter func190,ntmps190
 go_wp2_with fail
 refine(kf _ _ k rfl _ (by omega) J).mono ?_;rintro e w' ⟨rfl,rfl⟩;rw[HW0.out];cases hr:lc ((l.drop k).take n)
 rotate_left
 ·cases hu:upperB c0
  all_goals
   have HQ:=Lib.hid (jR HN.out (Hh HN.out hr));by_cases G:24<n
   ·skip
    have HW:=Lib.hid (show T=(0,0,3)from by rw[←O,HQ.out,bQ,if_pos G])
    go_wp2_with (first|(go_at_call 189;refine qmm (bk _ _) ?_)|(go_at_call 196;refine qmm (dK _ _) ?_)|(go_at_call 195;refine qmm (kf _ _ (E+1) (by omega) _ (by omega) J) ?_))
    exact bodyPost_ret (v:=.agg #[.int .i64 0,.int .i64 0,.int .i64 3,.int .i64 k]) (by simp[results,results190,go_sem]) rfl (dp HW.out (by omega) (by omega) (by omega) qEx)
   ·skip
    have HW:=Lib.hid (show T=(7,n,0)from by rw[←O,HQ.out,bQ,if_neg G,if_pos hr])
    go_wp2_with (first|(go_at_call 189;refine qmm (bk _ _) ?_)|(go_at_call 196;refine qmm (dK _ _) ?_)|(go_at_call 195;refine qmm (kf _ _ (E+1) (by omega) _ (by omega) J) ?_))
    exact bodyPost_ret (v:=.agg #[.int .i64 n,.int .i64 7,.int .i64 0,.int .i64 0]) (by simp[results,results190,go_sem]) rfl (iO HW.out (by omega) (by omega) qEx)
 cases hu:upperB c0
 ·skip
  have HQ:=Lib.hid (jR HN.out (Ht h0 HC0.out hu));by_cases G:24<n
  ·skip
   have HW:=Lib.hid (show T=(0,0,3)from by rw[←O,HQ.out,bQ,if_pos G])
   go_wp2_with (first|(go_at_call 189;refine qmm (bk _ _) ?_)|(go_at_call 196;refine qmm (dK _ _) ?_)|(go_at_call 195;refine qmm (kf _ _ (E+1) (by omega) _ (by omega) J) ?_))
   exact bodyPost_ret (v:=.agg #[.int .i64 0,.int .i64 0,.int .i64 3,.int .i64 k]) (by simp[results,results190,go_sem]) rfl (dp HW.out (by omega) (by omega) (by omega) qEx)
  ·skip
   have HW:=Lib.hid (show T=(1,n,0)from by rw[←O,HQ.out,bQ,if_neg G,if_neg (by simp[hr]),if_pos (by rw[aN h0 HC0.out];exact Bq HL0.out hu)])
   go_wp2_with (first|(go_at_call 189;refine qmm (bk _ _) ?_)|(go_at_call 196;refine qmm (dK _ _) ?_)|(go_at_call 195;refine qmm (kf _ _ (E+1) (by omega) _ (by omega) J) ?_))
   exact bodyPost_ret (v:=.agg #[.int .i64 n,.int .i64 1,.int .i64 0,.int .i64 0]) (by simp[results,results190,go_sem]) rfl (iO HW.out (by omega) (by omega) qEx)
 by_cases h2:E+1<l.length
 rotate_left
 ·have h2':¬((E:Int)+1<l.length):=by omega
  have HQ:=Lib.hid (jR HN.out (Ip HN.out (by have :=HE.out;simp;omega)));by_cases G:24<n
  ·skip
   have HW:=Lib.hid (show T=(0,0,3)from by rw[←O,HQ.out,bQ,if_pos G])
   go_wp2_with (first|(go_at_call 189;refine qmm (bk _ _) ?_)|(go_at_call 196;refine qmm (dK _ _) ?_)|(go_at_call 195;refine qmm (kf _ _ (E+1) (by omega) _ (by omega) J) ?_))
   exact bodyPost_ret (v:=.agg #[.int .i64 0,.int .i64 0,.int .i64 3,.int .i64 k]) (by simp[results,results190,go_sem]) rfl (dp HW.out (by omega) (by omega) (by omega) qEx)
  ·skip
   have HW:=Lib.hid (show T=(2,n,0)from by rw[←O,HQ.out,bQ,if_neg G,if_neg (by simp[hr]),if_neg (by rw[aN h0 HC0.out];simp[tj hu])])
   go_wp2_with (first|(go_at_call 189;refine qmm (bk _ _) ?_)|(go_at_call 196;refine qmm (dK _ _) ?_)|(go_at_call 195;refine qmm (kf _ _ (E+1) (by omega) _ (by omega) J) ?_))
   exact bodyPost_ret (v:=.agg #[.int .i64 n,.int .i64 2,.int .i64 0,.int .i64 0]) (by simp[results,results190,go_sem]) rfl (iO HW.out (by omega) (by omega) qEx)
 have hn1:E<l.length:=by omega
 obtain⟨c1,hc1⟩:∃c,({data:=l.toArray}:ByteArray)[E]'hn1=c:=⟨_,rfl⟩;have HC1a:=Lib.hid (show l[E]=c1 from hc1);obtain⟨c2,hc2⟩:∃c,({data:=l.toArray}:ByteArray)[E+1]'h2=c:=⟨_,rfl⟩;have HC2a:=Lib.hid (show l[E+1]=c2 from hc2);have Z:n<(l.drop k).length:=by have :=HE.out;simp;omega
 have U:n+1<(l.drop k).length:=by have :=HE.out;simp;omega
 have HC1:=Lib.hid (show(l.drop k)[n]=c1 from by rw[List.getElem_drop];simp only[HE.out];exact hc1);have HC2:=Lib.hid (show(l.drop k)[n+1]=c2 from by rw[List.getElem_drop];simp only[←Nat.add_assoc,HE.out];exact hc2);have HGE:=Lib.hid (show(l.drop (E+1)).getD 0 0=c2 from by rw[wf];exact aN h2 HC2a.out);cases h46:((c1.toNat:Int)==46)
 ·skip
  have HQ:=Lib.hid (jR HN.out (Im HN.out Z HC1.out h46));by_cases G:24<n
  ·skip
   have HW:=Lib.hid (show T=(0,0,3)from by rw[←O,HQ.out,bQ,if_pos G])
   go_wp2_with (first|(go_at_call 189;refine qmm (bk _ _) ?_)|(go_at_call 196;refine qmm (dK _ _) ?_)|(go_at_call 195;refine qmm (kf _ _ (E+1) (by omega) _ (by omega) J) ?_))
   exact bodyPost_ret (v:=.agg #[.int .i64 0,.int .i64 0,.int .i64 3,.int .i64 k]) (by simp[results,results190,go_sem]) rfl (dp HW.out (by omega) (by omega) (by omega) qEx)
  ·skip
   have HW:=Lib.hid (show T=(2,n,0)from by rw[←O,HQ.out,bQ,if_neg G,if_neg (by simp[hr]),if_neg (by rw[aN h0 HC0.out];simp[tj hu])])
   go_wp2_with (first|(go_at_call 189;refine qmm (bk _ _) ?_)|(go_at_call 196;refine qmm (dK _ _) ?_)|(go_at_call 195;refine qmm (kf _ _ (E+1) (by omega) _ (by omega) J) ?_))
   exact bodyPost_ret (v:=.agg #[.int .i64 n,.int .i64 2,.int .i64 0,.int .i64 0]) (by simp[results,results190,go_sem]) rfl (iO HW.out (by omega) (by omega) qEx)
 cases h3:bu c2
 ·have hm:jw (l.drop (E+1))=0:=by rw[jw,HGE.out];simp[h3]
  have HQ:=Lib.hid (jR HN.out (GO HN.out U HC2.out h3));by_cases G:24<n
  ·skip
   have HW:=Lib.hid (show T=(0,0,3)from by rw[←O,HQ.out,bQ,if_pos G])
   go_wp2_with (first|(go_at_call 189;refine qmm (bk _ _) ?_)|(go_at_call 196;refine qmm (dK _ _) ?_)|(go_at_call 195;refine qmm (kf _ _ (E+1) (by omega) _ (by omega) J) ?_))
   exact bodyPost_ret (v:=.agg #[.int .i64 0,.int .i64 0,.int .i64 3,.int .i64 k]) (by simp[results,results190,go_sem]) rfl (dp HW.out (by omega) (by omega) (by omega) qEx)
  ·skip
   have HW:=Lib.hid (show T=(2,n,0)from by rw[←O,HQ.out,bQ,if_neg G,if_neg (by simp[hr]),if_neg (by rw[aN h0 HC0.out];simp[tj hu])])
   go_wp2_with (first|(go_at_call 189;refine qmm (bk _ _) ?_)|(go_at_call 196;refine qmm (dK _ _) ?_)|(go_at_call 195;refine qmm (kf _ _ (E+1) (by omega) _ (by omega) J) ?_))
   exact bodyPost_ret (v:=.agg #[.int .i64 n,.int .i64 2,.int .i64 0,.int .i64 0]) (by simp[results,results190,go_sem]) rfl (iO HW.out (by omega) (by omega) qEx)
 obtain⟨m,hm⟩:∃m,jw (l.drop (E+1))=m:=⟨_,rfl⟩;have HM:=Lib.hid (show spanN aZ (l.drop (E+1))=m from by rw[←hm,jw,HGE.out,if_pos h3]);have hm0:0<m:=by have h:=GZ (p:=aZ) (l:=l.drop (E+1)) (by simp;omega) (by rw[HGE.out];simp[aZ,h3]);rw[HM.out]at h;exact h
 have hml:E+1+m≤l.length:=by have h:=rB aZ (l.drop (E+1));rw[HM.out]at h;simp at h;omega
 have he:E+1+m-(E+1)=m:=by omega
 have hsl:0<((l.drop (E+1)).take m).length:=by simp;omega
 have hs0:({data:=((l.drop (E+1)).take m).toArray}:ByteArray)[0]'hsl=c2:=by
  show((l.drop (E+1)).take m)[0]=c2;rw[List.getElem_take,List.getElem_drop];exact hc2
 have HQ:=Lib.hid (AB (m:=m) HN.out (by have h:=HM.out;rw[←HE.out]at h;rw[List.drop_drop];exact h) (BB HN.out h0 HC0.out hu hr U Z HC1.out h46 HC2.out h3));have HDD:=Lib.hid (show((l.drop k).drop (n+1)).take m=(l.drop (E+1)).take m from by rw[List.drop_drop,←HE.out,Nat.add_assoc]);cases hu2:upperB c2
 all_goals
  by_cases G:24<n
  ·skip
   have HW:=Lib.hid (show T=(0,0,3)from by rw[←O,HQ.out,fO,if_pos (.inl G)])
   go_wp2_with (first|(go_at_call 189;refine qmm (bk _ _) ?_)|(go_at_call 196;refine qmm (dK _ _) ?_)|(go_at_call 195;refine qmm (kf _ _ (E+1) (by omega) _ (by omega) J) ?_))
   exact bodyPost_ret (v:=.agg #[.int .i64 0,.int .i64 0,.int .i64 3,.int .i64 k]) (by simp[results,results190,go_sem]) rfl (dp HW.out (by omega) (by omega) (by omega) qEx)
  by_cases h24m:24<m
  ·skip
   have HW:=Lib.hid (show T=(0,0,3)from by rw[←O,HQ.out,fO,if_pos (.inr h24m)])
   go_wp2_with (first|(go_at_call 189;refine qmm (bk _ _) ?_)|(go_at_call 196;refine qmm (dK _ _) ?_)|(go_at_call 195;refine qmm (kf _ _ (E+1) (by omega) _ (by omega) J) ?_))
   exact bodyPost_ret (v:=.agg #[.int .i64 0,.int .i64 0,.int .i64 3,.int .i64 k]) (by simp[results,results190,go_sem]) rfl (dp HW.out (by omega) (by omega) (by omega) qEx)
  cases hr2:lc ((l.drop (E+1)).take m)
  rotate_left
  ·skip
   have HW:=Lib.hid (show T=(0,0,2)from by rw[←O,HQ.out,fO,if_neg (by omega),if_pos (by rw[HDD.out];exact hr2)])
   go_wp2_with (first|(go_at_call 189;refine qmm (bk _ _) ?_)|(go_at_call 196;refine qmm (dK _ _) ?_)|(go_at_call 195;refine qmm (kf _ _ (E+1) (by omega) _ (by omega) J) ?_))
   exact bodyPost_ret (v:=.agg #[.int .i64 0,.int .i64 0,.int .i64 2,.int .i64 k]) (by simp[results,results190,go_sem]) rfl (dp HW.out (by omega) (by omega) (by omega) qEx)
  first
  |have HW:=Lib.hid (show T=(3,n+1+m,0)from by rw[←O,HQ.out,fO,if_neg (by omega),if_neg (by rw[HDD.out];simp[hr2]),if_pos (by rw[aN U HC2.out];exact Bq h3 hu2)])
   go_wp2_with (first|(go_at_call 189;refine qmm (bk _ _) ?_)|(go_at_call 196;refine qmm (dK _ _) ?_)|(go_at_call 195;refine qmm (kf _ _ (E+1) (by omega) _ (by omega) J) ?_))
   exact bodyPost_ret (v:=.agg #[.int .i64 (n+1+m),.int .i64 3,.int .i64 0,.int .i64 0]) (by simp[results,results190,go_sem]) rfl (iO HW.out (by omega) (by omega) qEx)
  |have HW:=Lib.hid (show T=(4,n+1+m,0)from by rw[←O,HQ.out,fO,if_neg (by omega),if_neg (by rw[HDD.out];simp[hr2]),if_neg (by rw[aN U HC2.out];simp[tj hu2])])
   go_wp2_with (first|(go_at_call 189;refine qmm (bk _ _) ?_)|(go_at_call 196;refine qmm (dK _ _) ?_)|(go_at_call 195;refine qmm (kf _ _ (E+1) (by omega) _ (by omega) J) ?_))
   exact bodyPost_ret (v:=.agg #[.int .i64 (n+1+m),.int .i64 4,.int .i64 0,.int .i64 0]) (by simp[results,results190,go_sem]) rfl (iO HW.out (by omega) (by omega) qEx)
end Go.Proofs.YtomplbgchbfjpaaGreatDoor
