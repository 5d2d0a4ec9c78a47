/- Contracts of the functions that the law reaches, part 3. -/
import Derived.Test.YtojjjmkmkbnieaaGreatSr2
set_option linter.unusedVariables false
set_option linter.unusedSimpArgs false
namespace Go.Proofs.YtojjjmkmkbnieaaGreat
open _root_.Go.Proofs.Tryz
open Go.RowKit Lx Sx
set_option maxRecDepth 100000
set_option maxHeartbeats 4000000
structure ab where
 name:(List UInt8)
 path:(List Int)
abbrev ab.c(x:ab):List V:=[.str x.name,.row 1 (List.map (V.int .i64) x.path)]
abbrev ab.w(x:ab):V:=.agg x.c
structure ah where
 Path:(List Int)
 Binder:(List Int)
 Free:Bool
abbrev ah.c(x:ah):List V:=[.row 1 (List.map (V.int .i64) x.Path),.row 1 (List.map (V.int .i64) x.Binder),.bool x.Free]
abbrev ah.w(x:ah):V:=.agg x.c
def eW(q:Tree)(E:Bool):Prop:=qS 16 [.agg (ak q)] (.bool E)
def jd(q:Tree)(E:List ab):Prop:=dd [] prog 17 [.agg (ak q)] ⟨0,[]⟩ (λu G=>u=.sl 0∧G=⟨1,[(0,.row 68 2 (List.map ab.w E))]⟩)
def je(q:Tree)(p1:List Int)(E:List ab)(G:Bool):Prop:=qS 24 [.agg (ak q),.row 1 (List.map (V.int .i64) p1)] (.tup [.row 2 (List.map ab.w E),.bool G])
def jA(q:List ab)(p1:List UInt8)(E:List Int)(G:Bool):Prop:=qS 25 [.row 2 (List.map ab.w q),.str p1] (.tup [.row 1 (List.map (V.int .i64) E),.bool G])
def ir(q:List ab)(p1:List UInt8)(E:List Int)(J:Bool):Prop:=dd [0] prog 25 [.sl 0,.str p1] ⟨1,[(0,.row 68 2 (List.map ab.w q))]⟩ (λu G=>u=.tup [.row 1 (List.map (V.int .i64) E),.bool J]∧G=⟨1,[(0,.row 68 2 (List.map ab.w q))]⟩)
def eu(q:Tree)(E:List ah):Prop:=qS 7 [.agg (ak q)] (.row 3 (List.map ah.w E))
def lC(q:Tree)(p1:List Int)(E:List UInt8)(G:List Int)(J:Bool):Prop:=qS 13 [.agg (ak q),.row 1 (List.map (V.int .i64) p1),.str E] (.tup [.row 1 (List.map (V.int .i64) G),.bool J])
def dm(a:List ab)(e:List Int)(b:List ah)(p1:Tree)(c:List ab)(f:List Int)(d:List ah):Prop:=dd [] prog 18 [.ptr 0 0,.agg (ak p1)] ⟨4,[(3,.row 33 3 (List.map ah.w b)),(2,.row 3 1 (List.map (V.int .i64) e)),(1,.row 68 2 (List.map ab.w a)),(0,.var 49 [.sl 1,.sl 2,.sl 3])]⟩ (λu G=>u=.tup []∧G=⟨4,[(3,.row 33 3 (List.map ah.w d)),(2,.row 3 1 (List.map (V.int .i64) f)),(1,.row 68 2 (List.map ab.w c)),(0,.var 49 [.sl 1,.sl 2,.sl 3])]⟩)
theorem qH(m:Nat)(q:Tree)(E:Bool)(h:((q.kind=2)→∃a,iJ q a∧a=E)∧((q.kind≠2)→false=E)):eW q E:=by
 refine⟨rfl,rfl,?_⟩;refine qA 10 [] func16 λK G=>?_;refine gR 3 rfl<|gFP 0 rfl rfl rfl rfl<|gR 9 rfl<|qBeZ 6 5 rfl rfl rfl rfl h ?_ ?_<;>intro h;refine gR 1 rfl ?_;obtain⟨a,b,h⟩:=h;refine qC0 b rfl<|gR 5 rfl ?_;subst h;exact qN [.tmp 2];refine gR 7 rfl ?_;subst h;exact qN [.tmp 2]
def iF(m:Nat)(E:Tree)(a:List ab)(b:Int)(J:List ab):Prop:=∀(K:Ctx) (q:Nat),ar K []→m≤q→qLG K Tryz.f17 (λu G=>u=.sl 0∧G=⟨1,[(0,.row 68 2 (List.map ab.w J))]⟩) (xI (ae Tryz.f17)) [.loop (xI (ae Tryz.f17)) q,.blk 0,.seq (xH (ae Tryz.f17))] 26 (mkF 26 0 [(1,.box (ak E) 0),(3,.sl 0),(4,qi b)]) ⟨1,[(0,.row 68 2 (List.map ab.w a))]⟩
theorem sv(m:Nat)(p0:Tree)(r0:List ab)(h:iF m p0 ([]:List ab) ((p0.kids.length:Int)-3) r0):jd p0 r0:=by
 refine qA 26 [] func17 λK hK=>?_;exact gR 3 rfl<|gFP 0 rfl rfl rfl rfl<|gR 14 rfl<|gV 7 (qi (p0.kids.length:Int)) rfl (aW (aN _)) rfl<|gLB 6 rfl (aN _) λa=>gR 1 rfl<|gV 8 (qi ((p0.kids.length:Int)-3)) rfl (an (by have :=a;omega) rfl) rfl<|gR 4 rfl<|go_loop m<|gNS 3 68 2 rfl rfl rfl rfl<|qW hK h [1]
theorem mI(m:Nat)(q:Tree)(b:List ab)(a:Int)(E:List ab)(h:((0≤a)→∃d,a=((d:Nat):Int)∧∃c,q.kids[d]?=some c∧(b++[(ab.mk c.text [a])]).length≤1000000000∧InI (a-1)∧iF m q (b++[(ab.mk c.text [a])]) (a-1) E)∧((¬0≤a)→b=E)):iF (m+1) q b a E:=by
 refine qj λK O J g=>?_;refine gR 7 rfl<|qXd 10 rfl rfl rfl h ?_ ?_<;>intro hd h;refine gR 10 rfl ?_;obtain⟨d,f,h⟩:=h;refine gV 16 (qi ((d:Nat):Int)) rfl (ds f) rfl ?_;obtain⟨c,e,h⟩:=h;refine gY (aG (aq e) ac rfl rfl rfl rfl) rfl rfl<|gR 5 rfl<|gFR 1 rfl rfl rfl rfl<|gR 1 rfl ?_;obtain⟨G,h⟩:=h;refine gDo (.repl 0 (.row 68 2 (List.map ab.w (b++[(ab.mk c.text [a])])))) (bm ac rfl rfl rfl rfl rfl (apM ab.w b (ab.mk c.text [a])) (by rw[ax];exact G)) (okR rfl) rfl rfl rfl<|gR 6 rfl ?_;obtain⟨G,h⟩:=h;exact gR 1 rfl<|gV 12 (qi (a-1)) rfl (an G rfl) rfl<|gR 2 rfl<|go_xloop<|qW J h [3];refine gR 3 rfl<|go_xloopE<|gR 9 rfl ?_;subst h;exact gE J [] [(2,.sl 0)] [0] [.tmp 2]
def dS(m:Nat)(E:Tree)(p1:List Int)(a:List ab)(b:Tree)(c:Nat)(G:List ab)(J:Bool):Prop:=∀(K:Ctx) (q:Nat),ar K []→m≤q→qLG K f24 (λu _=>u=.tup [.row 2 (List.map ab.w G),.bool J]) (xN (ae f24)) [.loop (xN (ae f24)) q,.blk 0,.seq (xJ (ae f24))] 62 (mkF 62 0 [(1,.row 1 (List.map (V.int .i64) p1)),(2,.box (ak E) 0),(6,.sl 0),(7,.ptr 1 0),(11,.row 1 (List.map (V.int .i64) p1)),(12,qi (p1.length:Int)),(13,qi (c:Int))]) ⟨2,[(1,.var 31 (ak b)),(0,.row 68 2 (List.map ab.w a))]⟩
def fN(m:Nat)(E:Tree)(p1:List Int)(a:Int)(b:List ab)(c:Tree)(d e:Nat)(G:List ab)(J:Bool):Prop:=∀(K:Ctx) (q:Nat),ar K []→m≤q→qLG K f24 (λu _=>u=.tup [.row 2 (List.map ab.w G),.bool J]) (xH (cK (cA (xA (xN (ae f24)))))) [.blk 1,.seq (xH (xN (ae f24))),.loop (xN (ae f24)) q,.blk 0,.seq (xJ (ae f24))] 62 (mkF 62 0 [(1,.row 1 (List.map (V.int .i64) p1)),(2,.box (ak E) 0),(6,.sl 0),(7,.ptr 1 0),(8,qi (d:Int)),(9,qi a),(11,.row 1 (List.map (V.int .i64) p1)),(12,qi (p1.length:Int)),(13,qi (e:Int))]) ⟨2,[(1,.var 31 (ak c)),(0,.row 68 2 (List.map ab.w b))]⟩
theorem sH(m:Nat)(p0:Tree)(p1:List Int)(r0:List ab)(r1:Bool)(h:dS m p0 p1 ([]:List ab) p0 0 r0 r1):je p0 p1 r0 r1:=by
 refine⟨rfl,rfl,?_⟩;refine qA 62 [] func24 λK hK=>?_;exact gR 3 rfl<|gFP 0 rfl rfl rfl rfl<|gR 21 rfl<|gV 12 (qi (p1.length:Int)) rfl (aW (ax (V.int .i64) _)) rfl<|gLB 11 rfl (ax (V.int .i64) _) λa=>gR 4 rfl<|go_loop m<|gNS 6 68 2 rfl rfl rfl rfl<|qW hK h [2,1]
theorem mO(m:Nat)(q:Tree)(p1:List Int)(e:List ab)(c:Tree)(a:Nat)(E:List ab)(G:Bool)(h:((a<p1.length)→∃b,p1[a]?=some b∧((b<0)→[]=E∧false=G)∧((¬b<0)→(((c.kids.length:Int)≤b)→[]=E∧false=G)∧((¬(c.kids.length:Int)≤b)→(((a:Int)=0)→((b=((q.kids.length:Int)-1))→∃d,jd q d∧fN m q p1 b d c a a E G)∧((b≠((q.kids.length:Int)-1))→fN m q p1 b e c a a E G))∧(((a:Int)≠0)→fN m q p1 b e c a a E G))))∧((¬a<p1.length)→e=E∧true=G)):dS (m+1) q p1 e c a E G:=by
 refine qj λK O J l=>?_;refine gR 6 rfl<|qXh 14 rfl rfl rfl h ec ej ?_ ?_<;>intro hd h;refine gR 8 rfl ?_;obtain⟨b,g,h⟩:=h;refine gY (aG (au (f:=(V.int .i64)) g) ac rfl rfl rfl rfl) rfl rfl<|gR 11 rfl<|qXdZ 20 19 rfl rfl rfl rfl h ?_ ?_<;>intro hd h;refine gR 19 rfl<|go_xloopR<|gR 2 rfl ?_;obtain⟨rfl,rfl⟩:=h;exact go_sub (F':=(mkF 62 0 [(4,.row 2 (List.map ab.w [])),(5,.bool false)])) (H':=⟨0,[]⟩) [] [] rfl J ⟨⟨_,rfl,(.nil 2)⟩,pqq,trivial⟩ trivial rfl<|qN [.tmp 4,.tmp 5];refine gR 4 rfl<|gV 24 (qi (c.kids.length:Int)) rfl (aW (aN _)) rfl<|gLB 23 rfl (aN _) λk=>gR 4 rfl<|qXd 26 rfl rfl rfl h ?_ ?_<;>intro hd h;refine gR 11 rfl<|go_xloopR<|gR 2 rfl ?_;obtain⟨rfl,rfl⟩:=h;exact go_sub (F':=(mkF 62 0 [(4,.row 2 (List.map ab.w [])),(5,.bool false)])) (H':=⟨0,[]⟩) [] [] rfl J ⟨⟨_,rfl,(.nil 2)⟩,pqq,trivial⟩ trivial rfl<|qN [.tmp 4,.tmp 5];refine gR 9 rfl<|qXeZ 29 28 rfl rfl rfl rfl h ?_ ?_<;>intro hd h;refine gR 4 rfl<|gV 33 (qi (q.kids.length:Int)) rfl (aW (aN _)) rfl<|gLB 32 rfl (aN _) λi=>gR 1 rfl<|gV 34 (qi ((q.kids.length:Int)-1)) rfl (an (by have :=i;omega) rfl) rfl<|gR 4 rfl<|qXe 36 rfl rfl rfl h ?_ ?_<;>intro hd h;refine gR 3 rfl ?_;obtain⟨d,j,h⟩:=h;refine qC j [] ?_;exact gHR 2 (List.map ab.w d) rfl (dN _ ab.w (λ_=>rfl) d) rfl<|gR 3 rfl<|qW J h [2,1];exact gR 3 rfl<|qW J h [0,1];exact gR 12 rfl<|qW J h [0,1];refine gR 3 rfl<|go_xloopE<|gR 10 rfl<|gFR 0 rfl (ie _ (λ_=>rfl) _) rfl rfl ?_;obtain⟨rfl,rfl⟩:=h;exact qN [.tmp 4,.tmp 5]
theorem rh(m:Nat)(E:Tree)(p1:List Int)(d:Int)(c:List ab)(a:Tree)(e b:Nat)(G:List ab)(J:Bool)(h:((a.kind=20)→((d=1)→e≤p1.length∧(c++[(ab.mk a.text (p1.take e))]).length≤1000000000∧∃f,d=((f:Nat):Int)∧∃j,a.kids[f]?=some j∧b+1≤9223372036854775807∧dS m E p1 (c++[(ab.mk a.text (p1.take e))]) j (b+1) G J)∧((d≠1)→∃g,d=((g:Nat):Int)∧∃k,a.kids[g]?=some k∧b+1≤9223372036854775807∧dS m E p1 c k (b+1) G J))∧((a.kind≠20)→∃i,d=((i:Nat):Int)∧∃l,a.kids[i]?=some l∧b+1≤9223372036854775807∧dS m E p1 c l (b+1) G J)):fN (m+1) E p1 d c a e b G J:=by
 refine qj λK j1 U t=>?_;refine gR 7 rfl<|qXeZ 42 41 rfl rfl rfl rfl h ?_ ?_<;>intro hd h;refine gR 5 rfl<|qXe 45 rfl rfl rfl h ?_ ?_<;>intro hd h;refine gR 1 rfl<|qDs [1] 6 10<|qDr [(0,2),(1,2),(2,3),(3,2),(4,0)] rfl rfl ?_;obtain⟨Z,h⟩:=h;refine dI 5 rfl (by kernel_rfl) (GU (ax (V.int .i64) p1) ac rfl rfl GJ (He rfl) (Nat.zero_le _) Z (((GB _ _ _ _).trans (congrArg _ (Cr _ _))))) rfl rfl ?_;refine qDr [(6,1),(7,1)] rfl rfl ?_;obtain⟨O,h⟩:=h;refine bY 8 (.repl 0 (.row 68 2 (List.map ab.w (c++[(ab.mk a.text (p1.take e))])))) rfl (by kernel_rfl) (bm ac rfl rfl rfl rfl rfl (apM ab.w c (ab.mk a.text (p1.take e))) (by rw[ax];exact O)) (okR rfl) rfl (by kernel_rfl) rfl rfl ?_;refine qDr [(9,1)] rfl rfl<|qDe<|gR 5 rfl ?_;obtain⟨f,q,h⟩:=h;refine gV 57 (qi ((f:Nat):Int)) rfl (ds q) rfl ?_;obtain⟨j,n,h⟩:=h;refine gY (aG (aq n) ac rfl rfl rfl rfl) rfl rfl<|gR 6 rfl ?_;obtain⟨O,h⟩:=h;exact gR 1 rfl<|gV 60 (qi ((b+1:Nat):Int)) rfl (an (by omega) (by omega)) rfl<|gR 2 rfl<|go_xloop<|qW U h [3,1];refine gR 7 rfl ?_;obtain⟨g,r,h⟩:=h;refine gV 57 (qi ((g:Nat):Int)) rfl (ds r) rfl ?_;obtain⟨k,o,h⟩:=h;refine gY (aG (aq o) ac rfl rfl rfl rfl) rfl rfl<|gR 6 rfl ?_;obtain⟨O,h⟩:=h;exact gR 1 rfl<|gV 60 (qi ((b+1:Nat):Int)) rfl (an (by omega) (by omega)) rfl<|gR 2 rfl<|go_xloop<|qW U h [0,1];refine gR 12 rfl ?_;obtain⟨i,s,h⟩:=h;refine gV 57 (qi ((i:Nat):Int)) rfl (ds s) rfl ?_;obtain⟨l,p,h⟩:=h;refine gY (aG (aq p) ac rfl rfl rfl rfl) rfl rfl<|gR 6 rfl ?_;obtain⟨O,h⟩:=h;exact gR 1 rfl<|gV 60 (qi ((b+1:Nat):Int)) rfl (an (by omega) (by omega)) rfl<|gR 2 rfl<|go_xloop<|qW U h [0,1]
def fC(m:Nat)(E:List ab)(p1:List UInt8)(a:Int)(G:List Int)(J:Bool):Prop:=∀(K:Ctx) (q:Nat),ar K []→m≤q→qLG K f25 (λu _=>u=.tup [.row 1 (List.map (V.int .i64) G),.bool J]) (cL (xE (cB (ae f25)))) [.loop (cL (xE (cB (ae f25)))) q,.blk 0,.seq (xA (ae f25))] 27 (mkF 27 0 [(0,.row 2 (List.map ab.w E)),(1,.str p1),(6,qi a)]) ⟨0,[]⟩
theorem pB(m:Nat)(p0:List ab)(p1:List UInt8)(r0:List Int)(r1:Bool)(h:fC m p0 p1 ((p0.length:Int)-1) r0 r1):jA p0 p1 r0 r1:=by
 refine⟨rfl,rfl,?_⟩;refine qA 27 [] func25 λK hK=>?_;exact gR 11 rfl<|gV 8 (qi (p0.length:Int)) rfl (aW (ax ab.w _)) rfl<|gLB 7 rfl (ax ab.w _) λa=>gR 1 rfl<|gV 9 (qi ((p0.length:Int)-1)) rfl (an (by have :=a;omega) rfl) rfl<|gR 4 rfl<|go_loop m<|qW hK h []
theorem lj(m:Nat)(q:List ab)(p1:List UInt8)(a:Int)(E:List Int)(G:Bool)(h:((0≤a)→∃b,a=((b:Nat):Int)∧∃c,q[b]?=some c∧((c.name=p1)→∃d,a=((d:Nat):Int)∧∃e,q[d]?=some e∧∃g,iY e.path g∧g=E∧true=G)∧((c.name≠p1)→InI (a-1)∧fC m q p1 (a-1) E G))∧((¬0≤a)→[]=E∧false=G)):fC (m+1) q p1 a E G:=by
 refine qj λK U J o=>?_;refine gR 7 rfl<|qXd 11 rfl rfl rfl h ?_ ?_<;>intro hd h;refine gR 9 rfl ?_;obtain⟨b,k,h⟩:=h;refine gV 15 (qi ((b:Nat):Int)) rfl (ds k) rfl ?_;obtain⟨c,i,h⟩:=h;refine gY (aG (au (f:=ab.w) i) ac rfl rfl rfl rfl) rfl rfl<|gR 6 rfl<|qXe 20 rfl rfl rfl h ?_ ?_<;>intro hd h;refine gR 5 rfl ?_;obtain⟨d,l,h⟩:=h;refine gV 22 (qi ((d:Nat):Int)) rfl (ds l) rfl ?_;obtain⟨e,j,h⟩:=h;refine gY (aG (au (f:=ab.w) j) ac rfl rfl rfl rfl) rfl rfl<|gR 2 rfl ?_;obtain⟨g,n,h⟩:=h;refine qC0 n rfl<|gR 7 rfl<|go_xloopR<|gR 2 rfl ?_;obtain⟨rfl,rfl⟩:=h;exact qN [.tmp 4,.tmp 5];refine gR 6 rfl ?_;obtain⟨O,h⟩:=h;exact gR 1 rfl<|gV 13 (qi (a-1)) rfl (an O rfl) rfl<|gR 2 rfl<|go_xloop<|qW J h [];refine gR 3 rfl<|go_xloopE<|gR 9 rfl ?_;obtain⟨rfl,rfl⟩:=h;exact go_sub (F':=(mkF 27 0 [(4,.row 1 (List.map (V.int .i64) [])),(5,.bool false)])) (H':=⟨0,[]⟩) [] [] rfl J ⟨⟨_,rfl,(.nil 1)⟩,pqq,trivial⟩ trivial rfl<|qN [.tmp 4,.tmp 5]
def eG(m:Nat)(q:List ab)(p1:List UInt8)(a:Int)(J:List Int)(O:Bool):Prop:=∀(K:Ctx) (E:Nat),ar K [0]→m≤E→qLG K f25 (λu G=>u=.tup [.row 1 (List.map (V.int .i64) J),.bool O]∧G=⟨1,[(0,.row 68 2 (List.map ab.w q))]⟩) (cL (xE (cB (ae f25)))) [.loop (cL (xE (cB (ae f25)))) E,.blk 0,.seq (xA (ae f25))] 27 (mkF 27 0 [(0,.sl 0),(1,.str p1),(6,qi a)]) ⟨1,[(0,.row 68 2 (List.map ab.w q))]⟩
theorem oD(m:Nat)(p0:List ab)(p1:List UInt8)(r0:List Int)(r1:Bool)(h:eG m p0 p1 ((p0.length:Int)-1) r0 r1):ir p0 p1 r0 r1:=by
 refine qA 27 [0] func25 λK hK=>?_;exact gR 11 rfl<|gV 8 (qi (p0.length:Int)) rfl (aW (ax ab.w _)) rfl<|gLO 0 rfl (ax ab.w _) λa=>gR 1 rfl<|gV 9 (qi ((p0.length:Int)-1)) rfl (an (by have :=a;omega) rfl) rfl<|gR 4 rfl<|go_loop m<|qW hK h [0]
theorem kf(m:Nat)(q:List ab)(p1:List UInt8)(a:Int)(E:List Int)(G:Bool)(h:((0≤a)→∃b,a=((b:Nat):Int)∧∃c,q[b]?=some c∧((c.name=p1)→∃d,a=((d:Nat):Int)∧∃j,q[d]?=some j∧∃e,iY j.path e∧e=E∧true=G)∧((c.name≠p1)→InI (a-1)∧eG m q p1 (a-1) E G))∧((¬0≤a)→[]=E∧false=G)):eG (m+1) q p1 a E G:=by
 refine qj λK U J o=>?_;refine gR 7 rfl<|qXd 11 rfl rfl rfl h ?_ ?_<;>intro hd h;refine gR 9 rfl ?_;obtain⟨b,k,h⟩:=h;refine gV 15 (qi ((b:Nat):Int)) rfl (ds k) rfl ?_;obtain⟨c,g,h⟩:=h;refine gY (yIO ac rfl rfl rfl rfl (qG (au (f:=ab.w) g))) rfl rfl ?_;refine gR 1 rfl<|gDo (.nop) (dLe ac rfl rfl rfl (au (f:=ab.w) g) rfl) trivial rfl rfl rfl<|gR 4 rfl<|qXe 20 rfl rfl rfl h ?_ ?_<;>intro hd h;refine gR 5 rfl ?_;obtain⟨d,l,h⟩:=h;refine gV 22 (qi ((d:Nat):Int)) rfl (ds l) rfl ?_;obtain⟨j,i,h⟩:=h;refine gY (yIO ac rfl rfl rfl rfl (qG (au (f:=ab.w) i))) rfl rfl ?_;refine gR 1 rfl<|gDo (.nop) (dLe ac rfl rfl rfl (au (f:=ab.w) i) rfl) trivial rfl rfl rfl ?_;obtain⟨e,n,h⟩:=h;refine qC0 n rfl<|gR 7 rfl<|go_xloopR<|gR 2 rfl ?_;obtain⟨rfl,rfl⟩:=h;exact gE J [] [(4,.row 1 (List.map (V.int .i64) e)),(5,.bool true)] [0] [.tmp 4,.tmp 5];refine gR 6 rfl ?_;obtain⟨O,h⟩:=h;exact gR 1 rfl<|gV 13 (qi (a-1)) rfl (an O rfl) rfl<|gR 2 rfl<|go_xloop<|qW J h [0];refine gR 3 rfl<|go_xloopE<|gR 9 rfl ?_;obtain⟨rfl,rfl⟩:=h;exact gE J [] [(4,.row 1 (List.map (V.int .i64) [])),(5,.bool false)] [0] [.tmp 4,.tmp 5] ⟨⟨_,rfl,(.nil 1)⟩,⟨_,rfl,.rfl⟩,trivial⟩
theorem pU(m:Nat)(q:Tree)(E:List ah)(h:∃c,eW q c∧((c=false)→[]=E)∧((c=true)→∃a,jd q a∧∃d,((q.kids.length:Int)-1)=((d:Nat):Int)∧∃g,q.kids[d]?=some g∧∃e f b,dm a [((q.kids.length:Int)-1)] ([]:List ah) g e f b∧b=E)):eu q E:=by
 refine⟨rfl,rfl,?_⟩;refine qA 25 [] func7 λK G=>?_;refine gR 3 rfl<|gFP 0 rfl rfl rfl rfl<|gR 7 rfl ?_;obtain⟨c,k,h⟩:=h;refine qC0 k rfl<|gR 3 rfl<|qXh 7 rfl rfl rfl h cx cw ?_ ?_<;>intro hd h;refine gR 8 rfl ?_;subst h;exact go_sub (F':=(mkF 25 0 [(2,.row 3 (List.map ah.w []))])) (H':=⟨0,[]⟩) [] [] rfl G ⟨⟨_,rfl,(.nil 3)⟩,trivial⟩ trivial rfl<|qN [.tmp 2];refine gR 8 rfl<|gV 10 (qi (q.kids.length:Int)) rfl (aW (aN _)) rfl<|gLB 9 rfl (aN _) λl=>gR 1 rfl<|gV 11 (qi ((q.kids.length:Int)-1)) rfl (an (by have :=l;omega) rfl) rfl<|gR 6 rfl ?_;obtain⟨a,n,h⟩:=h;refine qC n [] ?_;refine gHR 1 (List.map ab.w a) rfl (dN _ ab.w (λ_=>rfl) a) rfl<|gR 12 rfl ?_;obtain⟨d,j,h⟩:=h;refine gV 19 (qi ((d:Nat):Int)) rfl (ds j) rfl ?_;obtain⟨g,i,h⟩:=h;refine gY (aG (aq i) ac rfl rfl rfl rfl) rfl rfl<|gR 1 rfl<|gNC 3 2 33 3 rfl rfl rfl rfl ?_;obtain⟨e,f,b,o,h⟩:=h;refine qC o [3,1,2,4] ?_;refine gHR 6 (List.map ab.w e) rfl (dN _ ab.w (λ_=>rfl) e) rfl<|gHR 7 (List.map (V.int .i64) f) rfl (dN _ (V.int .i64) (λ_=>rfl) f) rfl<|gHR 8 (List.map ah.w b) rfl (dN _ ah.w (λ_=>rfl) b) rfl<|gR 10 rfl<|gFR 8 rfl (ie _ (λ_=>rfl) _) rfl rfl ?_;subst h;exact qN [.tmp 2]
theorem sg(m:Nat)(q:Tree)(p1:List Int)(J:List UInt8)(E:List Int)(G:Bool)(h:∃a,eW q a∧((a=false)→[]=E∧false=G)∧((a=true)→∃b e,je q p1 b e∧∃c d,jA b J c d∧c=E∧d=G)):lC q p1 J E G:=by
 refine⟨rfl,rfl,?_⟩;refine qA 24 [] func13 λK O=>?_;refine gR 3 rfl<|gFP 0 rfl rfl rfl rfl<|gR 8 rfl ?_;obtain⟨a,f,h⟩:=h;refine qC0 f rfl<|gR 3 rfl<|qBh 12 rfl rfl rfl h cx cw ?_ ?_<;>intro h;refine gR 9 rfl ?_;obtain⟨rfl,rfl⟩:=h;exact go_sub (F':=(mkF 24 0 [(6,.row 1 (List.map (V.int .i64) [])),(7,.bool false)])) (H':=⟨0,[]⟩) [] [] rfl O ⟨⟨_,rfl,(.nil 1)⟩,pqq,trivial⟩ trivial rfl<|qN [.tmp 6,.tmp 7];refine gR 7 rfl ?_;obtain⟨b,e,g,h⟩:=h;refine qC0 g rfl<|gR 11 rfl ?_;obtain⟨c,d,i,h⟩:=h;refine qC0 i rfl<|gR 7 rfl ?_;obtain⟨rfl,rfl⟩:=h;exact qN [.tmp 6,.tmp 7]
def bF(m:Nat)(p1:Tree)(d:List ah)(e:List ab)(f:List Int)(g:Nat)(a:List ab)(c:List Int)(b:List ah):Prop:=∀(K:Ctx) (q:Nat),ar K [0]→m≤q→qLG K f18 (λu G=>u=.tup []∧G=⟨4,[(3,.row 33 3 (List.map ah.w b)),(2,.row 3 1 (List.map (V.int .i64) c)),(1,.row 68 2 (List.map ab.w a)),(0,.var 49 [.sl 1,.sl 2,.sl 3])]⟩) (cL (cK (xH (ae f18)))) [.loop (cL (cK (xH (ae f18)))) q,.blk 0] 116 (mkF 116 0 [(0,.ptr 0 0),(3,.box (ak p1) 0),(41,.row 4 (kidsV p1.kids)),(42,qi (p1.kids.length:Int)),(43,qi (g:Int))]) ⟨4,[(3,.row 33 3 (List.map ah.w d)),(2,.row 3 1 (List.map (V.int .i64) f)),(1,.row 68 2 (List.map ab.w e)),(0,.var 49 [.sl 1,.sl 2,.sl 3])]⟩
def de(m:Nat)(p1:Tree)(d:List ah)(e:Tree)(f:List ab)(g:List Int)(i:Nat)(j:Bool)(k:Nat)(a:List ab)(c:List Int)(b:List ah):Prop:=∀(K:Ctx) (q:Nat),ar K [0]→m≤q→qLG K f18 (λu G=>u=.tup []∧G=⟨4,[(3,.row 33 3 (List.map ah.w b)),(2,.row 3 1 (List.map (V.int .i64) c)),(1,.row 68 2 (List.map ab.w a)),(0,.var 49 [.sl 1,.sl 2,.sl 3])]⟩) (xA (cK (cA (xA (cL (cK (xH (ae f18)))))))) [.blk 1,.seq (xH (cL (cK (xH (ae f18))))),.loop (cL (cK (xH (ae f18)))) q,.blk 0] 116 (mkF 116 0 [(0,.ptr 0 0),(3,.box (ak p1) 0),(6,qi (i:Int)),(7,.ptr 1 0),(8,.bool j),(41,.row 4 (kidsV p1.kids)),(42,qi (p1.kids.length:Int)),(43,qi (k:Int))]) ⟨5,[(4,.row 33 3 (List.map ah.w d)),(3,.row 3 1 (List.map (V.int .i64) g)),(2,.row 68 2 (List.map ab.w f)),(1,.var 31 (ak e)),(0,.var 49 [.sl 2,.sl 3,.sl 4])]⟩
def eY(m:Nat)(p1:Tree)(d:List ah)(e:Tree)(f:List ab)(g:List Int)(i:Nat)(j:Bool)(k:Nat)(a:List ab)(c:List Int)(b:List ah):Prop:=∀(K:Ctx) (q:Nat),ar K [0]→m≤q→qLG K f18 (λu G=>u=.tup []∧G=⟨4,[(3,.row 33 3 (List.map ah.w b)),(2,.row 3 1 (List.map (V.int .i64) c)),(1,.row 68 2 (List.map ab.w a)),(0,.var 49 [.sl 1,.sl 2,.sl 3])]⟩) (xH (cK (cA (xA (cL (cK (xH (ae f18)))))))) [.blk 1,.seq (xH (cL (cK (xH (ae f18))))),.loop (cL (cK (xH (ae f18)))) q,.blk 0] 116 (mkF 116 0 [(0,.ptr 0 0),(3,.box (ak p1) 0),(6,qi (i:Int)),(7,.ptr 1 0),(8,.bool j),(41,.row 4 (kidsV p1.kids)),(42,qi (p1.kids.length:Int)),(43,qi (k:Int))]) ⟨5,[(4,.row 33 3 (List.map ah.w d)),(3,.row 3 1 (List.map (V.int .i64) g)),(2,.row 68 2 (List.map ab.w f)),(1,.var 31 (ak e)),(0,.var 49 [.sl 2,.sl 3,.sl 4])]⟩
theorem mC(m:Nat)(a:List ab)(c:List Int)(b:List ah)(p1:Tree)(d:List ab)(f:List Int)(e:List ah)(h:((p1.kind=12)→∃g i,ir a p1.text g i∧∃j,gW c j∧(b++[(ah.mk j g (!i))]).length≤1000000000∧bF m p1 (b++[(ah.mk j g (!i))]) a c 0 d f e)∧((p1.kind≠12)→bF m p1 b a c 0 d f e)):dm a c b p1 d f e:=by
 refine qA 116 [0] func18 λK hK=>?_;refine gR 3 rfl<|gFP 4 rfl rfl rfl rfl<|gR 10 rfl<|qXe 11 rfl rfl rfl h ?_ ?_<;>intro hd h;refine gR 2 rfl<|qDs [0] 6 12<|qDr (qR 0 3 2 [(3,3),(4,0),(5,0)]) rfl rfl ?_;obtain⟨g,i,k,h⟩:=h;refine Hf 6 k [1] (by kernel_rfl) rfl (by kernel_rfl) rfl rfl .rfl ⟨⟨_,rfl,⟨rfl,rfl,(dN _ ab.w (λ_=>rfl) a).symm⟩⟩,trivial⟩ rfl (by kernel_rfl) ?_;rintro _ _ ⟨rfl,rfl⟩;refine gHR 1 (List.map ab.w a) rfl (dN _ ab.w (λ_=>rfl) a) rfl<|qDr [(7,1),(8,2),(9,2),(10,1),(11,1)] rfl rfl<|qDe<|gR 1 rfl<|qDs [0] 18 19<|qDr (qR 0 4 2 ((4,3)::(qR 5 3 2 ((8,3)::(qR 10 3 2 []))))) rfl rfl ?_;obtain⟨j,l,h⟩:=h;refine qDC 9 l [2] rfl ?_;refine gHR 2 (List.map (V.int .i64) c) rfl (dN _ (V.int .i64) (λ_=>rfl) c) rfl<|qDr [(13,0),(14,0)] rfl rfl ?_;obtain⟨hb,h⟩:=h;refine bY 15 (.repl 3 (.row 33 3 (List.map ah.w (b++[(ah.mk j g (!i))])))) rfl (by kernel_rfl) (bm ac rfl rfl rfl rfl rfl (apM ah.w b (ah.mk j g (!i))) (by rw[ax];exact hb)) (okR rfl) rfl (by kernel_rfl) rfl rfl ?_;exact qDr [(16,0),(17,0),(18,1)] rfl rfl<|qDe<|gR 6 rfl<|gV 42 (qi (p1.kids.length:Int)) rfl (aW (aN _)) rfl<|gLB 41 rfl (aN _) λn=>gR 4 rfl<|go_loop m<|qW hK h [0,1,2,8];exact gR 8 rfl<|gV 42 (qi (p1.kids.length:Int)) rfl (aW (aN _)) rfl<|gLB 41 rfl (aN _) λo=>gR 4 rfl<|go_loop m<|qW hK h [0,1,2,3]
theorem iH(m:Nat)(p1:Tree)(e:List ah)(f:List ab)(g:List Int)(c:Nat)(a:List ab)(d:List Int)(b:List ah)(h:((c<p1.kids.length)→∃i,p1.kids[c]?=some i∧((p1.kind=20)→de m p1 e i f g c ((c:Int)==1) c a d b)∧((p1.kind≠20)→de m p1 e i f g c false c a d b))∧((¬c<p1.kids.length)→f=a∧g=d∧e=b)):bF (m+1) p1 e f g c a d b:=by
 refine qj λK E q k=>?_;refine gR 6 rfl<|qXh 44 rfl rfl rfl h ec ej ?_ ?_<;>intro hd h;refine gR 8 rfl ?_;obtain⟨i,j,h⟩:=h;refine gY (aG (aq j) ac rfl rfl rfl rfl) rfl rfl<|gR 12 rfl<|qXeZ 51 50 rfl rfl rfl rfl h ?_ ?_<;>intro hd h;exact gR 6 rfl<|qW q h [0,4,1,2,3];exact gR 6 rfl<|qW q h [0,4,1,2,3];refine gR 3 rfl<|go_xloopE<|gR 1 rfl ?_;obtain⟨rfl,rfl,rfl⟩:=h;exact gE q [] [] [0,1,2,3] []
theorem iC(m:Nat)(p1:Tree)(g:List ah)(i:Tree)(d:List ab)(e:List Int)(j:Nat)(k:Bool)(l:Nat)(a:List ab)(c:List Int)(b:List ah)(h:((k=true)→∃f,gW e f∧(d++[(ab.mk p1.text f)]).length≤1000000000∧eY m p1 g i (d++[(ab.mk p1.text f)]) e j true l a c b)∧((k=false)→eY m p1 g i d e j false l a c b)):de (m+1) p1 g i d e j k l a c b:=by
 refine qj λK G q o=>?_;refine gR 6 rfl<|qXiZ 55 8 rfl rfl rfl rfl h ?_ ?_<;>intro hd h;refine gR 1 rfl<|qDs [0] 17 18<|qDr (qR 0 4 2 ((4,3)::(5,2)::(6,2)::(qR 7 4 0 []))) rfl rfl ?_;obtain⟨f,n,h⟩:=h;refine qDC 11 n [3] rfl ?_;refine gHR 3 (List.map (V.int .i64) e) rfl (dN _ (V.int .i64) (λ_=>rfl) e) rfl<|qDr [(12,0),(13,0)] rfl rfl ?_;obtain⟨E,h⟩:=h;refine bY 14 (.repl 2 (.row 68 2 (List.map ab.w (d++[(ab.mk p1.text f)])))) rfl (by kernel_rfl) (bm ac rfl rfl rfl rfl rfl (apM ab.w d (ab.mk p1.text f)) (by rw[ax];exact E)) (okR rfl) rfl (by kernel_rfl) rfl rfl ?_;exact qDr [(15,0),(16,0),(17,1)] rfl rfl<|qDe<|gR 1 rfl<|qW q h [0,1,7,3,4];exact gR 3 rfl<|qW q h [0,1,2,3,4]
theorem iK(m:Nat)(p1:Tree)(o:List ah)(p:Tree)(q:List ab)(k:List Int)(l:Nat)(n:Bool)(e:Nat)(c:List ab)(f:List Int)(d:List ah)(h:(k++[(l:Int)]).length≤1000000000∧∃a b i,dm q (k++[(l:Int)]) o p a b i∧∃g,((b.length:Int)-1)=((g:Nat):Int)∧g≤b.length∧((n=true)→∃j,((a.length:Int)-1)=((j:Nat):Int)∧j≤a.length∧e+1≤9223372036854775807∧bF m p1 i (a.take j) (b.take g) (e+1) c f d)∧((n=false)→e+1≤9223372036854775807∧bF m p1 i a (b.take g) (e+1) c f d)):eY (m+1) p1 o p q k l n e c f d:=by
 refine qj λK J G y=>?_;refine gR 9 rfl ?_;obtain⟨E,h⟩:=h;refine gDo (.repl 3 (.row 3 1 (List.map (V.int .i64) (k++[(l:Int)])))) (bm ac rfl rfl rfl rfl rfl (apM (V.int .i64) k (l:Int)) (by rw[ax];exact E)) (okR rfl) rfl rfl rfl<|gR 9 rfl ?_;obtain⟨a,b,i,t,h⟩:=h;refine qC t [0,2,6,4] ?_;refine gHR 8 (List.map ab.w a) rfl (dN _ ab.w (λ_=>rfl) a) rfl<|gHR 9 (List.map (V.int .i64) b) rfl (dN _ (V.int .i64) (λ_=>rfl) b) rfl<|gHR 10 (List.map ah.w i) rfl (dN _ ah.w (λ_=>rfl) i) rfl<|gR 3 rfl<|qDs [0] 14 15<|qDr (qR 0 4 2 ((4,3)::(qR 5 5 0 []))) rfl rfl<|gV 95 (qi (b.length:Int)) rfl (aW (ax (V.int .i64) _)) rfl<|gLO 9 rfl (ax (V.int .i64) _) λv=>qDr [(10,0)] rfl rfl<|gV 96 (qi ((b.length:Int)-1)) rfl (an (by have :=v;omega) rfl) rfl ?_;obtain⟨g,r,h⟩:=h;refine gV 96 (qi ((g:Nat):Int)) rfl (ds r) rfl ?_;obtain⟨E,h⟩:=h;refine bY 11 (.repl 9 (.row 3 1 (List.map (V.int .i64) (b.take g)))) rfl (by kernel_rfl) (dTr ac rfl rfl rfl rfl (by rw[ax];exact E) (CP _ _ _)) (okR rfl) rfl (by kernel_rfl) rfl rfl ?_;refine qDr [(12,0),(13,0),(14,1)] rfl rfl<|qDe<|gR 6 rfl<|qXiZ 100 8 rfl rfl rfl rfl h ?_ ?_<;>intro hd h;refine gR 1 rfl<|qDs [0] 14 15<|qDr (qR 0 4 2 ((4,3)::(qR 5 5 0 []))) rfl rfl<|gV 110 (qi (a.length:Int)) rfl (aW (ax ab.w _)) rfl<|gLO 8 rfl (ax ab.w _) λx=>qDr [(10,0)] rfl rfl<|gV 111 (qi ((a.length:Int)-1)) rfl (an (by have :=x;omega) rfl) rfl ?_;obtain⟨j,s,h⟩:=h;refine gV 111 (qi ((j:Nat):Int)) rfl (ds s) rfl ?_;obtain⟨E,h⟩:=h;refine bY 11 (.repl 8 (.row 68 2 (List.map ab.w (a.take j)))) rfl (by kernel_rfl) (dTr ac rfl rfl rfl rfl (by rw[ax];exact E) (CP _ _ _)) (okR rfl) rfl (by kernel_rfl) rfl rfl ?_;refine qDr [(12,0),(13,0),(14,1)] rfl rfl<|qDe<|gR 3 rfl ?_;obtain⟨E,h⟩:=h;exact gR 1 rfl<|gV 115 (qi ((e+1:Nat):Int)) rfl (an (by omega) (by omega)) rfl<|gR 2 rfl<|go_xloop<|qW G h [0,12,11,10];refine gR 5 rfl ?_;obtain⟨E,h⟩:=h;exact gR 1 rfl<|gV 115 (qi ((e+1:Nat):Int)) rfl (an (by omega) (by omega)) rfl<|gR 2 rfl<|go_xloop<|qW G h [0,8,11,10]
abbrev vC(a0:Int)(a1:List UInt8):Ob:=.var 31 [.int .i64 a0,.str a1,.nils,.nils]
abbrev vB(a0:Int)(a1:List UInt8)(a2:List (List UInt8))(a3:List Tree):Ob:=.var 31 [.int .i64 a0,.str a1,.row 1 (List.map V.str a2),.row 4 (kidsV a3)]
def nT(q E:Tree):Prop:=qS 35 [.agg (ak q)] (.agg (ak E))
def oh(q:Tree)(p1:List Int)(E G:Tree)(J:Bool):Prop:=qS 20 [.agg (ak q),.row 1 (List.map (V.int .i64) p1),.agg (ak E)] (.tup [.agg (ak G),.bool J])
def nO(q:Tree)(p1:List Int)(E:Tree)(G:Bool):Prop:=qS 34 [.agg (ak q),.row 1 (List.map (V.int .i64) p1)] (.tup [.agg (ak E),.bool G])
def nc(q:Tree)(p1:List Int)(E:Tree)(G:Bool):Prop:=qS 19 [.agg (ak q),.row 1 (List.map (V.int .i64) p1)] (.tup [.agg (ak E),.bool G])
def kX(m:Nat)(p1:List Int)(a:Tree)(b:Nat)(E:Tree)(G:Bool):Prop:=∀(K:Ctx) (q:Nat),ar K []→m≤q→qLG K f34 (λu _=>u=.tup [.agg (ak E),.bool G]) (cL (xE (cB (ae f34)))) [.loop (cL (xE (cB (ae f34)))) q,.blk 0,.seq (xA (ae f34))] 31 (mkF 31 0 [(2,.ptr 0 0),(4,.ptr 1 0),(8,.row 1 (List.map (V.int .i64) p1)),(9,qi (p1.length:Int)),(10,qi (b:Int))]) ⟨2,[(1,vC 0 []),(0,.var 31 (ak a))]⟩
theorem wh(m:Nat)(p0:Tree)(p1:List Int)(r0:Tree)(r1:Bool)(h:kX m p1 p0 0 r0 r1):nO p0 p1 r0 r1:=by
 refine⟨rfl,rfl,?_⟩;refine qA 31 [] func34 λK hK=>?_;exact gR 12 rfl<|gV 9 (qi (p1.length:Int)) rfl (aW (ax (V.int .i64) _)) rfl<|gLB 8 rfl (ax (V.int .i64) _) λa=>gR 4 rfl<|go_loop m<|qW hK h [0,1]
theorem pi(m:Nat)(p1:List Int)(a:Tree)(b:Nat)(q:Tree)(E:Bool)(h:((b<p1.length)→∃c,p1[b]?=some c∧((c<0)→(Tree.node 0 [] [] [])=q∧false=E)∧((¬c<0)→(((a.kids.length:Int)≤c)→(Tree.node 0 [] [] [])=q∧false=E)∧((¬(a.kids.length:Int)≤c)→∃d,c=((d:Nat):Int)∧∃e,a.kids[d]?=some e∧b+1≤9223372036854775807∧kX m p1 e (b+1) q E)))∧((¬b<p1.length)→a=q∧true=E)):kX (m+1) p1 a b q E:=by
 refine qj λK J G k=>?_;refine gR 6 rfl<|qXh 11 rfl rfl rfl h ec ej ?_ ?_<;>intro hd h;refine gR 7 rfl ?_;obtain⟨c,g,h⟩:=h;refine gY (aG (au (f:=(V.int .i64)) g) ac rfl rfl rfl rfl) rfl rfl<|gR 10 rfl<|qXdZ 16 15 rfl rfl rfl rfl h ?_ ?_<;>intro hd h;refine gR 20 rfl<|go_xloopR<|gR 2 rfl ?_;obtain⟨rfl,rfl⟩:=h;exact go_sub (F':=(mkF 31 0 [(4,.ptr 0 0),(5,.bool false)])) (H':=⟨1,[(0,vB ((Tree.node 0 [] [] []).kind) ((Tree.node 0 [] [] []).text) ((Tree.node 0 [] [] []).leads) ((Tree.node 0 [] [] []).kids))]⟩) [1] [] rfl G pq2 ⟨⟨_,rfl,rfl,(.cons .rfl (.cons .rfl (.cons (.nil 1) (.cons (.nil 4) .nil))))⟩,trivial⟩ rfl<|qN [.cell 4 31,.tmp 5];refine gR 4 rfl<|gV 20 (qi (a.kids.length:Int)) rfl (aW (aN _)) rfl<|gLB 19 rfl (aN _) λl=>gR 4 rfl<|qXd 22 rfl rfl rfl h ?_ ?_<;>intro hd h;refine gR 12 rfl<|go_xloopR<|gR 2 rfl ?_;obtain⟨rfl,rfl⟩:=h;exact go_sub (F':=(mkF 31 0 [(4,.ptr 0 0),(5,.bool false)])) (H':=⟨1,[(0,vB ((Tree.node 0 [] [] []).kind) ((Tree.node 0 [] [] []).text) ((Tree.node 0 [] [] []).leads) ((Tree.node 0 [] [] []).kids))]⟩) [1] [] rfl G pq2 ⟨⟨_,rfl,rfl,(.cons .rfl (.cons .rfl (.cons (.nil 1) (.cons (.nil 4) .nil))))⟩,trivial⟩ rfl<|qN [.cell 4 31,.tmp 5];refine gR 7 rfl ?_;obtain⟨d,j,h⟩:=h;refine gV 26 (qi ((d:Nat):Int)) rfl (ds j) rfl ?_;obtain⟨e,i,h⟩:=h;refine gY (aG (aq i) ac rfl rfl rfl rfl) rfl rfl<|gR 6 rfl ?_;obtain⟨O,h⟩:=h;exact gR 1 rfl<|gV 29 (qi ((b+1:Nat):Int)) rfl (an (by omega) (by omega)) rfl<|gR 2 rfl<|go_xloop<|qW G h [0,1];refine gR 3 rfl<|go_xloopE<|gR 10 rfl ?_;obtain⟨rfl,rfl⟩:=h;exact go_sub (F':=(mkF 31 0 [(4,.ptr 0 0),(5,.bool true)])) (H':=⟨1,[(0,vB a.kind a.text a.leads a.kids)]⟩) [1] [] rfl G pq2 (pqo1 rfl rfl) rfl<|qN [.cell 4 31,.tmp 5]
theorem zq(m:Nat)(G:Tree)(p1:List Int)(q:Tree)(E:Bool)(h:∃c b,nO G p1 c b∧((b=false)→(Tree.node 0 [] [] [])=q∧false=E)∧((b=true)→∃a,nT c a∧a=q∧true=E)):nc G p1 q E:=by
 refine⟨rfl,rfl,?_⟩;refine qA 19 [] func19 λK J=>?_;refine gR 3 rfl<|gFP 0 rfl rfl rfl rfl<|gR 8 rfl ?_;obtain⟨c,b,d,h⟩:=h;refine qC0 d rfl<|gR 15 rfl<|qBh 15 rfl rfl rfl h cx cw ?_ ?_<;>intro h;refine gR 10 rfl ?_;obtain⟨rfl,rfl⟩:=h;exact go_sub (F':=(mkF 19 0 [(4,.ptr 0 0),(5,.bool false)])) (H':=⟨1,[(0,vB ((Tree.node 0 [] [] []).kind) ((Tree.node 0 [] [] []).text) ((Tree.node 0 [] [] []).leads) ((Tree.node 0 [] [] []).kids))]⟩) [1] [] rfl J pq2 ⟨⟨_,rfl,rfl,(.cons .rfl (.cons .rfl (.cons (.nil 1) (.cons (.nil 4) .nil))))⟩,trivial⟩ rfl<|qN [.cell 4 31,.tmp 5];refine gR 6 rfl ?_;obtain⟨a,e,h⟩:=h;refine qC0 e rfl<|gR 5 rfl ?_;obtain⟨rfl,rfl⟩:=h;exact go_sub (F':=(mkF 19 0 [(4,.ptr 0 0),(5,.bool true)])) (H':=⟨1,[(0,vB a.kind a.text a.leads a.kids)]⟩) [1] [] rfl J pq2 (pqo1 rfl rfl) rfl<|qN [.cell 4 31,.tmp 5]
def cI:List (List UInt8)→Nat
 |[]=>0
 |l::r=>l.length+1+cI r
mutual
def tbulk:Tree→Nat
 |.node _ s ls ks=>s.length+cI ls+kbulk ks+1
def kbulk:List Tree→Nat
 |[]=>0
 |t::r=>tbulk t+kbulk r
end
theorem bj(t:Tree):0<tbulk t:=by cases t;simp only[tbulk];omega
theorem mf:∀(ks:List Tree),ks.length≤kbulk ks
 |[]=>Nat.le_refl _
 |t::r=>by have :=mf r;have :=bj t;simp only[kbulk,List.length_cons];omega
theorem mb:∀{ks:List Tree} {i:Nat} {t:Tree},ks[i]?=some t→tbulk t≤kbulk ks
 |[],i,t,h=>by simp at h
 |u::r,0,t,h=>by simp only[List.getElem?_cons_zero,Option.some.injEq]at h;subst h;simp only[kbulk];omega
 |u::r,i+1,t,h=>by have :=mb (ks:=r) (i:=i) (by simpa using h);simp only[kbulk];omega
theorem tA:∀(a b:List Tree),kbulk (a++b)=kbulk a+kbulk b
 |[],b=>by simp[kbulk]
 |t::r,b=>by simp only[List.cons_append,kbulk,tA r b];omega
theorem oI:∀(l:List (List UInt8)),l.length≤cI l
 |[]=>Nat.le_refl _
 |x::r=>by have :=oI r;simp only[cI,List.length_cons];omega
theorem rz:∀{l:List (List UInt8)} {i:Nat} {x:List UInt8},l[i]?=some x→x.length+1≤cI l
 |[],i,x,h=>by simp at h
 |u::r,0,x,h=>by simp only[List.getElem?_cons_zero,Option.some.injEq]at h;subst h;simp only[cI];omega
 |u::r,i+1,x,h=>by have :=rz (l:=r) (i:=i) (by simpa using h);simp only[cI];omega
theorem bo(t:Tree):tbulk t=t.text.length+cI t.leads+kbulk t.kids+1:=by cases t;simp[tbulk,Tree.text,Tree.leads,Tree.kids]
variable{t:Tree}{i:Nat}
theorem dO{u:Tree}(h:t.kids[i]?=some u):tbulk u<tbulk t:=by
 have :=mb h;rw[bo t];omega
theorem dB(t:Tree):t.kids.length<tbulk t:=by
 have :=mf t.kids;rw[bo t];omega
theorem co(t:Tree):t.text.length<tbulk t:=by rw[bo t];omega
theorem tt(t:Tree):t.leads.length<tbulk t:=by
 have :=oI t.leads;rw[bo t];omega
theorem cn{C:Tree→Prop}(h:∀t:Tree,(∀(i:Nat) (u:Tree),t.kids[i]?=some u→C u)→C t):∀t,C t:=λt=>by
 have :∀n t,tbulk t≤n→C t:=λn=>by
  induction n with
  |zero=>intro t ht;have :=bj t;omega
  |succ n ih=>intro t ht;exact h t λi u q=>ih u (by have :=dO q;omega)
 exact this _ t (Nat.le_refl _)
variable{α:Type}
theorem aB(l:List α)(i:Nat):(∃x,l[i]?=some x∧i<l.length)∨(¬i<l.length):=by
 by_cases h:i<l.length
 ·exact .inl ⟨l[i],by simp[h],h⟩
 ·exact .inr h
theorem cm{l:List α}{x:α}(h:l[i]?=some x):l.drop i=x::l.drop (i+1):=by
 obtain⟨q,rfl⟩:=List.getElem?_eq_some_iff.1 h;exact List.drop_eq_getElem_cons q
open Go.RowKit
inductive It where
 |seq (c:Code)
 |blk (id:Nat)
inductive Pt where
 |code (c:Code)
 |ops (all:Array Oper) (rest:List Oper)
 |ex (e:Exit)
def stk(P:Program)(Q:Exit→Act→World→Prop):List It→Exit→Act→World→Prop
 |[]=>Q
 |.seq c::s=>Exit.then (c.wp P (stk P Q s)) (stk P Q s)
 |.blk id::s=>Exit.inBlock id (stk P Q s)
def Pt.wp(P:Program)(Q:Exit→Act→World→Prop)(p:Pt)(s:List It)(a:Act)(w:World):Prop:=
 match p with
 |.code c=>c.wp P (stk P Q s) a w
 |.ops all rest=>wpList P all (stk P Q s) rest a w
 |.ex e=>stk P Q s e a w
def uN(b:Bool):Option Value:=match b with|true=>some (.bool true)|false=>some (.bool false)
def yJ(ft:Nat→Nat→Option Nat)(f:Nat→Option Value)(op:Op):Option Value:=
 match op with
 |.move x=>ao f x
 |.assign x=>ao f x
 |.pick c x y=>match ao f c with
  |some (.bool true)=>ao f x
  |some (.bool false)=>ao f y
  |_=>none
 |.nilCheck x=>match ao f x with
  |some (.pointer (some p))=>some (.pointer (some p))
  |_=>none
 |.extract x i=>match ao f x with
  |some (.tuple vs)=>vs[i]?
  |_=>none
 |.unOp .not _ x=>match ao f x with
  |some (.bool b)=>uN (!b)
  |_=>none
 |.fieldAddr t x i=>match ao f x with
  |some (.pointer (some ⟨b,o,none⟩))=>match ft t i with
   |some k=>some (.pointer (some ⟨b,o+k,none⟩))
   |none=>none
  |_=>none
 |.binOp .eql _ x y _=>match ao f x with
  |some (.int k m)=>match ao f y with
   |some (.int k' l)=>if k=k' then uN (m==l)else none
   |_=>none
  |_=>none
 |.binOp .neq _ x y _=>match ao f x with
  |some (.int k m)=>match ao f y with
   |some (.int k' l)=>if k=k' then uN (m !=l)else none
   |_=>none
  |_=>none
 |_=>none
def sn(ft:Nat→Nat→Option Nat)(n:Nat)(all:Array Oper)(o:Oper)(f:Nat→Option Value):Option (Nat→Option Value):=
 match dn f all o.guard with
 |true=>match yJ ft f o.op with
  |some v=>match dg o.dst n with
   |true=>some (upo f o.dst v)
   |false=>none
  |none=>none
 |false=>match nk f all o.guard with
  |true=>match dg o.dst n with
   |true=>some (upo f o.dst undef)
   |false=>none
  |false=>none
def eV (ft:Nat→Nat→Option Nat) (n:Nat):Nat→Pt→List It→(Nat→Option Value)→Option (Pt×List It×(Nat→Option Value))
 |0,p,s,f=>some (p,s,f)
 |k+1,.code c,s,f=>match c with
  |.seq x y=>eV ft n k (.code x) (.seq y::s) f
  |.block id c=>eV ft n k (.code c) (.blk id::s) f
  |.skip=>eV ft n k (.ex .normal) s f
  |.ret=>eV ft n k (.ex .ret) s f
  |.exit id=>eV ft n k (.ex (.exit id)) s f
  |.cond c x y=>match ao f c with
   |some (.bool true)=>eV ft n k (.code x) s f
   |some (.bool false)=>eV ft n k (.code y) s f
   |_=>none
  |.region _ ⟨l⟩ false=>eV ft n k (.ops ⟨l⟩ l) s f
  |_=>none
 |k+1,.ops all rest,s,f=>match rest with
  |[]=>eV ft n k (.ex .normal) s f
  |o::r=>match sn ft n all o f with
   |some f'=>eV ft n k (.ops all r) s f'
   |none=>none
 |k +1,.ex e,s,f=>match s with
  |[]=>none
  |.seq c::s=>match e with
   |.normal=>eV ft n k (.code c) s f
   |.exit i=>eV ft n k (.ex (.exit i)) s f
   |.ret=>eV ft n k (.ex .ret) s f
   |_=>none
  |.blk id::s=>match e with
   |.normal=>eV ft n k (.ex .normal) s f
   |.exit i=>match Nat.beq i id with
    |true=>eV ft n k (.ex .normal) s f
    |false=>eV ft n k (.ex (.exit i)) s f
   |.ret=>eV ft n k (.ex .ret) s f
   |_=>none
variable{v:Value}
section
variable{P:Program}{Q:Exit→Act→World→Prop}{a:Act}{w w':World}{n:Nat}{f f':Nat→Option Value}{ft:Nat→Nat→Option Nat}{p p':Pt}{s s':List It}
theorem pS{b:Bool}(h:uN b=some v):v=.bool b:=by cases b<;>simp[uN]at h<;>exact h.symm
theorem ve(q:∀t i k,ft t i=some k→en P t i=some k){op:Op}{ty:TypeId}(h:Fr a n f)(hv:yJ ft f op=some v):Runs P a ty op w (.value v) w:=by
 unfold yJ at hv;split at hv
 ·exact qw h hv
 ·exact pW h hv
 ·split at hv
  ·exact vb h ‹_› hv
  ·exact uA h ‹_› hv
  ·cases hv
 ·split at hv
  ·injection hv with hv;subst hv;exact sE h ‹_›
  ·cases hv
 ·split at hv
  ·exact so h ‹_› hv
  ·cases hv
 ·split at hv
  ·rw[pS hv];exact zz h ‹_› rfl
  ·cases hv
 ·split at hv
  ·split at hv
   ·injection hv with hv;subst hv;exact uv h ‹_› (q _ _ _ ‹_›) rfl
   ·cases hv
  ·cases hv
 ·split at hv
  ·split at hv
   ·split at hv
    ·rename_i e;subst e;rw[pS hv];exact Av h ‹_› ‹_› rfl
    ·cases hv
   ·cases hv
  ·cases hv
 ·split at hv
  ·split at hv
   ·split at hv
    ·rename_i e;subst e;rw[pS hv];exact AZ h ‹_› ‹_› rfl
    ·cases hv
   ·cases hv
  ·cases hv
 ·cases hv
theorem BJ(E:∀t i k,ft t i=some k→en P t i=some k){all:Array Oper}{o:Oper}{rest:List Oper}{Q:Exit→Act→World→Prop}(h:Fr a n f)(q:sn ft n all o f=some f')(k:∀a',Fr a' n f'→wpList P all Q rest a' w):wpList P all Q (o::rest) a w:=by
 obtain⟨d,op,ty,ps,af,g⟩:=o;unfold sn at q;dsimp only at q;split at q
 ·split at q
  ·split at q
   ·injection q with q;subst q
    exact Bj h ‹_› ‹_› (ve E h ‹_›) k
   ·cases q
  ·cases q
 ·split at q
  ·split at q
   ·injection q with q;subst q
    exact Hc h ‹_› ‹_› k
   ·cases q
  ·cases q
theorem cy(hft:∀t i k,ft t i=some k→en P t i=some k):∀(k:Nat) (p:Pt) (s:List It) (f:Nat→Option Value) (a:Act),Fr a n f→eV ft n k p s f=some (p',s',f')→(∀a',Fr a' n f'→Pt.wp P Q p' s' a' w)→Pt.wp P Q p s a w
 |0,p,s,f,a,h,hr,kk=>by
  simp only[eV,Option.some.injEq,Prod.mk.injEq]at hr;obtain⟨rfl,rfl,rfl⟩:=hr;exact kk a h
 | k+1,.code c,s,f,a,h,hr,kk=>by
  unfold eV at hr;split at hr
  ·exact wp_seq (cy hft k _ (.seq _::s) f a h hr kk)
  ·exact wp_block (cy hft k _ (.blk _::s) f a h hr kk)
  ·exact wp_skip (cy hft k _ s f a h hr kk)
  ·exact wp_ret (cy hft k _ s f a h hr kk)
  ·exact wp_exit (cy hft k _ s f a h hr kk)
  ·split at hr
   ·exact qY h ‹_› (cy hft k _ s f a h hr kk)
   ·exact rr h ‹_› (cy hft k _ s f a h hr kk)
   ·cases hr
  ·exact wp_region_lit (cy hft k _ s f a h hr kk)
  ·cases hr
 | k+1,.ops all rest,s,f,a,h,hr,kk=>by
  unfold eV at hr;split at hr
  ·have ih:=cy hft k _ _ f a h hr kk;exact(AD ih:wpList P all (stk P Q s) [] a w)
  ·split at hr
   ·exact BJ hft h ‹_› (λa' h'=>cy hft k _ s _ a' h' hr kk)
   ·cases hr
 | k +1,.ex e,s,f,a,h,hr,kk=>by
  unfold eV at hr;split at hr
  ·cases hr
  ·split at hr
   ·have ih:=cy hft k _ _ f a h hr kk;exact ih
   ·have ih:=cy hft k _ _ f a h hr kk;exact ih
   ·have ih:=cy hft k _ _ f a h hr kk;exact ih
   ·cases hr
  ·split at hr
   ·have ih:=cy hft k _ _ f a h hr kk;exact ih
   ·split at hr
    ·rename_i hb;have :=Nat.eq_of_beq_eq_true hb;subst this;have :=cy hft k _ _ f a h hr kk;simp only[Pt.wp,stk,Exit.inBlock,if_true]at this⊢;exact this
    ·rename_i hb;have hne:=Nat.ne_of_beq_eq_false hb;have :=cy hft k _ _ f a h hr kk;simp only[Pt.wp,stk,Exit.inBlock,if_neg hne]at this⊢;exact this
   ·have ih:=cy hft k _ _ f a h hr kk;exact ih
   ·cases hr
end
def ftG:List (Nat×Nat×Nat)→Nat→Nat→Option Nat
 |[],_,_=>none
 |(t,i,k)::r,q,E=>match Nat.beq t q with
  |true=>match Nat.beq i E with
   |true=>some k
   |false=>ftG r q E
  |false=>ftG r q E
def ftB(P:Program):List (Nat×Nat×Nat)→Bool
 |[]=>true
 |(t,i,k)::r=>(en P t i==some k)&&ftB P r
theorem vU{P:Program}:∀(l:List (Nat×Nat×Nat)),ftB P l=true→∀t i k,ftG l t i=some k→en P t i=some k
 |[],_,_,_,_,h=>by cases h
 | (t0,i0,k0)::r,hb,t,i,k,h=>by
  simp only[ftB,Bool.and_eq_true,beq_iff_eq]at hb;simp only[ftG]at h;split at h
  ·rename_i e1;split at h
   ·rename_i e2;have :=Nat.eq_of_beq_eq_true e1;have :=Nat.eq_of_beq_eq_true e2
    subst_vars
    rw[hb.1];exact h
   ·exact vU r hb.2 t i k h
  ·exact vU r hb.2 t i k h
variable{fid:FuncId}{vs:List Value}
variable{m:Nat}{listed:Array Bool}
section
variable{P:Program}{Q:Exit→Act→World→Prop}{a:Act}{w w':World}{n:Nat}{f f':Nat→Option Value}{p p':Pt}{s s':List It}{all:Array Oper}{rest:List Oper}{d:Option Tmp}{op:Op}{ty:TypeId}{ps:String}{af:Array Edge}{g:Option (Nat×Bool)}{v:Value}
theorem rV(h:Fr a n f)(q:(dn f all g&&dg d n)=true)(E:Runs P a ty op w (.value v) w')(k:∀a',Fr a' n (upo f d v)→Pt.wp P Q (.ops all rest) s a' w'):Pt.wp P Q (.ops all (⟨d,op,ty,ps,af,g⟩::rest)) s a w:=Bj h (Bool.and_eq_true_iff.1 q).1 (Bool.and_eq_true_iff.1 q).2 E k
theorem rS(h:Fr a n f)(q:(dn f all g&&dg d n)=true)(E:Runs P a ty op w .skip w')(k:∀a',Fr a' n (upo f d undef)→Pt.wp P Q (.ops all rest) s a' w'):Pt.wp P Q (.ops all (⟨d,op,ty,ps,af,g⟩::rest)) s a w:=GR h (Bool.and_eq_true_iff.1 q).1 (Bool.and_eq_true_iff.1 q).2 E k
theorem rC{args:List Operand}{tys:Array TypeId}{R:Ending→World→Prop}(h:Fr a n f)(q:(dn f all g&&dg d n)=true)(hv:lN f args=some vs)(E:bE P fid=true)
 (G:Calls P fid vs.toArray w R) (k:∀e w',R e w'→∃v,e=.returned v∧∀a',Fr a' n (upo f d v)→Pt.wp P Q (.ops all rest) s a' w'):
 Pt.wp P Q (.ops all (⟨d,.call {callee:=.value (.func fid),args:=args.toArray,argTypes:=tys},ty,ps,af,g⟩::rest)) s a w:=GT h (Bool.and_eq_true_iff.1 q).1 (Bool.and_eq_true_iff.1 q).2 hv E G k
theorem rL{c:Code}(I:Nat→Act→World→Prop)(n₀:Nat)(h₀:I n₀ a w)(round:∀n a w,I n a w→Pt.wp P (Exit.then (λa' w'=>∃q,q<n∧I q a' w') (stk P Q s)) (.code c) [] a w):Pt.wp P Q (.code (.loop c)) s a w:=wp_loop_ghost I n₀ h₀ round
theorem rX{K:Act→World→Prop}(h:K a w):Pt.wp P (Exit.then K Q) (.ex .normal) [] a w:=h
theorem rO{K:Act→World→Prop}(h:Pt.wp P Q (.ex (.exit i)) s a w):Pt.wp P (Exit.then K (stk P Q s)) (.ex (.exit i)) [] a w:=h
theorem rD{id:Nat}{l:List Oper}(S:World→Prop)(m sz:Nat)(hsz:l.length=sz)(q:P.follows .mixedOrders=true)(E:Region.noSelect l.toArray=true)
 (k:∀w',Chg [] w w'→Region.noSelect l.toArray=true→wpAnyL P .any l.toArray (NoPanic (stk P Q s)) S m sz (Array.replicate sz false) a w'):Pt.wp P Q (.code (.region id l.toArray true)) s a w:=Cl S m sz hsz q E k
theorem rN{S:World→Prop}{fuel:Nat}(hr:Region.ready .any all listed=[])(k:Pt.wp P Q (.ex .normal) s a w):wpAnyL P .any all (NoPanic (stk P Q s)) S m fuel listed a w:=DR hr k
theorem rE{fn:Func}{c:Code}{args:List Value}{R:Ending→World→Prop}(N:Nat)(hf:P.funcs[fid]?=some fn)(q:fn.body=some c)(E:fn.ntmps=N)(G:Nat.ble args.length N=true)
 (k:∀a,Fr a N (λi=>args[i]?)→Pt.wp P (bodyPost P fn R) (.code c) [] a w):Calls P fid args.toArray w R:=Ci N hf q E G k
theorem rT{fn:Func}{R:Ending→World→Prop}{rs:List ResultVar}(h:Fr a n f)(hr:fn.results=rs.toArray)(hv:lP P f w rs vs)(q:R (.returned (kR vs)) w):Pt.wp P (bodyPost P fn R) (.ex .ret) [] a w:=ret_of h hr hv q
theorem rF{fn:Func}{R:Ending→World→Prop}{rs:List ResultVar}(h:Fr a n f)(hr:fn.results=rs.toArray)(hv:lP P f w rs vs)(q:R (.returned (kR vs)) w):Pt.wp P (bodyPost P fn R) (.ex .normal) [] a w:=FD h hr hv q
end
def ym(ops:Array Oper)(m:Nat):List Nat→Array Bool→Bool
 |[],_=>true
 |i::r,l=>(!(Nat.beq i m)&&Region.free .any ops l i&&(Region.ready .any ops l).contains i)&&ym ops m r (l.setIfInBounds i true)
def BD:List Nat→Array Bool→Array Bool
 |[],l=>l
 |i::r,l=>BD r (l.setIfInBounds i true)
def uO(ft:Nat→Nat→Option Nat)(n:Nat)(ops:Array Oper):List Nat→(Nat→Option Value)→Option (Nat→Option Value)
 |[],f=>some f
 |i::r,f=>match ops[i]? with
  |some o=>match sn ft n ops o f with
   |some f'=>uO ft n ops r f'
   |none=>none
  |none=>none
theorem Ck{l:Array Bool}(h:Nat.beq i m=false)(E:l.getD m false=true):(l.setIfInBounds i true).getD m false=true:=by
 have q:i≠m:=Nat.ne_of_beq_eq_false h;rw[Array.getD_eq_getD_getElem?]at E⊢;rw[Array.getElem?_setIfInBounds,if_neg q];exact E
theorem CY{P:Program}{Q:Exit→Act→World→Prop}{w:World}{n:Nat}{f':Nat→Option Value}{ops:Array Oper}{S:World→Prop}{m:Nat}{ft:Nat→Nat→Option Nat}(hft:∀t i k,ft t i=some k→en P t i=some k)(hs:Region.noSelect ops=true):∀(is:List Nat) (fuel:Nat) (listed:Array Bool) (f:Nat→Option Value) (a:Act),ym ops m is listed=true→Fr a n f→uO ft n ops is f=some f'→(S w∨listed.getD m false=true)→(∀a',Fr a' n f'→wpAnyL P .any ops (NoPanic Q) S m fuel (BD is listed) a' w)→wpAnyL P .any ops (NoPanic Q) S m (fuel+is.length) listed a w
 |[],fuel,listed,f,a,hc,h,hr,hS,k=>by
  simp only[uO,Option.some.injEq]at hr;subst hr;exact k a h
 | i ::r,fuel,listed,f,a,hc,h,hr,hS,k=>by
  simp only[ym,Bool.and_eq_true,Bool.not_eq_true']at hc;obtain⟨⟨⟨h1,h2⟩,h3⟩,h4⟩:=hc;unfold uO at hr;split at hr
  ·rename_i o ho;obtain⟨d,op,ty,ps,af,g⟩:=o;split at hr
   ·rename_i f1 hf1;have hS':S w∨(listed.setIfInBounds i true).getD m false=true:=hS.imp id (Ck h1);have go:∀a',Fr a' n f1→wpAnyL P .any ops (NoPanic Q) S m (fuel+r.length) (listed.setIfInBounds i true) a' w:=λa' h'=>CY hft hs r fuel _ f1 a' h4 h' hr hS' k;show wpAnyL P .any ops (NoPanic Q) S m (fuel+r.length+1) listed a w;unfold sn at hf1;dsimp only at hf1;split at hf1
    ·split at hf1
     ·rename_i v hv;split at hf1
      ·injection hf1 with e;subst e
       exact dl_v i h1 ho hs h2 h3 h ‹_› ‹_› hS (λw'=>ve hft h hv) go
      ·cases hf1
     ·cases hf1
    ·split at hf1
     ·split at hf1
      ·injection hf1 with e;subst e
       exact GK i h1 ho hs h2 h3 h ‹_› ‹_› hS go
      ·cases hf1
     ·cases hf1
   ·cases hr
  ·cases hr
abbrev zT:List Value:=[.int .i64 0,.string ⟨([]:List UInt8).toArray⟩,.slice none 0 0,.slice none 0 0]
theorem Chg.t0{X:List Nat}{w w1 w2:World}(h:Chg X w w1)(k:Chg [] w1 w2):Chg X w w2:=h.trans k Ex
theorem Chg.n1{X:List Nat}{w w1 w2:World}{c:Nat}(h:Chg X w w1)(k:Chg [c] w1 w2)(g:w.heap.size≤c):Chg X w w2:=h.trans k (Ha (.inr g) Ex)
section
variable{w w1:World}{b c:Nat}{t:TypeId}{cs:List Value}
theorem Blk.c0(h:Blk w b t cs)(hx:Chg [] w w1):Blk w1 b t cs:=h.chg hx nm0
end
theorem eT(a:Act)(w:World)(ty:TypeId):∃w' b,Runs prog a ty (.alloc 31) w (.value (.pointer (some ⟨b,0,none⟩))) w'∧Blk w' b 31 zT∧Chg [] w w'∧b=w.heap.size∧b<w'.heap.size:=vE zT (by kernel_rfl) a w ty
section
variable{a:Act}{w:World}{n:Nat}{f:Nat→Option Value}{tb:TypeId}{b o:Nat}{v:Value}{vs cs:List Value}
theorem eN(x y:Operand)(h:Fr a n f)(hx:ao f x=some (.pointer (some ⟨b,0,none⟩)))(hy:ao f y=some (.agg vs.toArray))(hv:vs.length=4)(q:vs.all (·.oneCell')=true)(E:Blk w b tb cs)(G:cs.length=4)(ty:TypeId):
 ∃w',Runs prog a ty (.store 31 x y) w .skip w'∧Blk w' b tb vs∧Chg [b] w w':=Ak (m:=4) h hx hy (by kernel_rfl) hv q E G ty
theorem eS(t:TypeId)(x y:Operand)(h:Fr a n f)(hx:ao f x=some (.pointer (some ⟨b,o,none⟩)))(hy:ao f y=some v)(q:bS prog t=some 1)(h1:v.oneCell'=true)(E:Blk w b tb cs)(G:Nat.ble (o+1) cs.length=true)(ty:TypeId):
 ∃w',Runs prog a ty (.store t x y) w .skip w'∧Blk w' b tb (cs.set o v)∧Chg [b] w w':=vS h hx hy q h1 E (Nat.le_of_ble_eq_true G) ty
end
theorem dL{Q:Exit→Act→World→Prop}{a:Act}{w:World}{n:Nat}{f:Nat→Option Value}{ops:Array Oper}{d:Option Tmp}{op:Op}{ty:TypeId}{ps:String}{af:Array Edge}{g:Option (Nat×Bool)}{v:Value}{P:Program}{S:World→Prop}{fuel:Nat}(i:Nat)(q:Nat.beq i m=false)(hi:ops[i]?=some ⟨d,op,ty,ps,af,g⟩)(G:Region.noSelect ops=true)(hf:(ja .any ops m i&&!listed.getD m false&&Region.free .any ops listed i&&(Region.ready .any ops listed).contains i)=true)
  (h:Fr a n f) (E:(dn f ops g&&dg d n)=true) (J:S w) (O:∀w',S w'→Runs P a ty op w' (.value v) w')
  (k:∀a',Fr a' n (upo f d v)→wpAnyL P .any ops (NoPanic Q) S m fuel (listed.setIfInBounds i true) a' w):wpAnyL P .any ops (NoPanic Q) S m (fuel+1) listed a w:=by
 simp only[Bool.and_eq_true,Bool.not_eq_true']at hf;exact GF i q hf.1.1.1 hf.1.1.2 hi G hf.1.2 hf.2 h (Bool.and_eq_true_iff.1 E).1 (Bool.and_eq_true_iff.1 E).2 J O k
abbrev wR:= @wp_region_lit
abbrev wS:= @wp_seq_k
abbrev sN:= @AD
abbrev cdT:= @qY
abbrev cdF:= @rr
abbrev nlt:= @Nat.le_trans
theorem yqA[BEq α][LawfulBEq α]{a b:α}:(a==b)=false↔a≠b:=beq_eq_false_iff_ne
theorem yqB[BEq α][LawfulBEq α]{a b:α}:(a==b)=true↔a=b:=beq_iff_eq
theorem yqC[BEq α][LawfulBEq α]{a b:α}:(a !=b)=true↔a≠b:=bne_iff_ne
theorem yqD[BEq α][LawfulBEq α]{a b:α}:(a !=b)=false↔a=b:=bne_eq_false_iff_eq
theorem yqE{p:Prop}[Decidable p]:(decide p=true)↔p:=decide_eq_true_iff
theorem yqF{p:Prop}[Decidable p]:(decide p=false)↔¬p:=decide_eq_false_iff_not
section
variable{P:Program}{ops:Array Oper}{Q:Exit→Act→World→Prop}{a:Act}{w w':World}{rest:List Oper}{n:Nat}{f:Nat→Option Value}{ty:TypeId}{d:Option Tmp}{op:Op}{ps:String}{af:Array Edge}{g:Option (Nat×Bool)}{v:Value}{x:Operand}
theorem sV(h:Fr a n f)(q:(dn f ops g&&dg d n)=true)(E:Runs P a ty op w (.value v) w')(k:∀a',Fr a' n (upo f d v)→wpList P ops Q rest a' w'):wpList P ops Q (⟨d,op,ty,ps,af,g⟩::rest) a w:=Bj h (Bool.and_eq_true_iff.1 q).1 (Bool.and_eq_true_iff.1 q).2 E k
theorem sA(h:Fr a n f)(q:(dn f ops g&&dg d n)=true)(hx:ao f x=some v)(k:∀a',Fr a' n (upo f d v)→wpList P ops Q rest a' w):wpList P ops Q (⟨d,.assign x,ty,ps,af,g⟩::rest) a w:=sV h q (pW h hx) k
theorem sM(h:Fr a n f)(q:(dn f ops g&&dg d n)=true)(hx:ao f x=some v)(k:∀a',Fr a' n (upo f d v)→wpList P ops Q rest a' w):wpList P ops Q (⟨d,.move x,ty,ps,af,g⟩::rest) a w:=sV h q (qw h hx) k
variable{S:World→Prop}{m fuel:Nat}{listed:Array Bool}
theorem dV(i:Nat)(q:Nat.beq i m=false)(hi:ops[i]?=some ⟨d,op,ty,ps,af,g⟩)(G:Region.noSelect ops=true)(hf:(Region.free .any ops listed i&&(Region.ready .any ops listed).contains i)=true)
    (h:Fr a n f) (E:(dn f ops g&&dg d n)=true) (J:S w∨listed.getD m false=true) (O:∀w',Runs P a ty op w' (.value v) w')
    (k:∀a',Fr a' n (upo f d v)→wpAnyL P .any ops (NoPanic Q) S m fuel (listed.setIfInBounds i true) a' w):wpAnyL P .any ops (NoPanic Q) S m (fuel+1) listed a w:=
  dl_v i q hi G (Bool.and_eq_true_iff.1 hf).1 (Bool.and_eq_true_iff.1 hf).2 h (Bool.and_eq_true_iff.1 E).1 (Bool.and_eq_true_iff.1 E).2 J O k
theorem dM(i:Nat)(q:Nat.beq i m=false)(hi:ops[i]?=some ⟨d,.move x,ty,ps,af,g⟩)(E:Region.noSelect ops=true)(hf:(Region.free .any ops listed i&&(Region.ready .any ops listed).contains i)=true)
    (h:Fr a n f) (G:(dn f ops g&&dg d n)=true) (J:S w) (hx:ao f x=some v)
    (k:∀a',Fr a' n (upo f d v)→wpAnyL P .any ops (NoPanic Q) S m fuel (listed.setIfInBounds i true) a' w):wpAnyL P .any ops (NoPanic Q) S m (fuel+1) listed a w:=
  dV i q hi E hf h G (.inl J) (λ_=>qw h hx) k
end
abbrev TT:TypeId:=31
mutual
def NestC(w:World):Nat→Nat→Tree→List Value→Prop
 |lo,hi,.node k s _ ks,c=>∃B n g cs,c=[.int .i64 k,aE s,.slice none 0 0,.slice B ks.length n]∧ks.length≤n∧n≤maxLen∧lo≤hi∧(ks≠[]→B=some ⟨g,0,none⟩∧lo≤g∧g<hi∧Blk w g TT cs)∧NestK w (g+1) hi ks cs
def NestK(w:World):Nat→Nat→List Tree→List Value→Prop
 |lo,hi,[],cs=>cs=[]
 |lo,hi,t::r,cs=>∃c d mid,cs=c++d∧lo≤mid∧mid≤hi∧NestC w lo mid t c∧NestK w mid hi r d
end
variable{cs:List Value}
variable{lo hi:Nat}
section
variable{w w':World}
theorem my{b:Nat}{t:TypeId}(h:w'.heap[b]?=w.heap[b]?)(k:Blk w b t cs):Blk w' b t cs:=h.trans k
mutual
theorem NestC.keep:∀{lo hi:Nat} {t:Tree} {c:List Value},(∀x,lo≤x→x<hi→w'.heap[x]?=w.heap[x]?)→NestC w lo hi t c→NestC w' lo hi t c
 | lo,hi,.node k s ls ks,c,hk,h=>by
  simp only[NestC]at h⊢;obtain⟨B,n,g,cs,e,h1,h2,h3,h4,h5⟩:=h;by_cases hn:ks=[]
  ·subst hn;exact⟨B,n,g,cs,e,h1,h2,h3,λh=>absurd rfl h,by simpa only[NestK]using h5⟩
  ·obtain⟨e1,e2,e3,e4⟩:=h4 hn;exact⟨B,n,g,cs,e,h1,h2,h3,λ_=>⟨e1,e2,e3,my (hk g e2 e3) e4⟩,NestK.keep (λx h1 h2=>hk x (by omega) h2) h5⟩
theorem NestK.keep:∀{lo hi:Nat} {ts:List Tree} {cs:List Value},(∀x,lo≤x→x<hi→w'.heap[x]?=w.heap[x]?)→NestK w lo hi ts cs→NestK w' lo hi ts cs
 |lo,hi,[],cs,hk,h=>by simpa only[NestK]using h
 |lo,hi,t::r,cs,hk,h=>by
  simp only[NestK]at h⊢;obtain⟨c,d,mid,e,h1,h2,h3,h4⟩:=h;exact⟨c,d,mid,e,h1,h2,NestC.keep (λx g1 g2=>hk x g1 (by omega)) h3,NestK.keep (λx g1 g2=>hk x (by omega) g2) h4⟩
end
theorem NestC.lo_{lo':Nat}{c:List Value}(h:NestC w lo hi t c)(Z:lo'≤lo):NestC w lo' hi t c:=by
 obtain⟨k,s,ls,ks⟩:=t;simp only[NestC]at h⊢;obtain⟨B,n,g,cs,e,h1,h2,h3,q,E⟩:=h;exact⟨B,n,g,cs,e,h1,h2,by omega,λG=>by obtain⟨J,e2,O,U⟩:=q G;exact⟨J,by omega,O,U⟩,E⟩
theorem NestC.four{c:List Value}(h:NestC w lo hi t c):c.length=4:=by
 obtain⟨k,s,ls,ks⟩:=t;simp only[NestC]at h;obtain⟨B,n,g,cs,e,_⟩:=h;rw[e];rfl
theorem NestC.one{c:List Value}(h:NestC w lo hi t c):c.all (·.oneCell')=true:=by
 obtain⟨k,s,ls,ks⟩:=t;simp only[NestC]at h;obtain⟨B,n,g,cs,e,_⟩:=h;rw[e];rfl
theorem NestK.hi_:∀{ts:List Tree} {lo hi q:Nat} {cs:List Value},NestK w lo hi ts cs→hi≤q→NestK w lo q ts cs
 |[],lo,hi,q,cs,h,E=>by simpa only[NestK]using h
 |t::r,lo,hi,q,cs,h,E=>by
  simp only[NestK]at h⊢;obtain⟨c,d,mid,e,h1,h2,G,J⟩:=h;exact⟨c,d,mid,e,h1,by omega,G,NestK.hi_ J E⟩
theorem NestK.snoc:∀{ts:List Tree} {lo mid hi:Nat} {cs c:List Value} {t:Tree},NestK w lo mid ts cs→NestC w mid hi t c→lo≤mid→mid≤hi→NestK w lo hi (ts++[t]) (cs++c)
 |[],lo,mid,hi,cs,c,t,h,q,h1,h2=>by
  simp only[NestK]at h;subst h;simp only[List.nil_append,NestK];exact⟨c,[],hi,by simp,by omega,Nat.le_refl _,q.lo_ h1,rfl⟩
 |u::r,lo,mid,hi,cs,c,t,h,q,h1,h2=>by
  simp only[NestK]at h;obtain⟨E,d,m,e,G,J,O,U⟩:=h;simp only[List.cons_append,NestK];exact⟨E,d++c,m,by rw[e];simp,G,by omega,O,NestK.snoc U q J h2⟩
end
section
variable{P:Program}{a:Act}{w:World}{n:Nat}{f:Nat→Option Value}{S:Nat→Prop}
theorem DE{x y:Operand}{A:Option Addr}{ls:List (List UInt8)}{t e:TypeId}{by_:Nat}{z:Value}(h:Fr a n f)(hx:ao f x=some (.slice none 0 0))(hy:ao f y=some (.slice A ls.length m))(G:RowIn S w 1 A ls.length (ls.map aE))(hl:ls.length≤1000000000)
  (ht:P.underlying t=some (.slice e)) (hi:(P.info? e).map (λi=>(i.zero,i.size,i.bytes))=some (some z,1,by_)) (hzs:z.cells.size=1) (hb:Nat.ble by_ 64=true) (ty:TypeId):
  ∃A' J w',Runs P a ty (.call {callee:=.builtin .append,args:=#[x,y],argTypes:=#[t,t]}) w (.value (.slice A' ls.length J)) w'∧ls.length≤J∧J≤maxLen∧RowIn (λb=>w.heap.size≤b) w' 1 A' ls.length (ls.map aE)∧Chg [] w w':=by
 have hb':by_≤64:=Nat.le_of_ble_eq_true hb;obtain⟨i0,O,U⟩:=Option.map_eq_some_iff.1 hi;simp only[Prod.mk.injEq]at U;obtain⟨hz,hs,hbb⟩:=U;have hsize:bS P e=some 1:=by simp[bS,O,hs]
 by_cases hn:ls=[]
 ·subst hn;refine⟨none,0,w,λ_ _ _ _=>?_,Nat.le_refl _,Nat.zero_le _,RowIn.none_,Chg.refl _ _⟩;simp only[execOp,resolve,invoke,builtin,List.map_toArray,List.map_cons,List.map_nil,h.eval hx,h.eval hy];have :=nv (P:=P) (w:=w) (ty:=ty) (A:=none) (B:=A) (k:=0) (c:=0) (d:=m) ht hsize (Nat.le_refl _);simp only[List.length_nil];simp[this]
 ·have Z:0<ls.length:=List.length_pos_iff.2 hn;obtain⟨b,off,rfl,_,_,hc⟩:=G.2 Z;have E:(ls.map aE).length=ls.length*1:=by simp
  have h63:0+ls.length≤maxLen:=by simp only[maxLen];omega
  have hby:(0+ls.length)*by_≤140737488355328:=by
   have :=Nat.mul_le_mul hl hb';rw[Nat.zero_add];omega
  obtain⟨v',w',hrun,h2,h3,_,h5⟩:=run_append_own_at (P:=P) w w.heap.size t ty e i0 z 1 by_ ht O hz hs hbb hzs (by omega) (.slice none 0 0) 0 [] (World.ownsRow_nil w _ e 1) ⟨b,off,none⟩ ls.length m (ls.map aE) E
   (λj q hq=>by
    have hj:j<(ls.map aE).length:=(List.getElem?_eq_some_iff.1 hq).1;rw[iP,hc j (by rw[←E];exact hj)];exact hq) (λu hu=>by simp only[List.mem_map]at hu;obtain⟨_,_,rfl⟩:=hu;rfl) h63 hby (Nat.le_refl _)
  rw[Nat.zero_add]at h2;rw[List.nil_append]at h2;obtain⟨A',J,rfl,hm1,hm2⟩:=tY h2;refine⟨A',J,w',λ_ _ _ _=>?_,hm1,hm2,RowIn.of_own h2,Chg.grown h3⟩;simp only[execOp,resolve,invoke,builtin,List.map_toArray,List.map_cons,List.map_nil,h.eval hx,h.eval hy];simp[hrun]
end
theorem Bi{pre post:List Value}{q E J G u:Value}:(pre++[q,E,J,G]++post).set (pre.length+2) u=pre++[q,E,u,G]++post:=by
 rw[List.append_assoc,List.set_append_right _ _ (by omega)];simp
theorem rQ(pre post:List Value)(E G J q:Value):(pre++[E,G,J,q]++post)[pre.length+3]?=some q:=by
 rw[List.append_assoc,List.getElem?_append_right (by omega)];simp
variable{n:Nat}
section
variable{P:Program}
theorem tX{a:Act}{w:World}{f:Nat→Option Value}{t tb:TypeId}{x y:Operand}{b o:Nat}{pre old post:List Value}(h:Fr a n f)(hx:ao f x=some (.pointer (some ⟨b,o,none⟩)))(hy:ao f y=some (.agg vs.toArray))(hz:bS P t=some m)(hv:vs.length=m)(hone:vs.all (·.oneCell')=true)(hb:Blk w b tb (pre++old++post))(hp:pre.length=o)(hm:old.length=m)(ty:TypeId):
  ∃w',Runs P a ty (.store t x y) w .skip w'∧Blk w' b tb (pre++vs++post)∧Chg [b] w w':=by
 obtain⟨i,hi,hs⟩:=Option.map_eq_some_iff.1 (show(P.info? t).map (·.size)=some m from hz);subst hp;have key:∀(l:List Value) (j:Nat) (w:World) (cs:List Value),Blk w b tb cs→pre.length+j+l.length≤cs.length→l.all (·.oneCell')=true→∃w',(storeCells ⟨b,pre.length,none⟩ l j).run P w=.ok () w'∧Blk w' b tb (cs.take (pre.length+j)++l++cs.drop (pre.length+j+l.length))∧Chg [b] w w':=by
  intro l
  induction l with
  |nil=>intro j w cs hb hj _;exact⟨w,by simp[storeCells],by simpa using hb,Chg.refl _ _⟩
  | cons c r ih=>
   intro j w cs hb hj hone;simp only[List.all_cons,Bool.and_eq_true]at hone;simp only[List.length_cons]at hj;have ho:pre.length+j<cs.length:=by omega
   have hc:w.cell? ⟨b,pre.length+j,none⟩=some cs[pre.length+j]:=by rw[hb.cell];simp[ho]
   have hfz:=hb.frozen (pre.length+j);have ha:(⟨b,pre.length,none⟩:Addr).add j=⟨b,pre.length+j,none⟩:=iP _ _ _;obtain⟨w2,h1,h2,h3⟩:=ih (j+1) (w.setCell ⟨b,pre.length+j,none⟩ c) (cs.set (pre.length+j) c) (hb.set _ c) (by simp;omega) hone.2;refine⟨w2,?_,?_,(Chg.set w b _ c).trans h3 (λx hx=>.inl hx)⟩
   ·simp only[storeCells,ha];have hst:=run_store P w ⟨b,pre.length+j,none⟩ c .plain hone.1;simp[hst,stored,hc,hfz];exact h1
   ·have e1:(cs.set (pre.length+j) c).take (pre.length+(j+1))=cs.take (pre.length+j)++[c]:=by
     rw[←Nat.add_assoc,List.take_succ_eq_append_getElem (by simpa using ho),List.take_set_of_le (Nat.le_refl _)];simp
    have e2:(cs.set (pre.length+j) c).drop (pre.length+(j+1)+r.length)=cs.drop (pre.length+j+(r.length+1)):=by
     rw[List.drop_set_of_lt (by omega)];congr 1;omega
    rw[e1,e2]at h2;simpa using h2
 obtain⟨w1,h1,h2,h3⟩:=key vs 0 w _ hb (by simp;omega) hone;have e1:(pre++old++post).take (pre.length+0)=pre:=by simp
 have e2:(pre++old++post).drop (pre.length+0+vs.length)=post:=by
  have :pre.length+0+vs.length=(pre++old).length:=by simp;omega
  rw[this];simp
 rw[e1,e2]at h2;refine⟨w1,λ_ _ _ _=>?_,h2,h3⟩;simp only[execOp,h.eval hx,h.eval hy];simp[Instr.storeAt,Instr.sureAddr,storeVar,sizeOf,typeInfo,hi,hs,hv,Value.cells,h1]
end
def wf(ft:Nat→Nat→Option Nat)(n:Nat):Nat→Pt→List It→(Nat→Option Value)→Pt×List It×(Nat→Option Value)
 |0,p,s,f=>(p,s,f)
 |k+1,p,s,f=>match eV ft n 1 p s f with
  |some (p',s',f')=>wf ft n k p' s' f'
  |none=>(p,s,f)
def ftR:Nat→Nat→Option Nat:=ftG [(TT,3,3),(TT,2,2),(TT,1,1),(TT,0,0)]
theorem zB:∀t i k,ftR t i=some k→en prog t i=some k:=vU _ (by kernel_rfl)
section
variable{Q:Exit→Act→World→Prop}{a:Act}{w:World}{n:Nat}{f f':Nat→Option Value}{p p':Pt}{s s':List It}
theorem xz:∀(k:Nat) (p:Pt) (s:List It) (f:Nat→Option Value) (a:Act),Fr a n f→wf ftR n k p s f=(p',s',f')→(∀a',Fr a' n f'→Pt.wp prog Q p' s' a' w)→Pt.wp prog Q p s a w
 |0,p,s,f,a,h,hr,kk=>by
  simp only[wf,Prod.mk.injEq]at hr;obtain⟨rfl,rfl,rfl⟩:=hr;exact kk a h
 | k+1,p,s,f,a,h,hr,kk=>by
  simp only[wf]at hr;split at hr
  ·rename_i p1 s1 f1 he;exact cy zB 1 p s f a h he λa' h'=>xz k p1 s1 f1 a' h' hr kk
  ·simp only[Prod.mk.injEq]at hr;obtain⟨rfl,rfl,rfl⟩:=hr;exact kk a h
theorem rG(k:Nat)(h:Fr a n f)(hr:wf ftR n k p s f=(p',s',f'))(kk:∀a',Fr a' n f'→Pt.wp prog Q p' s' a' w):Pt.wp prog Q p s a w:=xz k p s f a h hr kk
theorem dG{fuel c:Nat}{ops:Array Oper}{S:World→Prop}(is:List Nat)(q:Region.noSelect ops=true)(E:ym ops m is listed=true)(h:Fr a n f)(G:is.length=c)(hr:uO ftR n ops is f=some f')(J:S w∨listed.getD m false=true)(k:∀a',Fr a' n f'→wpAnyL prog .any ops (NoPanic Q) S m fuel (BD is listed) a' w):wpAnyL prog .any ops (NoPanic Q) S m (fuel+c) listed a w:=by
 subst G;exact CY zB q is fuel listed f a E h hr J k
end
theorem AJ{S:Nat→Prop}{w:World}{ks:List Tree}(O:KidsAre S w ks cs)(hi:i<ks.length):∃q E G J,TreeIs S w ks[i] [q,E,G,J]∧∀j,j<4→cs[i*4+j]?=([q,E,G,J]:List Value)[j]?:=by
 obtain⟨c0,U,Z,c3,hT,h0,h1,h2,h3⟩:=O.at_ hi;refine⟨c0,U,Z,c3,hT,λj hj=>?_⟩;rcases(by omega:j=0∨j=1∨j=2∨j=3)with rfl|rfl|rfl|rfl
 ·exact h0
 ·exact h1
 ·exact h2
 ·exact h3
theorem vv{ks:List Tree}(hi:i<ks.length):tbulk ks[i]≤kbulk ks:=mb (List.getElem?_eq_getElem hi)
mutual
def NestD(w:World)(H:Nat):Nat→Nat→Tree→List Value→Prop
 |lo,hi,.node k s ls ks,c=>∃A m B n g cs,c=[.int .i64 k,aE s,.slice A ls.length m,.slice B ks.length n]∧ls.length≤m∧m≤maxLen∧ks.length≤n∧n≤maxLen∧lo≤hi∧RowIn (λx=>H≤x) w 1 A ls.length (ls.map aE)∧(ks≠[]→B=some ⟨g,0,none⟩∧lo≤g∧g<hi∧Blk w g TT cs)∧NestE w H (g+1) hi ks cs
def NestE(w:World)(H:Nat):Nat→Nat→List Tree→List Value→Prop
 |lo,hi,[],cs=>cs=[]
 |lo,hi,t::r,cs=>∃c d mid,cs=c++d∧lo≤mid∧mid≤hi∧NestD w H lo mid t c∧NestE w H mid hi r d
end
section
variable{w w':World}{H H':Nat}
theorem Cc{b:Nat}{t:TypeId}(k:Blk w b t cs)(h:w'.heap[b]?=w.heap[b]?):Blk w' b t cs:=h.trans k
mutual
theorem NestD.keep(hH:H'≤H):∀{lo hi:Nat} {t:Tree} {c:List Value},(∀x,x<w.heap.size→(lo≤x∧x<hi)∨H≤x→w'.heap[x]?=w.heap[x]?)→NestD w H lo hi t c→NestD w' H' lo hi t c
 | lo,hi,.node k s ls ks,c,hk,h=>by
  simp only[NestD]at h⊢;obtain⟨A,m,B,n,g,cs,e,h1,h2,h3,h4,h5,h6,h7,h8⟩:=h;have h6':RowIn (λx=>H'≤x) w' 1 A ls.length (ls.map aE):=h6.keepB (λx hx _=>nlt hH hx) (λx hx hl=>hk x hl (.inr hx));by_cases hn:ks=[]
  ·subst hn;exact⟨A,m,B,n,g,cs,e,h1,h2,h3,h4,h5,h6',λh=>absurd rfl h,by simpa only[NestE]using h8⟩
  ·obtain⟨e1,e2,e3,e4⟩:=h7 hn;exact⟨A,m,B,n,g,cs,e,h1,h2,h3,h4,h5,h6',λ_=>⟨e1,e2,e3,Cc e4 (hk g e4.lt (.inl ⟨e2,e3⟩))⟩,NestE.keep hH (λx g0 g1=>hk x g0 (g1.elim (λg2=>.inl ⟨by omega,g2.2⟩) .inr)) h8⟩
theorem NestE.keep(hH:H'≤H):∀{lo hi:Nat} {ts:List Tree} {cs:List Value},(∀x,x<w.heap.size→(lo≤x∧x<hi)∨H≤x→w'.heap[x]?=w.heap[x]?)→NestE w H lo hi ts cs→NestE w' H' lo hi ts cs
 |lo,hi,[],cs,hk,h=>by simpa only[NestE]using h
 |lo,hi,t::r,cs,hk,h=>by
  simp only[NestE]at h⊢;obtain⟨c,d,mid,e,h1,h2,h3,h4⟩:=h;exact⟨c,d,mid,e,h1,h2,NestD.keep hH (λx g0 g1=>hk x g0 (g1.elim (λg2=>.inl ⟨g2.1,by omega⟩) .inr)) h3,NestE.keep hH (λx g0 g1=>hk x g0 (g1.elim (λg2=>.inl ⟨by omega,g2.2⟩) .inr)) h4⟩
end
mutual
theorem NestD.tree{Sf:Nat→Prop}:∀{lo hi:Nat} {t:Tree} {c:List Value},(∀x,(lo≤x∧x<hi)∨H≤x→Sf x)→NestD w H lo hi t c→TreeIs Sf w t c
 | lo,hi,.node k s ls ks,c,hS,h=>by
  simp only[NestD]at h;obtain⟨A,m,B,n,g,cs,e,h1,h2,h3,h4,h5,h6,h7,h8⟩:=h;subst e;by_cases hn:ks=[]
  ·subst hn;exact qD (cs:=[]) h1 h2 h3 h4 (h6.keep (λx hx=>hS x (.inr hx)) (λ_ _ _=>rfl)) (by simp only[KidsAre]) ⟨by simp,λh=>by simp at h⟩
  ·obtain⟨rfl,e2,e3,e4⟩:=h7 hn;have hk:=NestE.kids (Sf:=Sf) (λx hx=>hS x (hx.elim (λg2=>.inl ⟨by omega,g2.2⟩) .inr)) h8;exact qD h1 h2 h3 h4 (h6.keep (λx hx=>hS x (.inr hx)) (λ_ _ _=>rfl)) hk ⟨hk.length,λ_=>⟨g,0,rfl,hS g (.inl ⟨e2,e3⟩),e4.lt,λj hj=>by rw[e4.cell,Nat.zero_add]⟩⟩
theorem NestE.kids{Sf:Nat→Prop}:∀{lo hi:Nat} {ts:List Tree} {cs:List Value},(∀x,(lo≤x∧x<hi)∨H≤x→Sf x)→NestE w H lo hi ts cs→KidsAre Sf w ts cs
 |lo,hi,[],cs,hS,h=>by simpa only[NestE,KidsAre]using h
 |lo,hi,t::r,cs,hS,h=>by
  simp only[NestE]at h;obtain⟨c,d,mid,e,h1,h2,h3,h4⟩:=h;simp only[KidsAre];exact⟨c,d,e,NestD.tree (λx hx=>hS x (hx.elim (λg2=>.inl ⟨g2.1,by omega⟩) .inr)) h3,NestE.kids (λx hx=>hS x (hx.elim (λg2=>.inl ⟨by omega,g2.2⟩) .inr)) h4⟩
end
theorem NestD.four{c:List Value}(h:NestD w H lo hi t c):c.length=4:=(h.tree (Sf:=λ_=>True) (λ_ _=>trivial)).four
theorem NestD.one{c:List Value}(h:NestD w H lo hi t c):c.all (·.oneCell')=true:=(h.tree (Sf:=λ_=>True) (λ_ _=>trivial)).one
theorem NestE.length{ts:List Tree}(h:NestE w H lo hi ts cs):cs.length=ts.length*4:=(h.kids (Sf:=λ_=>True) (λ_ _=>trivial)).length
theorem NestD.lo_{lo':Nat}{c:List Value}(h:NestD w H lo hi t c)(hl:lo'≤lo):NestD w H lo' hi t c:=by
 obtain⟨k,s,ls,ks⟩:=t;simp only[NestD]at h⊢;obtain⟨A,m,B,n,g,cs,e,h1,h2,q,E,h5,G,J,O⟩:=h;exact⟨A,m,B,n,g,cs,e,h1,h2,q,E,by omega,G,λU=>by obtain⟨Z,e2,e3,e4⟩:=J U;exact⟨Z,by omega,e3,e4⟩,O⟩
theorem NestE.hi_:∀{ts:List Tree} {lo hi q:Nat} {cs:List Value},NestE w H lo hi ts cs→hi≤q→NestE w H lo q ts cs
 |[],lo,hi,q,cs,h,E=>by simpa only[NestE]using h
 |t::r,lo,hi,q,cs,h,E=>by
  simp only[NestE]at h⊢;obtain⟨c,d,mid,e,h1,h2,G,J⟩:=h;exact⟨c,d,mid,e,h1,by omega,G,NestE.hi_ J E⟩
theorem NestE.snoc:∀{ts:List Tree} {lo mid hi:Nat} {cs c:List Value} {t:Tree},NestE w H lo mid ts cs→NestD w H mid hi t c→lo≤mid→mid≤hi→NestE w H lo hi (ts++[t]) (cs++c)
 |[],lo,mid,hi,cs,c,t,h,q,h1,h2=>by
  simp only[NestE]at h;subst h;simp only[List.nil_append,NestE];exact⟨c,[],hi,by simp,by omega,Nat.le_refl _,q.lo_ h1,rfl⟩
 |u::r,lo,mid,hi,cs,c,t,h,q,h1,h2=>by
  simp only[NestE]at h;obtain⟨E,d,m,e,G,J,O,U⟩:=h;simp only[List.cons_append,NestE];exact⟨E,d++c,m,by rw[e];simp,G,by omega,O,NestE.snoc U q J h2⟩
theorem NestE.pick:∀{ts:List Tree} {lo hi:Nat} {cs:List Value} {i:Nat},NestE w H lo hi ts cs→(J:i<ts.length)→hi≤H→∃pre ci post q E,cs=pre++ci++post∧pre.length=i*4∧lo≤q∧q≤E∧E≤hi∧NestD w H q E ts[i] ci∧
  ∀(w':World) (G:Nat) (Sf:Nat→Prop) (v:Tree) (cu:List Value),(∀x,x<w.heap.size→x≠G→w'.heap[x]?=w.heap[x]?)→(G<lo∨(q≤G∧G<E))→(∀x,(lo≤x∧x<hi)∨H≤x→Sf x)→G<H→TreeIs Sf w' v cu→KidsAre Sf w' (ts.set i v) (pre++cu++post)
 |t::r,lo,hi,cs,0,h,J,hH=>by
  simp only[NestE]at h;obtain⟨c,d,mid,e,h1,h2,O,h4⟩:=h;refine⟨[],c,d,lo,mid,by simpa using e,rfl,Nat.le_refl _,h1,h2,O,λw' G Sf v cu U hb Z hbH hv=>?_⟩;simp only[List.set_cons_zero,KidsAre,List.nil_append];refine⟨cu,d,rfl,hv,?_⟩;exact NestE.kids (λx hx=>Z x (hx.elim (λg=>.inl ⟨by omega,g.2⟩) .inr)) (NestE.keep (w':=w') (Nat.le_refl H) (λx hx g=>U x hx (by omega)) h4)
 |t::r,lo,hi,cs,i+1,h,J,hH=>by
  simp only[NestE]at h;obtain⟨c,d,mid,e,h1,h2,O,h4⟩:=h;obtain⟨pre,ci,post,q,E,e2,e3,e4,e4',e5,e6,e7⟩:=NestE.pick (i:=i) h4 (by simpa using J) hH;refine⟨c++pre,ci,post,q,E,by rw[e,e2];simp,by rw[List.length_append,O.four,e3];omega,by omega,e4',e5,by simpa using e6,λw' G Sf v cu U hb Z hbH hv=>?_⟩;simp only[List.set_cons_succ,KidsAre];refine⟨c,pre++cu++post,by simp,?_,e7 w' G Sf v cu U (by omega) (λx hx=>Z x (hx.elim (λg=>.inl ⟨by omega,g.2⟩) .inr)) hbH hv⟩;exact NestD.tree (λx hx=>Z x (hx.elim (λg=>.inl ⟨g.1,by omega⟩) .inr)) (NestD.keep (w':=w') (Nat.le_refl H) (λx hx g=>U x hx (by omega)) O)
theorem NestD.step{c:List Value}(h:NestD w H lo hi t c)(G:i<t.kids.length)(hH:hi≤H):∃A m n g pre ci post q E,c=[.int .i64 t.kind,aE t.text,.slice A t.leads.length m,.slice (some ⟨g,0,none⟩) t.kids.length n]∧Blk w g TT (pre++ci++post)∧pre.length=i*4∧lo≤g∧g<q∧q≤E∧E≤hi∧NestD w H q E t.kids[i] ci∧
  ∀(w':World) (J:Nat) (Sf:Nat→Prop) (v:Tree) (cu:List Value),(∀x,x<w.heap.size→x≠J→w'.heap[x]?=w.heap[x]?)→(J=g∨(q≤J∧J<E))→(∀x,(lo≤x∧x<hi)∨H≤x→Sf x)→Blk w' g TT (pre++cu++post)→TreeIs Sf w' v cu→TreeIs Sf w' (.node t.kind t.text t.leads (t.kids.set i v)) c:=by
 obtain⟨k,s,ls,ks⟩:=t;simp only[Tree.kids]at G;simp only[Tree.kids,Tree.kind,Tree.text,Tree.leads];simp only[NestD]at h;obtain⟨A,m,B,n,g,cs,rfl,h1,h2,h3,h4,h5,h6,h7,h8⟩:=h;have hn:ks≠[]:=λe=>by subst e;simp at G
 obtain⟨rfl,g1,g2,g3⟩:=h7 hn;obtain⟨pre,ci,post,q,E,e,e3,e4,U,e5,e6,e7⟩:=h8.pick G hH;subst e;refine⟨A,m,n,g,pre,ci,post,q,E,rfl,g3,e3,g1,by omega,U,e5,e6,λw' J Sf v cu hs hb Z hB hv=>?_⟩;have hk:=e7 w' J Sf v cu hs (by omega) (λx hx=>Z x (hx.elim (λg=>.inl ⟨by omega,g.2⟩) .inr)) (by omega) hv;have h6':RowIn Sf w' 1 A ls.length (ls.map aE):=h6.keepB (λx hx _=>Z x (.inr hx)) (λx hx O=>hs x O (by omega));have O:=hk.length;rw[List.length_set]at O;have :=qD (ks:=ks.set i v) (B:=some ⟨g,0,none⟩) (n:=n) (k:=k) (s:=s) h1 h2 (by rw[List.length_set];exact h3) h4 h6' hk ⟨by rw[List.length_set];exact O,λ_=>⟨g,0,rfl,Z g (.inl ⟨g1,g2⟩),hB.lt,λj hj=>by rw[hB.cell,Nat.zero_add]⟩⟩
 rwa [List.length_set]at this
end
def uK(t:Tree):Prop:=∀(w:World) (b:Nat) (pre c post ct:List Value) (lo hi:Nat) (Sf:Nat→Prop),tbulk t≤1000000000→
 Blk w b TT (pre++c++post)→NestC w lo hi t c→¬(lo≤b∧b<hi)→hi≤w.heap.size→TreeIs Sf w t ct→(∀x,Sf x→x≠b∧¬(lo≤x∧x<hi))→
 Calls prog 60 #[.pointer (some ⟨b,pre.length,none⟩),.agg ct.toArray] w λe w'=>e=.returned (.tuple #[])∧∃q,Blk w' b TT (pre++q++post)∧ChgP (λx=>x=b∨(lo≤x∧x<hi)) w w'∧NestD w' w.heap.size lo hi t q
def wi(t:Tree):Prop:=∀(w:World) (S:Nat→Prop) (ct:List Value),tbulk t≤1000000000→TreeIs S w t ct→
 Calls prog 59 #[.agg ct.toArray] w λe w'=>∃c,e=.returned (.agg c.toArray)∧Chg [] w w'∧NestC w' w.heap.size w'.heap.size t c
theorem AT(t:Tree)(ih:∀(i:Nat) (u:Tree),t.kids[i]?=some u→wi u):wi t:=by
  obtain⟨k,s,ls,ks⟩:=t;intro w S ct hbk hT;simp only[TreeIs]at hT;obtain⟨A,m,B',n',rfl,hm1,hm2,hm3,hm4,hA,kcs,hKT,hKR⟩:=hT;simp only[Tree.kids]at ih;simp only[tbulk]at hbk;have hkl:=mf ks;refine rE 36 func59 rfl rfl rfl ?_;intro a hf;refine rG 60 hf rfl ?_;clear hf a;intro a hf;obtain⟨w1,b1,he,hB1,hx1,e1,l1⟩:=nS (P:=prog) (t:=TT) (x:=(.tmp 0)) hf rfl rfl w 0;refine rV hf rfl he ?_;clear he hf a;intro a hf;obtain⟨w2,b2,he,hB2,hx2,e2,l2⟩:=eT a w1 0;refine rV hf rfl he ?_;clear he hf a;intro a hf;replace hB1:=hB1.c0 hx2;refine rG 60 hf rfl ?_;clear hf a;intro a hf;refine rV hf rfl (ei hf rfl (by kernel_rfl) hB1 rfl) ?_;clear hf a;intro a hf;refine rG 60 hf rfl ?_;clear hf a;intro a hf;refine rV hf rfl (ei hf rfl (by kernel_rfl) hB1 rfl) ?_;clear hf a;intro a hf;refine rV hf rfl (FP (z:=zT) (os:=[0,1]) (cs:=[.int .i64 k,aE s,.slice none 0 0,.slice none 0 0]) hf rfl (by kernel_rfl) (by kernel_rfl) (by kernel_rfl) rfl rfl) ?_;clear hf a;intro a hf;obtain⟨w3,b3,he,hB3,hx3,e3,l3⟩:=eT a w2 0;refine rV hf rfl he ?_;clear he hf a;intro a hf;replace hB1:=hB1.c0 hx3;replace hB2:=hB2.c0 hx3;obtain⟨w4,he,hB3',hx4⟩:=eN (.tmp 3) (.tmp 10) hf rfl rfl rfl rfl hB3 rfl 0;refine rS hf rfl he ?_;clear he hf a;intro a hf;clear hB3;have hB3:=hB3';clear hB3';have s1:=hx1.size;have s2:=hx2.size;have s3:=hx3.size;have s4:=hx4.size;replace hB1:=hB1.chg hx4 (by simp;omega);replace hB2:=hB2.chg hx4 (by simp;omega);have hC:Chg [] w w4:=((hx1.t0 hx2).t0 hx3).n1 hx4 (by omega);clear hx1 hx2 hx3 hx4;refine rG 60 hf rfl ?_;clear hf a;intro a hf;refine rV hf rfl (ei hf rfl (by kernel_rfl) hB1 rfl) ?_;clear hf a;intro a hf;refine rV hf rfl (ku hf underlying25 rfl) ?_;clear hf a;intro a hf;have hfin:∀(B:Option Addr) (nn g:Nat) (cs:List Value) (w':World),Chg [] w w'→ks.length≤nn→nn≤maxLen→(ks≠[]→B=some ⟨g,0,none⟩∧w.heap.size≤g∧g<w'.heap.size∧Blk w' g TT cs)→NestK w' (g+1) w'.heap.size ks cs→NestC w' w.heap.size w'.heap.size (.node k s ls ks) [.int .i64 k,aE s,.slice none 0 0,.slice B ks.length nn]:=λB nn g cs w' h1 h2 h3 h4 h5=>by
    simp only[NestC];exact⟨B,nn,g,cs,rfl,h2,h3,h1.size,h4,h5⟩
  by_cases hk0:ks=[]
  · skip
    subst hk0;refine rV hf rfl (vd (c:=false) hf rfl rfl (by simp)) ?_;clear hf a;intro a hf;refine rG 60 hf rfl ?_;clear hf a;intro a hf;refine rV hf rfl (ei hf rfl (by kernel_rfl) hB1 rfl) ?_;clear hf a;intro a hf;refine rV hf rfl (ku hf underlying25 rfl) ?_;clear hf a;intro a hf;refine rG 60 hf rfl ?_;clear hf a;intro a hf;refine rL (λm a w'=>m=0∧w'=w4∧Fr a 36 (fm [(2,.pointer (some ⟨b2,0,none⟩)),(3,.pointer (some ⟨b3,0,none⟩)),(22,.int .i64 ((0:Nat):Int)),(23,.int .i64 0)])) 0 ⟨rfl,rfl,hf.pick ⟨rfl,rfl,rfl,rfl,trivial⟩⟩ ?_;clear hf a;rintro _ a _ ⟨rfl,rfl,hf⟩;refine rG 60 hf rfl ?_;clear hf a;intro a hf;refine rV hf rfl (lX (c:=false) hf rfl rfl (by simp)) ?_;clear hf a;intro a hf;refine rG 60 hf rfl ?_;clear hf a;intro a hf;refine rO ?_;refine rG 60 hf rfl ?_;clear hf a;intro a hf;refine rV hf rfl (eP (m:=4) hf rfl (by kernel_rfl) hB3 rfl) ?_;clear hf a;intro a hf;obtain⟨w9,he,hB2',hx9⟩:=eN (.tmp 2) (.tmp 35) hf rfl rfl rfl rfl hB2 rfl 0;refine rS hf rfl he ?_;clear he hf a;intro a hf;refine rG 60 hf rfl ?_;clear hf a;intro a hf;exact rT (rs:=[.cell 2 TT]) hf rfl ⟨_,_,_,_,_,rfl,rfl,by kernel_rfl,hB2',rfl,rfl⟩ ⟨_,rfl,hC.n1 hx9 (by omega),hfin none 0 0 [] w9 (hC.n1 hx9 (by omega)) (Nat.le_refl _) (Nat.zero_le _) (λh=>absurd rfl h) (by simp only[NestK])⟩
  have hpos:0<ks.length:=List.length_pos_iff.2 hk0;obtain⟨kb,ko,rfl,hkS,hkb,hcell⟩:=hKR.2 hpos;refine rV hf rfl (vd (c:=true) hf rfl rfl (by simp;omega)) ?_;clear hf a;intro a hf;refine rG 60 hf rfl ?_;clear hf a;intro a hf;refine rV hf rfl (ei hf rfl (by kernel_rfl) hB1 rfl) ?_;clear hf a;intro a hf;refine rV hf rfl (ku hf underlying25 rfl) ?_;clear hf a;intro a hf;obtain⟨C,hCd⟩:∃C,C=(madeCells (Value.agg zT.toArray).cells (ks.length*4)).toList:=⟨_,rfl⟩;have hCl:C.length=ks.length*4:=by rw[hCd,Array.length_toList,size_madeCells]
  obtain⟨w5,g,he,hG,hx5,eg,lg⟩:=xb (P:=prog) (x:=.tmp 17) (y:=.tmp 17) (t:=25) (e:=TT) (m:=ks.length) (z:=.agg zT.toArray) (sz:=4) (by_:=72) (cs:=C) hf rfl rfl underlying25 (by kernel_rfl) (Nat.ble_eq_true_of_le (by omega)) (Nat.ble_eq_true_of_le (by omega)) (by rw[hCd]) w4 0;refine rV hf rfl he ?_;clear he hf a;intro a hf;replace hB1:=hB1.c0 hx5;replace hB2:=hB2.c0 hx5;replace hB3:=hB3.c0 hx5;refine rG 60 hf rfl ?_;clear hf a;intro a hf;obtain⟨w6,he,hB3',hx6⟩:=eS 25 (.tmp 19) (.tmp 18) hf rfl rfl (by kernel_rfl) rfl hB3 rfl 0;refine rS hf rfl he ?_;clear he hf a;intro a hf;clear hB3;have hB3:=hB3';clear hB3';have s5:=hx5.size;have s6:=hx6.size;replace hB1:=hB1.chg hx6 (by simp;omega);replace hB2:=hB2.chg hx6 (by simp;omega);replace hG:=hG.chg hx6 (by simp;omega);replace hC:Chg [] w w6:=(hC.t0 hx5).n1 hx6 (by omega);clear hx5 hx6;refine rG 60 hf rfl ?_;clear hf a;intro a hf;refine rV hf rfl (ei hf rfl (by kernel_rfl) hB1 rfl) ?_;clear hf a;intro a hf;refine rV hf rfl (ku hf underlying25 rfl) ?_;clear hf a;intro a hf;refine rG 60 hf rfl ?_;clear hf a;intro a hf;have hg0:w.heap.size≤g:=by omega
  have hgb:g≠b2∧g≠b3∧b2≠b3:=by omega
  have hl2:w.heap.size≤b2:=by omega
  have hl3:w.heap.size≤b3:=by omega
  have hlg:g+1≤w6.heap.size:=hG.lt;refine rL (λm a w'=>∃(i:Nat) (done rest:List Value) (mi:Nat),m=ks.length-i∧i≤ks.length∧Fr a 36 (fm [(2,.pointer (some ⟨b2,0,none⟩)),(3,.pointer (some ⟨b3,0,none⟩)),(21,.slice (some ⟨kb,ko,none⟩) ks.length n'),(22,.int .i64 (ks.length:Nat)),(23,.int .i64 (i:Nat))])∧
      Chg [] w w'∧Blk w' b2 TT zT∧Blk w' b3 TT [.int .i64 k,aE s,.slice none 0 0,.slice (some ⟨g,0,none⟩) ks.length ks.length]∧Blk w' g TT (done++rest)∧done.length=i*4∧rest.length=(ks.length-i)*4∧g+1≤mi∧mi≤w'.heap.size∧NestK w' (g+1) mi (ks.take i) done) ks.length
    ⟨0,[],C,g+1,by omega,Nat.zero_le _,hf.pick ⟨rfl,rfl,rfl,rfl,rfl,trivial⟩,hC,hB2,hB3,hG,rfl,by omega,Nat.le_refl _,hlg,by simp only[List.take_zero,NestK]⟩ ?_
  clear hf a hC hB1 hB2 hB3 hG hlg;rintro _ a w7 ⟨i,done,rest,mi,rfl,hi,hf,hC,hB2,hB3,hG,hdl,hrl,hgm,hmw,hNK⟩;by_cases hlt:i<ks.length
  · skip
    obtain⟨d0,d1,d2,d3,hT,hK⟩:=AJ hKT hlt;have on_T:=hT.one;replace hT:=hT.keepB (S':=λx=>x<w7.heap.size) (w':=w7) (λx _ hx=>Nat.lt_of_lt_of_le hx hC.size) (λx _ hx=>hC.block x hx nm0);have hK7:∀j,j<4→w7.cell? ⟨kb,ko+i*4+j,none⟩=([d0,d1,d2,d3]:List Value)[j]?:=λj hj=>by
      rw[hC.cell hkb nm0,Nat.add_assoc,hcell _ (by omega)];exact hK j hj
    have htb:=vv hlt
    match rest,hrl,hG with
    |[],hrl,hG=>simp only[List.length_nil]at hrl;omega
    |[_],hrl,hG=>simp only[List.length_cons,List.length_nil]at hrl;omega
    |[_,_],hrl,hG=>simp only[List.length_cons,List.length_nil]at hrl;omega
    |[_,_,_],hrl,hG=>simp only[List.length_cons,List.length_nil]at hrl;omega
    | r0::r1::r2::r3::rest,hrl,hG=>
      replace hG:Blk w7 g TT (done++[r0,r1,r2,r3]++rest):=by simpa using hG
      refine rG 60 hf rfl ?_;clear hf a;intro a hf;refine rV hf rfl (lX (c:=true) hf rfl rfl (by simp;omega)) ?_;clear hf a;intro a hf;refine rG 60 hf rfl ?_;clear hf a;intro a hf;refine rV hf rfl (iQ (sz:=4) (k:=i) hf underlying25 (by kernel_rfl) rfl rfl rfl hlt rfl) ?_;clear hf a;intro a hf;refine rV hf rfl (ex_loadN (cs:=[d0,d1,d2,d3]) (m:=4) hf rfl (by kernel_rfl) rfl hK7) ?_;clear hf a;intro a hf;obtain⟨w8,b5,he,hB5,hx8,e5,l5⟩:=eT a w7 0;refine rV hf rfl he ?_;clear he hf a;intro a hf;replace hB2:=hB2.c0 hx8;replace hB3:=hB3.c0 hx8;replace hG:=hG.c0 hx8;replace hC:=hC.t0 hx8;have s8:=hx8.size;replace hT:=hT.keepB (S':=λx=>x<w7.heap.size) (w':=w8) (λx hx _=>hx) (λx _ hx=>hx8.block x hx nm0);replace hNK:=hNK.keep (w':=w8) (λx _ hx=>hx8.block x (by omega) nm0);refine rG 60 hf rfl ?_;clear hf a;intro a hf;obtain⟨w9,he,hB5',hx9⟩:=eN (.tmp 5) (.tmp 27) hf rfl rfl rfl on_T hB5 rfl 0;refine rS hf rfl he ?_;clear he hf a;intro a hf;clear hB5;have hB5:=hB5';clear hB5';have s9:=hx9.size;have n5:b2≠b5∧b3≠b5∧g≠b5:=⟨by omega,by omega,by omega⟩;replace hB2:=hB2.chg hx9 (by simp;omega);replace hB3:=hB3.chg hx9 (by simp;omega);replace hG:=hG.chg hx9 (by simp;omega);replace hC:=hC.n1 hx9 (by omega);replace hT:=hT.keepB (S':=λx=>x<w7.heap.size) (w':=w9) (λx hx _=>hx) (λx hx1 hx=>hx9.block x hx (by simp;omega));replace hNK:=hNK.keep (w':=w9) (λx _ hx=>hx9.block x (by omega) (by simp;omega));refine rG 60 hf rfl ?_;clear hf a;intro a hf;refine rD (λx=>Blk x b3 TT [.int .i64 k,aE s,.slice none 0 0,.slice (some ⟨g,0,none⟩) ks.length ks.length]∧Blk x b5 TT [d0,d1,d2,d3]) 6 7 rfl (by kernel_rfl) (by kernel_rfl) ?_;intro w10 hx10 hsel;replace hB2:=hB2.c0 hx10;replace hB3:=hB3.c0 hx10;replace hB5:=hB5.c0 hx10;replace hG:=hG.c0 hx10;replace hC:=hC.t0 hx10;have s10:=hx10.size;replace hT:=hT.keepB (S':=λx=>x<w7.heap.size) (w':=w10) (λx hx _=>hx) (λx hx1 hx=>hx10.block x hx nm0);replace hNK:=hNK.keep (w':=w10) (λx _ hx=>hx10.block x (by omega) nm0);refine dG [0] hsel (by kernel_rfl) hf rfl rfl (.inl ⟨hB3,hB5⟩) ?_;clear hf a;intro a hf;refine dL 1 rfl rfl hsel (by kernel_rfl) hf rfl ⟨hB3,hB5⟩ (λx hS=>ei hf rfl (by kernel_rfl) hS.1 rfl) ?_;clear hf a;intro a hf;refine dG [2] hsel (by kernel_rfl) hf rfl rfl (.inl ⟨hB3,hB5⟩) ?_;clear hf a;intro a hf;refine dL 3 rfl rfl hsel (by kernel_rfl) hf rfl ⟨hB3,hB5⟩ (λx hS=>eP (m:=4) hf rfl (by kernel_rfl) hS.2 rfl) ?_;clear hf a;intro a hf;refine EY 4 (by kernel_rfl) rfl hf rfl rfl rfl (by kernel_rfl) (ih i ks[i] (List.getElem?_eq_getElem hlt) w10 _ _ (by omega) hT) ?_;rintro _ w11 ⟨c,rfl,hx11,hN⟩;refine⟨_,rfl,?_⟩;clear hf a;intro a hf;replace hB2:=hB2.c0 hx11;replace hB3:=hB3.c0 hx11;replace hB5:=hB5.c0 hx11;replace hG:=hG.c0 hx11;replace hC:=hC.t0 hx11;have s11:=hx11.size;replace hNK:=hNK.keep (w':=w11) (λx _ hx=>hx11.block x (by omega) nm0);refine⟨.inl ⟨hB3,hB5⟩,?_⟩;refine dV 5 rfl rfl hsel (by kernel_rfl) hf rfl (.inl ⟨hB3,hB5⟩) (λx=>iQ (sz:=4) (k:=i) (r:=i*4) hf underlying25 (by kernel_rfl) rfl rfl rfl hlt (Nat.zero_add _)) ?_;clear hf a;intro a hf;obtain⟨w12,he,hG',hx12⟩:=tX (P:=prog) (t:=TT) (x:=(.tmp 33)) (y:=(.tmp 32)) (m:=4) hf rfl rfl (by kernel_rfl) hN.four hN.one hG hdl rfl 0;refine GS 6 (by kernel_rfl) rfl hf rfl rfl he ?_;clear he hf a;intro a hf;refine⟨.inr (by rfl),?_⟩;refine rN (by kernel_rfl) ?_;clear hG;have hG:=hG';clear hG';have s12:=hx12.size;have hGl:=hG.lt;replace hB2:=hB2.chg hx12 (by simp;omega);replace hB3:=hB3.chg hx12 (by simp;omega);replace hC:=hC.n1 hx12 (by omega);replace hNK:=hNK.keep (w':=w12) (λx h1 h2=>hx12.block x (by omega) (by simp;omega));replace hN:=hN.keep (w':=w12) (λx h1 h2=>hx12.block x h2 (by simp;omega));have hN4:=hN.four;refine rG 60 hf rfl ?_;clear hf a;intro a hf;refine rV hf rfl (tj (r:=((i+1:Nat):Int)) hf rfl rfl (by simp) (by omega)) ?_;clear hf a;intro a hf;refine rG 60 hf rfl ?_;clear hf a;intro a hf;refine rX ?_;refine⟨ks.length-(i+1),by omega,i+1,done++c,rest,w11.heap.size,rfl,hlt,hf.pick ⟨rfl,rfl,rfl,rfl,rfl,trivial⟩,hC,hB2,hB3,hG,by rw[List.length_append,hN4];omega,by simp only[List.length_cons]at hrl;omega,by omega,by omega,?_⟩;rw[List.take_succ_eq_append_getElem hlt];exact NestK.snoc hNK (hN.lo_ (by omega)) hgm (by omega)
  have hi':i=ks.length:=by omega
  subst hi';have hr0:rest=[]:=List.eq_nil_of_length_eq_zero (by omega);subst hr0;rw[List.append_nil]at hG;rw[List.take_length]at hNK;refine rG 60 hf rfl ?_;clear hf a;intro a hf;refine rV hf rfl (lX (c:=false) hf rfl rfl (by simp)) ?_;clear hf a;intro a hf;refine rG 60 hf rfl ?_;clear hf a;intro a hf;refine rO ?_;refine rG 60 hf rfl ?_;clear hf a;intro a hf;refine rV hf rfl (eP (m:=4) hf rfl (by kernel_rfl) hB3 rfl) ?_;clear hf a;intro a hf;obtain⟨w9,he,hB2',hx9⟩:=eN (.tmp 2) (.tmp 35) hf rfl rfl rfl rfl hB2 rfl 0;refine rS hf rfl he ?_;clear he hf a;intro a hf;refine rG 60 hf rfl ?_;clear hf a;intro a hf;have s9:=hx9.size;have hGl:=hG.lt;refine rT (rs:=[.cell 2 TT]) hf rfl ⟨_,_,_,_,_,rfl,rfl,by kernel_rfl,hB2',rfl,rfl⟩ ⟨_,rfl,hC.n1 hx9 (by omega),hfin (some ⟨g,0,none⟩) ks.length g done w9 (hC.n1 hx9 (by omega)) (Nat.le_refl _) (by simp only[maxLen];omega) (λ_=>⟨rfl,hg0,by omega,hG.chg hx9 (by simp;omega)⟩) ?_⟩;exact NestK.hi_ (hNK.keep (w':=w9) (λx h1 h2=>hx9.block x (by omega) (by simp;omega))) (by omega)
theorem BQ:∀t,wi t:=cn AT
def pT(md:Region.Mode)(ops:Array Oper):Nat→List Nat→Nat→Bool
 |m,[],i=>ja md ops m i
 |m,q::r,i=>ja md ops m q&&pT md ops q r i
theorem vr{md:Region.Mode}{ops:Array Oper}(h:ja md ops m i=true)(hi:listed.getD i true=false):m∉Region.ready md ops listed:=λhr=>by
 obtain⟨_,o,G,q⟩:=mem_ready.1 hr;unfold ja at h;rw[G]at h;obtain⟨e,J,E⟩:=Array.any_eq_true'.1 h;simp only[Bool.and_eq_true,beq_iff_eq]at E;have h1:=q e J E.1;rw[E.2]at h1;rcases Nat.lt_or_ge i listed.size with h'|h'
 ·simp[h']at hi h1;rw[hi]at h1;cases h1
 ·simp[Array.getElem?_eq_none h']at h1
theorem tD{md:Region.Mode}{ops:Array Oper}{listed:Array Bool}{i:Nat}(hi:listed.getD i true=false):∀(qs:List Nat) (m:Nat),pT md ops m qs i=true→(∀q∈qs,listed.getD q true=false)→∀x∈m::qs,x∉Region.ready md ops listed
 |[],m,h,_,x,hx=>by simp only[List.mem_singleton]at hx;subst hx;exact vr h hi
 |q::r,m,h,E,x,hx=>by
  simp only[pT,Bool.and_eq_true]at h;rcases List.mem_cons.1 hx with rfl|hx
  ·exact vr h.1 (E q (by simp))
  ·exact tD hi r q h.2 (λp G=>E p (by simp[G])) x hx
section
variable{P:Program}{ops:Array Oper}{Q:Exit→Act→World→Prop}{md:Region.Mode}{S:World→Prop}
theorem wu {m:Nat} {i:Nat} {qs:List Nat} {oi:Oper} {v:Value} (him:i≠m) (hch:pT md ops m qs i=true) (hi:ops[i]?=some oi) (hsel:∀(j:Nat) (o:Oper) cs b,ops[j]?=some o→o.op≠.select cs b)
    (hQ:∀c a w,Q (.panic c) (a.put oi.dst v) w→Q (.panic c) a w):
    ∀ (fuel:Nat) (listed:Array Bool) (a:Act) (w:World),
      (∀j oj,ops[j]?=some oj→j≠i→listed.getD j true=false→(∀e∈oj.after,Region.binds md e=true→e.on≠i)→oi.apart ops oj=true)→(∀q∈qs,listed.getD q true=false)→
      i∈Region.ready md ops listed→YieldsIf P ops S oi v a→S w→listed.getD m false=false→
      wpAnyL P md ops Q S m fuel (listed.setIfInBounds i true) (a.put oi.dst v) w→wpAnyL P md ops Q S m (fuel+1) listed a w:=by
  intro fuel
  induction fuel with
  | zero=>
    intro listed a w _ _ hr hy hS _ H;refine⟨λh=>(by rw[h]at hr;cases hr),λj hj=>?_⟩;by_cases hji:j=i
    ·subst hji;exact hy.wpOp hi hS ⟨.inl hS,H⟩
    · have :=ready_mono hj hji;rw[H.1]at this;cases this
  | succ fuel ih=>
    intro listed a w hfree hqs hr hy hS hlm H;refine⟨λh=>(by rw[h]at hr;cases hr),λj hj=>?_⟩;by_cases hji:j=i
    ·subst hji;exact hy.wpOp hi hS ⟨.inl hS,H⟩
    · have h1:=H.2 j (ready_mono hj hji);obtain⟨hjun,oj,hoj,hall⟩:=mem_ready.1 hj;have hnot:=me (j:=j) hr hall;have hcn:=tD (mem_ready.1 hr).1 qs m hch hqs;have hjm:j≠m:=λe=>hcn m (by simp) (e▸hj);have hjq:∀q∈qs,j≠q:=λq hq e=>hcn q (by simp[hq]) (e▸hj);have h2:=wpOp_putIf hoj (hfree j oj hoj hji hjun hnot) (λcs b=>hsel i oi cs b hi) (λcs b=>hsel j oj cs b hoj) hQ hy h1;have hfree':∀k ok,ops[k]?=some ok→k≠i→(listed.setIfInBounds j true).getD k true=false→
          (∀e∈ok.after,Region.binds md e=true→e.on≠i)→oi.apart ops ok=true:=λk ok hk hki hun hno=>by
        refine hfree k ok hk hki ?_ hno;by_cases hjk:j=k
        ·subst hjk;exact hjun
        ·rw[getD_set_ne true hjk]at hun;exact hun
      refine wpOp_mono (λa' w' h3=>?_) h2;have hlm':(listed.setIfInBounds j true).getD m false=false:=by rw[getD_set_ne false hjm];exact hlm
      have hqs':∀q∈qs,(listed.setIfInBounds j true).getD q true=false:=λq hq=>by rw[getD_set_ne true (hjq q hq)];exact hqs q hq
      have hS':S w':=by
        rcases h3.2.1 with h|h
        ·exact h
        · rw[Array.setIfInBounds_comm _ _ (λe=>hji e.symm),getD_set_ne false him,hlm']at h;cases h
      refine⟨.inl hS',ih (listed.setIfInBounds j true) a' w' hfree' hqs' (ready_mono hr (Ne.symm hji)) h3.1 hS' hlm' ?_⟩;rw[Array.setIfInBounds_comm _ _ hji];exact h3.2.2
theorem dLc{a:Act}{w:World}{n:Nat}{f:Nat→Option Value}{d:Option Tmp}{op:Op}{ty:TypeId}{ps:String}{af:Array Edge}{g:Option (Nat×Bool)}{v:Value}{fuel:Nat}(i:Nat)(qs:List Nat)(E:Nat.beq i m=false)(hi:ops[i]?=some ⟨d,op,ty,ps,af,g⟩)(J:Region.noSelect ops=true)(hf:(pT .any ops m qs i&&qs.all (λq=>!listed.getD q true)&&!listed.getD m false&&Region.free .any ops listed i&&(Region.ready .any ops listed).contains i)=true)
  (h:Fr a n f) (G:(dn f ops g&&dg d n)=true) (O:S w) (U:∀w',S w'→Runs P a ty op w' (.value v) w')
  (k:∀a',Fr a' n (upo f d v)→wpAnyL P .any ops (NoPanic Q) S m fuel (listed.setIfInBounds i true) a' w):wpAnyL P .any ops (NoPanic Q) S m (fuel+1) listed a w:=by
 simp only[Bool.and_eq_true,Bool.not_eq_true']at hf;obtain⟨⟨⟨⟨h1,h2⟩,Z⟩,h4⟩,h5⟩:=hf;exact wu (Nat.ne_of_beq_eq_false E) h1 hi (Region.noSelect_spec J) (λ_ _ _ h=>h.elim) fuel listed a w (Region.free_spec hi h4) (λq hq=>by simpa using List.all_eq_true.1 h2 q hq) (by simpa using h5)
  (.inl ⟨gq h (Bool.and_eq_true_iff.1 G).1,λw' hS'=>U w' hS' _ _ _ _⟩) O Z (k _ (h.puto (Bool.and_eq_true_iff.1 G).2 v))
end
theorem zC(t:Tree)(ih:∀(i:Nat) (u:Tree),t.kids[i]?=some u→uK u):uK t:=by
  obtain⟨k,s,ls,ks⟩:=t;intro w b pre c post ct lo hi Sf hbk hB hN hbo hhi hT hSf;simp only[NestC]at hN;obtain⟨B,n,g,cs,rfl,hn1,hn2,hlh,hg,hK⟩:=hN;simp only[TreeIs]at hT;obtain⟨A,m,B',n',rfl,hm1,hm2,hm3,hm4,hA,kcs,hKT,hKR⟩:=hT;simp only[Tree.kids]at ih;simp only[tbulk]at hbk;have hkl:=mf ks;have hll:=oI ls;have hbl:=hB.lt;refine rE 32 func60 rfl rfl rfl ?_;intro a hf;refine rG 60 hf rfl ?_;clear hf a;intro a hf;obtain⟨w1,bb,he,hbb,hx1,eb,lb⟩:=nS (P:=prog) (t:=TT) (x:=(.tmp 1)) hf rfl rfl w 0;refine rV hf rfl he ?_;clear he hf a;intro a hf;replace hB:=hB.c0 hx1;have hA1:=hA.keepB (w':=w1) (S':=Sf) (λ_ h _=>h) (λx _ hx=>hx1.block x hx nm0);refine rG 60 hf rfl ?_;clear hf a;intro a hf;refine rV hf rfl (ei hf rfl (by kernel_rfl) hbb rfl) ?_;clear hf a;intro a hf;obtain⟨A',m',w2,he,ha1,ha2,ha3,hx2⟩:=DE (P:=prog) (x:=.const (.slice none 0 0)) (y:=.tmp 7) (t:=29) (e:=9) (z:=.string ⟨#[]⟩) (by_:=16) hf rfl rfl hA1 (by omega) underlying29 (by kernel_rfl) rfl rfl 0;refine rV hf rfl he ?_;clear he hf a;intro a hf;replace hB:=hB.c0 hx2;replace hbb:=hbb.c0 hx2;refine rG 60 hf rfl ?_;clear hf a;intro a hf;obtain⟨w3,he,hB3,hx3⟩:=vS (P:=prog) (t:=29) (x:=.tmp 10) (y:=.tmp 8) hf rfl rfl (by kernel_rfl) rfl hB (by simp) 0;refine rS hf rfl he ?_;clear he hf a;intro a hf;rw[Bi]at hB3;have s1:=hx1.size;have s2:=hx2.size;have s3:=hx3.size;have hbb3:=hbb.chg hx3 (by simp;omega);have hA3:=ha3.keepB (w':=w3) (S':=λx=>w.heap.size≤x) (λx hx _=>by omega) (λx hx hlt=>hx3.block x hlt (by simp;omega));have hC:ChgP (λx=>x=b∨(lo≤x∧x<hi)) w w3:=((ChgP.of0 hx1 (X:=λx=>x=b∨(lo≤x∧x<hi))).trans (ChgP.of0 hx2 (X:=λ_=>False)) (λ_ h=>h.elim)).trans (ChgP.of hx3) (λx hx=>by simp at hx;exact .inl (.inl hx));have hin:∀x,lo≤x→x<hi→w3.heap[x]?=w.heap[x]?:=λx h1 h2=>by
    rw[hx3.block x (by omega) (by simp;omega),hx2.block x (by omega) nm0,hx1.block x (by omega) nm0]
  have hK3:NestK w3 (g+1) hi ks cs:=by
    by_cases hk0:ks=[]
    ·subst hk0;simpa only[NestK]using hK
    · obtain⟨_,h1,h2,_⟩:=hg hk0;exact hK.keep λx g1 g2=>hin x (by omega) g2
  have hG3:ks≠[]→Blk w3 g TT ([]++cs)∧g+1≤g+1∧g+1≤hi:=λh=>by
    obtain⟨_,h1,h2,h3⟩:=hg h;exact⟨my (hin g h1 h2) h3,Nat.le_refl _,h2⟩
  have hbw:w.heap.size≤bb:=by omega
  clear hx1 hx2 hx3 hB hbb hA1 hA hK ha3 hin;refine rG 60 hf rfl ?_;clear hf a;intro a hf;refine rV hf rfl (ei hf rfl (by kernel_rfl) hB3 (rQ _ _ _ _ _ _)) ?_;clear hf a;intro a hf;refine rV hf rfl (ku hf underlying25 rfl) ?_;clear hf a;intro a hf;refine rG 60 hf rfl ?_;clear hf a;intro a hf;refine rL (λmm a w'=>∃(i:Nat) (done rest:List Value) (mi:Nat),mm=ks.length-i∧i≤ks.length∧Fr a 32 (fm [(0,.pointer (some ⟨b,pre.length,none⟩)),(3,.pointer (some ⟨bb,0,none⟩)),(15,.int .i64 (ks.length:Nat)),(16,.int .i64 (i:Nat))])∧
      ChgP (λx=>x=b∨(lo≤x∧x<hi)) w w'∧Blk w' b TT (pre++[.int .i64 k,aE s,.slice A' ls.length m',.slice B ks.length n]++post)∧Blk w' bb TT [.int .i64 k,aE s,.slice A ls.length m,.slice B' ks.length n']∧
      RowIn (λx=>w.heap.size≤x) w' 1 A' ls.length (ls.map aE)∧(ks≠[]→Blk w' g TT (done++rest)∧g+1≤mi∧mi≤hi)∧NestE w' w.heap.size (g+1) mi (ks.take i) done∧NestK w' mi hi (ks.drop i) rest) ks.length
    ⟨0,[],cs,g+1,rfl,Nat.zero_le _,hf.pick ⟨rfl,rfl,rfl,rfl,trivial⟩,hC,hB3,hbb3,hA3,hG3,by simp[NestE],by simpa using hK3⟩ ?_
  clear hf a hC hB3 hbb3 hA3 hG3 hK3 s1 s2 s3;rintro _ a w4 ⟨i,done,rest,mi,rfl,hi1,hf,hC,hB,hbb,hA,hG,hKA,hNK⟩;by_cases hlt:i<ks.length
  · skip
    have hne:ks≠[]:=λh=>by subst h;simp at hlt
    obtain⟨rfl,hg1,hg2,_⟩:=hg hne;obtain⟨hG,hgm,hmh⟩:=hG hne;obtain⟨kb,ko,rfl,hkS,hkb,hcell⟩:=hKR.2 (by omega);obtain⟨d0,d1,d2,d3,hT,hK⟩:=AJ hKT hlt;have hdl:=hKA.length;rw[List.length_take,Nat.min_eq_left hi1]at hdl;rw[List.drop_eq_getElem_cons hlt]at hNK;simp only[NestK]at hNK;obtain⟨c,d,mid,rfl,hm5,hm6,hNc,hNk⟩:=hNK;rw[←List.append_assoc]at hG;have htb:=vv hlt;have sC:=hC.size;have out:∀x,Sf x→x<w.heap.size→w4.heap[x]?=w.heap[x]?:=λx h1 h2=>hC.block x h2 (λh=>by have :=hSf x h1;omega);replace hT:=hT.keepB (S':=λx=>Sf x∧x<w.heap.size) (w':=w4) (λx h1 h2=>⟨h1,h2⟩) out;have hK4:∀j,j<4→w4.cell? ⟨kb,ko+i*4+j,none⟩=([d0,d1,d2,d3]:List Value)[j]?:=λj hj=>by
      rw[World.cell?_of_block (a:=⟨kb,ko+i*4+j,none⟩) (out kb hkS hkb),Nat.add_assoc,hcell _ (by omega)];exact hK j hj
    refine rG 60 hf rfl ?_;clear hf a;intro a hf;refine rV hf rfl (lX (c:=true) hf rfl rfl (by simp;omega)) ?_;clear hf a;intro a hf;refine rG 60 hf rfl ?_;clear hf a;intro a hf;refine rD (λx=>Blk x b TT (pre++[.int .i64 k,aE s,.slice A' ls.length m',.slice (some ⟨g,0,none⟩) ks.length n]++post)∧Blk x bb TT [.int .i64 k,aE s,.slice A ls.length m,.slice (some ⟨kb,ko,none⟩) ks.length n']∧∀j,j<4→x.cell? ⟨kb,ko+i*4+j,none⟩=([d0,d1,d2,d3]:List Value)[j]?) 11 12 rfl (by kernel_rfl) (by kernel_rfl) ?_;intro w5 hx5 hsel;have e5:∀x,x<w4.heap.size→w5.heap[x]?=w4.heap[x]?:=λx hx=>hx5.block x hx nm0;have s5:=hx5.size;have hlb:=hB.lt;have hlbb:=hbb.lt;have hlg:=hG.lt;replace hB:=hB.c0 hx5;replace hbb:=hbb.c0 hx5;replace hG:=hG.c0 hx5;replace hT:=hT.keepB (S':=λx=>Sf x∧x<w.heap.size) (w':=w5) (λx h1 h2=>h1) (λx _ hx=>e5 x hx);replace hNc:=hNc.keep (w':=w5) (λx _ hx=>e5 x (by omega));replace hNk:=hNk.keep (w':=w5) (λx _ hx=>e5 x (by omega));replace hA:=hA.keepB (w':=w5) (S':=λx=>w.heap.size≤x) (λx h1 h2=>h1) (λx _ hx=>e5 x hx);replace hKA:=hKA.keep (w':=w5) (Nat.le_refl _) (λx hx _=>e5 x hx);replace hK4:∀j,j<4→w5.cell? ⟨kb,ko+i*4+j,none⟩=([d0,d1,d2,d3]:List Value)[j]?:=λj hj=>by
      rw[World.cell?_of_block (a:=⟨kb,ko+i*4+j,none⟩) (e5 kb (by show kb<w4.heap.size;omega))];exact hK4 j hj
    have hS:=And.intro hB (And.intro hbb hK4);replace hC:ChgP (λx=>x=b∨(lo≤x∧x<hi)) w w5:=hC.trans (ChgP.of0 hx5 (X:=λ_=>False)) (λ_ h=>h.elim);clear e5 hx5;refine dG [0,1,2] hsel (by kernel_rfl) hf rfl rfl (.inl hS) ?_;clear hf a;intro a hf;refine dLc 3 [5] rfl rfl hsel (by kernel_rfl) hf rfl hS (λx hS=>ei hf rfl (by kernel_rfl) hS.1 (rQ _ _ _ _ _ _)) ?_;clear hf a;intro a hf;refine dG [4] hsel (by kernel_rfl) hf rfl rfl (.inl hS) ?_;clear hf a;intro a hf;refine dV 5 rfl rfl hsel (by kernel_rfl) hf rfl (.inl hS) (λx=>iQ (sz:=4) (k:=i) (r:=done.length) hf underlying25 (by kernel_rfl) rfl rfl rfl hlt (by omega)) ?_;clear hf a;intro a hf;refine dG [6] hsel (by kernel_rfl) hf rfl rfl (.inl hS) ?_;clear hf a;intro a hf;refine dLc 7 [10,9] rfl rfl hsel (by kernel_rfl) hf rfl hS (λx hS=>ei hf rfl (by kernel_rfl) hS.2.1 rfl) ?_;clear hf a;intro a hf;refine dG [8] hsel (by kernel_rfl) hf rfl rfl (.inl hS) ?_;clear hf a;intro a hf;refine dV 9 rfl rfl hsel (by kernel_rfl) hf rfl (.inl hS) (λx=>iQ (sz:=4) (k:=i) (r:=ko+i*4) hf underlying25 (by kernel_rfl) rfl rfl rfl hlt rfl) ?_;clear hf a;intro a hf;refine dLc 10 [] rfl rfl hsel (by kernel_rfl) hf rfl hS (λx hS=>ex_loadN (cs:=[d0,d1,d2,d3]) (m:=4) hf rfl (by kernel_rfl) rfl hS.2.2) ?_;clear hf a;intro a hf;refine EY 11 (by kernel_rfl) rfl hf rfl rfl rfl (by kernel_rfl) (ih i ks[i] (List.getElem?_eq_getElem hlt) w5 g done c d [d0,d1,d2,d3] mi mid (λx=>Sf x∧x<w.heap.size) (by omega) hG hNc (by omega) (by omega) hT (λx h=>by have :=hSf x h.1;omega)) ?_;rintro _ w6 ⟨rfl,c',hG',hx6,hT'⟩;refine⟨_,rfl,?_⟩;clear hf a;intro a hf;refine⟨.inr (by rfl),?_⟩;refine rN (by kernel_rfl) ?_;have e6:∀x,x<w5.heap.size→x≠g→¬(mi≤x∧x<mid)→w6.heap[x]?=w5.heap[x]?:=λx hx h1 h2=>hx6.block x hx (by omega);have s6:=hx6.size;replace hC:ChgP (λx=>x=b∨(lo≤x∧x<hi)) w w6:=hC.trans hx6 (λx h=>by left;right;omega);replace hB:=my (e6 b (by omega) (by omega) (by omega)) hB;replace hbb:=my (e6 bb (by omega) (by omega) (by omega)) hbb;replace hA:=hA.keepB (w':=w6) (S':=λx=>w.heap.size≤x) (λx h1 h2=>h1) (λx h1 hx=>e6 x hx (by omega) (by omega));replace hKA:=hKA.keep (w':=w6) (Nat.le_refl _) (λx hx h1=>e6 x hx (by omega) (by omega));replace hNk:=hNk.keep (w':=w6) (λx h1 h2=>e6 x (by omega) (by omega) (by omega));replace hT':=hT'.keep (H':=w.heap.size) (w':=w6) (by omega) (λ_ _ _=>rfl);refine rG 60 hf rfl ?_;clear hf a;intro a hf;refine rV hf rfl (tj (r:=((i+1:Nat):Int)) hf rfl rfl (by simp) (by omega)) ?_;clear hf a;intro a hf;refine rG 60 hf rfl ?_;clear hf a;intro a hf;refine rX ?_;refine⟨ks.length-(i+1),by omega,i+1,done++c',d,mid,rfl,hlt,hf.pick ⟨rfl,rfl,rfl,rfl,trivial⟩,hC,hB,hbb,hA,λ_=>⟨hG',by omega,by omega⟩,?_,hNk⟩;rw[List.take_succ_eq_append_getElem hlt];exact hKA.snoc hT' (by omega) (by omega)
  have hi':i=ks.length:=by omega
  subst hi';rw[List.take_length]at hKA;rw[List.drop_length]at hNK;simp only[NestK]at hNK;subst hNK;refine rG 60 hf rfl ?_;clear hf a;intro a hf;refine rV hf rfl (lX (c:=false) hf rfl rfl (by simp)) ?_;clear hf a;intro a hf;refine rG 60 hf rfl ?_;clear hf a;intro a hf;refine rO ?_;refine rG 60 hf rfl ?_;clear hf a;intro a hf;refine rF (rs:=[]) (vs:=[]) hf rfl rfl ⟨rfl,_,hB,hC,?_⟩;by_cases hk0:ks=[]
  · subst hk0;simp only[NestE]at hKA;subst hKA;simp only[NestD];exact⟨A',m',B,n,0,[],rfl,ha1,ha2,hn1,hn2,hlh,hA,λh=>absurd rfl h,by simp only[NestE]⟩
  · obtain⟨rfl,hg1,hg2,_⟩:=hg hk0;obtain⟨hG,hgm,hmh⟩:=hG hk0;simp only[NestD];exact⟨A',m',_,n,g,done,rfl,ha1,ha2,hn1,hn2,hlh,hA,λ_=>⟨rfl,hg1,hg2,by simpa using hG⟩,hKA.hi_ hmh⟩
theorem BM:∀t,uK t:=cn zC
theorem pI(t:Tree)(w:World)(S:Nat→Prop)(ct:List Value)(hbk:tbulk t≤1000000000)(G:TreeIs S w t ct):
    Calls prog 35 #[.agg ct.toArray] w λe w'=>∃c,e=.returned (.agg c.toArray)∧Chg [] w w'∧∃H lo hi,NestD w' H lo hi t c∧w.heap.size≤lo∧hi≤H∧w.heap.size≤H∧H≤w'.heap.size:=by
  have h4:=G.four
  match ct,h4,G with
  |[c0,c1,c2,c3],_,G=>
  have on_T:=G.one;replace G:=G.keepB (S':=λx=>x<w.heap.size) (w':=w) (λx _ hx=>hx) (λ_ _ _=>rfl);refine rE 9 func35 rfl rfl rfl ?_;intro a hf;refine rG 60 hf rfl λa hf=>?_;obtain⟨w1,b1,he,q,hx1,e1,l1⟩:=nS (P:=prog) (t:=TT) (x:=(.tmp 0)) hf rfl rfl w 0;refine rV hf rfl he λa hf=>?_;replace G:=G.keepB (S':=λx=>x<w.heap.size) (w':=w1) (λx hx _=>hx) (λx _ hx=>hx1.block x hx nm0);obtain⟨w2,b2,he,E,hx2,e2,l2⟩:=eT a w1 0;refine rV hf rfl he λa hf=>?_;replace q:=q.c0 hx2;replace G:=G.keepB (S':=λx=>x<w.heap.size) (w':=w2) (λx hx _=>hx) (λx _ hx=>hx2.block x hx nm0);refine rG 60 hf rfl λa hf=>rV hf rfl (eP (m:=4) hf rfl (by kernel_rfl) q rfl) λa hf=>rC hf rfl rfl (by kernel_rfl) (BQ t w2 _ _ hbk G) ?_;rintro _ w3 ⟨c,rfl,U,hN⟩;refine⟨_,rfl,λa hf=>?_⟩;replace q:=q.c0 U;replace E:=E.c0 U;replace G:=G.keepB (S':=λx=>x<w.heap.size) (w':=w3) (λx hx _=>hx) (λx _ hx=>U.block x hx nm0);obtain⟨w4,b4,he,hB4,J,e4,l4⟩:=eT a w3 0;refine rV hf rfl he λa hf=>?_;replace q:=q.c0 J;replace E:=E.c0 J;replace G:=G.keepB (S':=λx=>x<w.heap.size) (w':=w4) (λx hx _=>hx) (λx _ hx=>J.block x hx nm0);replace hN:=hN.keep (w':=w4) (λx _ hx=>J.block x hx nm0);obtain⟨w5,he,hB5,O⟩:=eN (.tmp 3) (.tmp 5) hf rfl rfl hN.four hN.one hB4 rfl 0;refine rS hf rfl he λa hf=>?_;have s1:=hx1.size;have s2:=hx2.size;have s3:=U.size;have s4:=J.size;have s5:=O.size;replace q:=q.chg O (by simp;omega);replace E:=E.chg O (by simp;omega);replace G:=G.keepB (S':=λx=>x<w.heap.size) (w':=w5) (λx hx _=>hx) (λx h1 hx=>O.block x hx (by simp;omega));replace hN:=hN.keep (w':=w5) (λx _ hx=>O.block x (by omega) (by simp;omega));have hC:Chg [] w w5:=(((hx1.t0 hx2).t0 U).t0 J).n1 O (by omega);clear hx1 hx2 U J O hB4;refine rG 60 hf rfl λa hf=>rV hf rfl (eP (m:=4) hf rfl (by kernel_rfl) q rfl) λa hf=>rC hf rfl rfl (by kernel_rfl) (BM t w5 b4 [] c [] [c0,c1,c2,c3] w2.heap.size w3.heap.size (λx=>x<w.heap.size) hbk (by simpa using hB5) hN (by omega) (by omega) G (λx hx=>by omega)) ?_;rintro _ w6 ⟨rfl,c',hB6,Z,hT'⟩;refine⟨_,rfl,λa hf=>?_⟩;have s6:=Z.size;replace E:=my (Z.block b2 (by omega) (by omega)) E;have hC6:Chg [] w w6:=⟨Z.os.trans hC.os,Z.tape.trans hC.tape,Z.output.trans hC.output,nlt hC.size s6,λx hx h0=>by rw[Z.block x (by omega) (by omega),hC.block x hx h0]⟩;rw[List.nil_append,List.append_nil]at hB6;have h4':=hT'.four;have on':=hT'.one;refine rG 60 hf rfl λa hf=>rV hf rfl (eP (m:=4) hf rfl (by kernel_rfl) hB6 h4') λa hf=>?_;obtain⟨w7,he,hB7,hx7⟩:=eN (.tmp 2) (.tmp 8) hf rfl rfl h4' on' E rfl 0;refine rS hf rfl he λa hf=>rG 60 hf rfl λa hf=>?_;exact rT (rs:=[.cell 2 TT]) hf rfl ⟨_,_,_,_,_,rfl,rfl,by kernel_rfl,hB7,h4',rfl⟩ ⟨_,rfl,hC6.n1 hx7 (by omega),w5.heap.size,w2.heap.size,w3.heap.size,hT'.keep (Nat.le_refl _) (λx hx h=>hx7.block x hx (by simp;omega)),by omega,by omega,by omega,by have :=hx7.size;omega⟩
theorem qP(t:Tree)(w:World)(S:Nat→Prop)(ct:List Value)(q:tbulk t≤1000000000)(E:TreeIs S w t ct):
 Calls prog 35 #[.agg ct.toArray] w λe w'=>∃c,e=.returned (.agg c.toArray)∧Chg [] w w'∧TreeIs (λx=>w.heap.size≤x) w' t c:=(pI t w S ct q E).mono λe w' ⟨c,G,J,H,lo,hi,O,h1,h2,U,_⟩=>⟨c,G,J,O.tree (λx hx=>by omega)⟩
open Go.RowKit Lx
theorem qmm{P:Program}{f:FuncId}{a:Array Value}{w:World}{v:Ending}{Q:Ending→World→Prop}(h:Calls P f a w λe w'=>e=v∧w=w')(k:Q v w):Calls P f a w Q:=h.mono λe w' z=>by obtain⟨rfl,rfl⟩:=z;exact k
variable{w':World}
theorem qEx{w:World}(h:Ext w w':=by repeat (first|exact Ext.refl _|apply Ext.alloc|(refine Ext.setCell ?_ (Nat.le_refl _) _))):Ext w w':=h
theorem aZ{a b:Bool}(h:a=b):Ending.returned (.bool a)=.returned (.bool b):=by rw[h]
theorem aY{k:IntKind}{a b:Int}(h:a=b):Ending.returned (.int k a)=.returned (.int k b):=by rw[h]
theorem oH(n m:Nat):((n:Int)==(m:Int))=(n==m):=by rw[Bool.eq_iff_iff];simp;omega
theorem cY(c:UInt8)(w:World):Calls prog 87 #[.int .u8 (c.toNat:Int)] w λe w'=>e=.returned (.bool (bJ c))∧w=w':=by
 go_enter func87,ntmps87
 go_wp2<;>(go_ret;go_light;refine⟨aZ ?_,rfl⟩;(first|rw[Bool.eq_iff_iff]|skip);simp_all[bJ]<;>omega)
theorem bz(c:UInt8)(w:World):Calls prog 123 #[.int .u8 (c.toNat:Int)] w λe w'=>e=.returned (.bool (bJ c))∧w=w':=by
 go_enter func123,ntmps123
 go_wp2<;>(go_ret;go_light;refine⟨aZ ?_,rfl⟩;(first|rw[Bool.eq_iff_iff]|skip);simp_all[bJ]<;>omega)
theorem cW(c:UInt8)(w:World):Calls prog 88 #[.int .u8 (c.toNat:Int)] w λe w'=>e=.returned (.bool (upperB c))∧w=w':=by
 go_enter func88,ntmps88
 go_wp2<;>(go_ret;go_light;refine⟨aZ ?_,rfl⟩;(first|rw[Bool.eq_iff_iff]|skip);simp_all[upperB]<;>omega)
theorem aK(c:UInt8)(w:World):Calls prog 124 #[.int .u8 (c.toNat:Int)] w λe w'=>e=.returned (.bool (upperB c))∧w=w':=by
 go_enter func124,ntmps124
 go_wp2<;>(go_ret;go_light;refine⟨aZ ?_,rfl⟩;(first|rw[Bool.eq_iff_iff]|skip);simp_all[upperB]<;>omega)
theorem cJ(c:UInt8)(w:World):Calls prog 63 #[.int .u8 (c.toNat:Int)] w λe w'=>e=.returned (.bool (be c))∧w=w':=by
 go_enter func63,ntmps63
 go_wp2<;>(go_ret;go_light;refine⟨aZ ?_,rfl⟩;(first|rw[Bool.eq_iff_iff]|skip);simp_all[be]<;>omega)
theorem bZ(c:UInt8)(w:World):Calls prog 122 #[.int .u8 (c.toNat:Int)] w λe w'=>e=.returned (.bool (be c))∧w=w':=by
 go_enter func122,ntmps122
 go_wp2<;>(go_ret;go_light;refine⟨aZ ?_,rfl⟩;(first|rw[Bool.eq_iff_iff]|skip);simp_all[be]<;>omega)
theorem Ft(c:UInt8)(w:World):Calls prog 36 #[.int .u8 (c.toNat:Int)] w λe w'=>e=.returned (.bool (bu c))∧w=w':=by
 go_enter func36,ntmps36
 go_wp2<;>(go_ret;go_light;refine⟨aZ ?_,rfl⟩;(first|rw[Bool.eq_iff_iff]|skip);simp_all[bu]<;>omega)
theorem gy(c:UInt8)(w:World):Calls prog 115 #[.int .u8 (c.toNat:Int)] w λe w'=>e=.returned (.bool (bu c))∧w=w':=by
 go_enter func115,ntmps115
 go_wp2<;>(go_ret;go_light;refine⟨aZ ?_,rfl⟩;(first|rw[Bool.eq_iff_iff]|skip);simp_all[bu]<;>omega)
theorem bn(c:UInt8)(w:World):Calls prog 121 #[.int .u8 (c.toNat:Int)] w λe w'=>e=.returned (.bool (cP c))∧w=w':=by
 go_enter func121,ntmps121
 go_wp2<;>(go_ret;go_light;refine⟨aZ ?_,rfl⟩;(first|rw[Bool.eq_iff_iff]|skip);simp_all[cP]<;>omega)
theorem aX(c:UInt8)(w:World):Calls prog 61 #[.int .u8 (c.toNat:Int)] w λe w'=>e=.returned (.bool (aS c))∧w=w':=by
 cases q:bJ c<;>cases h1:upperB c
 all_goals
  go_enter func61,ntmps61
  go_wp2_with (first|(go_at_call 87;refine qmm (cY _ _) ?_)|(go_at_call 88;refine qmm (cW _ _) ?_))
  all_goals (go_ret;go_light;refine⟨aZ ?_,rfl⟩;(first|(simp[aS,q,h1];done)|with_reducible exact oH _ _|((first|rw[Bool.eq_iff_iff]|skip);simp_all[aS]<;>omega)))
theorem ca(c:UInt8)(w:World):Calls prog 37 #[.int .u8 (c.toNat:Int)] w λe w'=>e=.returned (.bool (aI c))∧w=w':=by
 cases q:bu c
 all_goals
  go_enter func37,ntmps37
  go_wp2_with (first|(go_at_call 36;refine qmm (Ft _ _) ?_))
  all_goals (go_ret;go_light;refine⟨aZ ?_,rfl⟩;(first|(simp[aI,cP,bu,q];done)|with_reducible exact oH _ _|((first|rw[Bool.eq_iff_iff]|skip);simp_all[aI,cP,bu]<;>omega)))
theorem aL(c:UInt8)(w:World):Calls prog 120 #[.int .u8 (c.toNat:Int)] w λe w'=>e=.returned (.bool (aI c))∧w=w':=by
 cases q:bu c<;>cases h1:cP c
 all_goals
  go_enter func120,ntmps120
  go_wp2_with (first|(go_at_call 115;refine qmm (gy _ _) ?_)|(go_at_call 121;refine qmm (bn _ _) ?_))
  all_goals (go_ret;go_light;refine⟨aZ ?_,rfl⟩;(first|(simp[aI,q,h1];done)|with_reducible exact oH _ _|((first|rw[Bool.eq_iff_iff]|skip);simp_all[aI]<;>omega)))
theorem mw(c:UInt8)(w:World):Calls prog 129 #[.int .u8 (c.toNat:Int)] w λe w'=>e=.returned (.bool (aQ c))∧w=w':=by
 cases q:bJ c<;>cases h1:upperB c<;>cases h2:be c
 all_goals
  go_enter func129,ntmps129
  go_wp2_with (first|(go_at_call 123;refine qmm (bz _ _) ?_)|(go_at_call 124;refine qmm (aK _ _) ?_)|(go_at_call 122;refine qmm (bZ _ _) ?_))
  all_goals (go_ret;go_light;refine⟨aZ ?_,rfl⟩;(first|(simp[aQ,aS,q,h1,h2];done)|with_reducible exact oH _ _|((first|rw[Bool.eq_iff_iff]|skip);simp_all[aQ,aS]<;>omega)))
theorem yk(w:World):Calls prog 90 #[.string ⟨([109,111,100,117,108,101]:List UInt8).toArray⟩] w λe w'=>e=.returned (.bool true)∧w=w':=by
 go_enter func90,ntmps90
 go_wp2
 go_ret
 exact⟨rfl,rfl⟩
theorem yA(w:World):Calls prog 90 #[.string ⟨([100,101,102]:List UInt8).toArray⟩] w λe w'=>e=.returned (.bool true)∧w=w':=by
 go_enter func90,ntmps90
 go_wp2
 go_ret
 exact⟨rfl,rfl⟩
theorem ze(w:World):Calls prog 90 #[.string ⟨([116,121,112,101]:List UInt8).toArray⟩] w λe w'=>e=.returned (.bool true)∧w=w':=by
 go_enter func90,ntmps90
 go_wp2
 go_ret
 exact⟨rfl,rfl⟩
theorem yy(w:World):Calls prog 90 #[.string ⟨([108,101,116]:List UInt8).toArray⟩] w λe w'=>e=.returned (.bool true)∧w=w':=by
 go_enter func90,ntmps90
 go_wp2
 go_ret
 exact⟨rfl,rfl⟩
theorem yH(w:World):Calls prog 90 #[.string ⟨([105,110]:List UInt8).toArray⟩] w λe w'=>e=.returned (.bool true)∧w=w':=by
 go_enter func90,ntmps90
 go_wp2
 go_ret
 exact⟨rfl,rfl⟩
theorem yD(w:World):Calls prog 90 #[.string ⟨([105,102]:List UInt8).toArray⟩] w λe w'=>e=.returned (.bool true)∧w=w':=by
 go_enter func90,ntmps90
 go_wp2
 go_ret
 exact⟨rfl,rfl⟩
theorem yx(w:World):Calls prog 90 #[.string ⟨([116,104,101,110]:List UInt8).toArray⟩] w λe w'=>e=.returned (.bool true)∧w=w':=by
 go_enter func90,ntmps90
 go_wp2
 go_ret
 exact⟨rfl,rfl⟩
theorem zd(w:World):Calls prog 90 #[.string ⟨([101,108,115,101]:List UInt8).toArray⟩] w λe w'=>e=.returned (.bool true)∧w=w':=by
 go_enter func90,ntmps90
 go_wp2
 go_ret
 exact⟨rfl,rfl⟩
theorem yB(w:World):Calls prog 90 #[.string ⟨([116,114,117,101]:List UInt8).toArray⟩] w λe w'=>e=.returned (.bool true)∧w=w':=by
 go_enter func90,ntmps90
 go_wp2
 go_ret
 exact⟨rfl,rfl⟩
theorem zg(w:World):Calls prog 90 #[.string ⟨([102,97,108,115,101]:List UInt8).toArray⟩] w λe w'=>e=.returned (.bool true)∧w=w':=by
 go_enter func90,ntmps90
 go_wp2
 go_ret
 exact⟨rfl,rfl⟩
theorem wU(w:World):Calls prog 90 #[.string ⟨([73,110,116]:List UInt8).toArray⟩] w λe w'=>e=.returned (.bool true)∧w=w':=by
 go_enter func90,ntmps90
 go_wp2
 go_ret
 exact⟨rfl,rfl⟩
theorem wK(w:World):Calls prog 90 #[.string ⟨([84,101,120,116]:List UInt8).toArray⟩] w λe w'=>e=.returned (.bool true)∧w=w':=by
 go_enter func90,ntmps90
 go_wp2
 go_ret
 exact⟨rfl,rfl⟩
theorem wD(w:World):Calls prog 90 #[.string ⟨([66,111,111,108]:List UInt8).toArray⟩] w λe w'=>e=.returned (.bool true)∧w=w':=by
 go_enter func90,ntmps90
 go_wp2
 go_ret
 exact⟨rfl,rfl⟩
theorem wF(l:List UInt8)(w:World)(J:(l==[109,111,100,117,108,101])=false)(O:(l==[100,101,102])=false)(U:(l==[116,121,112,101])=false)(Z:(l==[108,101,116])=false)(b4:(l==[105,110])=false)(b5:(l==[105,102])=false)(b6:(l==[116,104,101,110])=false)(b7:(l==[101,108,115,101])=false)(b8:(l==[116,114,117,101])=false)(b9:(l==[102,97,108,115,101])=false)(q:(l==[73,110,116])=false)(E:(l==[84,101,120,116])=false)(G:(l==[66,111,111,108])=false):Calls prog 90 #[.string ⟨l.toArray⟩] w λe w'=>e=.returned (.bool false)∧w=w':=by
 go_enter func90,ntmps90
 go_wp2
 go_ret
 exact⟨rfl,rfl⟩
theorem bC(l:List UInt8)(w:World):Calls prog 90 #[.string ⟨l.toArray⟩] w λe w'=>e=.returned (.bool (hZ l))∧w=w':=by
 by_cases J:l=[109,111,100,117,108,101]
 ·subst J;exact yk w
 by_cases h1:l=[100,101,102]
 ·subst h1;exact yA w
 by_cases h2:l=[116,121,112,101]
 ·subst h2;exact ze w
 by_cases O:l=[108,101,116]
 ·subst O;exact yy w
 by_cases U:l=[105,110]
 ·subst U;exact yH w
 by_cases Z:l=[105,102]
 ·subst Z;exact yD w
 by_cases h6:l=[116,104,101,110]
 ·subst h6;exact yx w
 by_cases h7:l=[101,108,115,101]
 ·subst h7;exact zd w
 by_cases h8:l=[116,114,117,101]
 ·subst h8;exact yB w
 by_cases h9:l=[102,97,108,115,101]
 ·subst h9;exact zg w
 by_cases q:l=[73,110,116]
 ·subst q;exact wU w
 by_cases E:l=[84,101,120,116]
 ·subst E;exact wK w
 by_cases G:l=[66,111,111,108]
 ·subst G;exact wD w
 have hr:hZ l=false:=by simp[hZ,yi,J,h1,h2,O,U,Z,h6,h7,h8,h9,q,E,G]
 rw[hr];exact wF l w (by simpa using J) (by simpa using h1) (by simpa using h2) (by simpa using O) (by simpa using U) (by simpa using Z) (by simpa using h6) (by simpa using h7) (by simpa using h8) (by simpa using h9) (by simpa using q) (by simpa using E) (by simpa using G)
theorem yP(w:World):Calls prog 128 #[.string ⟨([109,111,100,117,108,101]:List UInt8).toArray⟩] w λe w'=>e=.returned (.bool true)∧w=w':=by
 go_enter func128,ntmps128
 go_wp2
 go_ret
 exact⟨rfl,rfl⟩
theorem zr(w:World):Calls prog 128 #[.string ⟨([100,101,102]:List UInt8).toArray⟩] w λe w'=>e=.returned (.bool true)∧w=w':=by
 go_enter func128,ntmps128
 go_wp2
 go_ret
 exact⟨rfl,rfl⟩
theorem yr(w:World):Calls prog 128 #[.string ⟨([116,121,112,101]:List UInt8).toArray⟩] w λe w'=>e=.returned (.bool true)∧w=w':=by
 go_enter func128,ntmps128
 go_wp2
 go_ret
 exact⟨rfl,rfl⟩
theorem yw(w:World):Calls prog 128 #[.string ⟨([108,101,116]:List UInt8).toArray⟩] w λe w'=>e=.returned (.bool true)∧w=w':=by
 go_enter func128,ntmps128
 go_wp2
 go_ret
 exact⟨rfl,rfl⟩
theorem zk(w:World):Calls prog 128 #[.string ⟨([105,110]:List UInt8).toArray⟩] w λe w'=>e=.returned (.bool true)∧w=w':=by
 go_enter func128,ntmps128
 go_wp2
 go_ret
 exact⟨rfl,rfl⟩
theorem yj(w:World):Calls prog 128 #[.string ⟨([105,102]:List UInt8).toArray⟩] w λe w'=>e=.returned (.bool true)∧w=w':=by
 go_enter func128,ntmps128
 go_wp2
 go_ret
 exact⟨rfl,rfl⟩
theorem yE(w:World):Calls prog 128 #[.string ⟨([116,104,101,110]:List UInt8).toArray⟩] w λe w'=>e=.returned (.bool true)∧w=w':=by
 go_enter func128,ntmps128
 go_wp2
 go_ret
 exact⟨rfl,rfl⟩
theorem zm(w:World):Calls prog 128 #[.string ⟨([101,108,115,101]:List UInt8).toArray⟩] w λe w'=>e=.returned (.bool true)∧w=w':=by
 go_enter func128,ntmps128
 go_wp2
 go_ret
 exact⟨rfl,rfl⟩
theorem ye(w:World):Calls prog 128 #[.string ⟨([116,114,117,101]:List UInt8).toArray⟩] w λe w'=>e=.returned (.bool true)∧w=w':=by
 go_enter func128,ntmps128
 go_wp2
 go_ret
 exact⟨rfl,rfl⟩
theorem yq(w:World):Calls prog 128 #[.string ⟨([102,97,108,115,101]:List UInt8).toArray⟩] w λe w'=>e=.returned (.bool true)∧w=w':=by
 go_enter func128,ntmps128
 go_wp2
 go_ret
 exact⟨rfl,rfl⟩
theorem wO(w:World):Calls prog 128 #[.string ⟨([73,110,116]:List UInt8).toArray⟩] w λe w'=>e=.returned (.bool true)∧w=w':=by
 go_enter func128,ntmps128
 go_wp2
 go_ret
 exact⟨rfl,rfl⟩
theorem wQ(w:World):Calls prog 128 #[.string ⟨([84,101,120,116]:List UInt8).toArray⟩] w λe w'=>e=.returned (.bool true)∧w=w':=by
 go_enter func128,ntmps128
 go_wp2
 go_ret
 exact⟨rfl,rfl⟩
theorem wL(w:World):Calls prog 128 #[.string ⟨([66,111,111,108]:List UInt8).toArray⟩] w λe w'=>e=.returned (.bool true)∧w=w':=by
 go_enter func128,ntmps128
 go_wp2
 go_ret
 exact⟨rfl,rfl⟩
theorem wJ(l:List UInt8)(w:World)(J:(l==[109,111,100,117,108,101])=false)(O:(l==[100,101,102])=false)(U:(l==[116,121,112,101])=false)(Z:(l==[108,101,116])=false)(b4:(l==[105,110])=false)(b5:(l==[105,102])=false)(b6:(l==[116,104,101,110])=false)(b7:(l==[101,108,115,101])=false)(b8:(l==[116,114,117,101])=false)(b9:(l==[102,97,108,115,101])=false)(q:(l==[73,110,116])=false)(E:(l==[84,101,120,116])=false)(G:(l==[66,111,111,108])=false):Calls prog 128 #[.string ⟨l.toArray⟩] w λe w'=>e=.returned (.bool false)∧w=w':=by
 go_enter func128,ntmps128
 go_wp2
 go_ret
 exact⟨rfl,rfl⟩
theorem cb(l:List UInt8)(w:World):Calls prog 128 #[.string ⟨l.toArray⟩] w λe w'=>e=.returned (.bool (hZ l))∧w=w':=by
 by_cases J:l=[109,111,100,117,108,101]
 ·subst J;exact yP w
 by_cases h1:l=[100,101,102]
 ·subst h1;exact zr w
 by_cases h2:l=[116,121,112,101]
 ·subst h2;exact yr w
 by_cases O:l=[108,101,116]
 ·subst O;exact yw w
 by_cases U:l=[105,110]
 ·subst U;exact zk w
 by_cases Z:l=[105,102]
 ·subst Z;exact yj w
 by_cases h6:l=[116,104,101,110]
 ·subst h6;exact yE w
 by_cases h7:l=[101,108,115,101]
 ·subst h7;exact zm w
 by_cases h8:l=[116,114,117,101]
 ·subst h8;exact ye w
 by_cases h9:l=[102,97,108,115,101]
 ·subst h9;exact yq w
 by_cases q:l=[73,110,116]
 ·subst q;exact wO w
 by_cases E:l=[84,101,120,116]
 ·subst E;exact wQ w
 by_cases G:l=[66,111,111,108]
 ·subst G;exact wL w
 have hr:hZ l=false:=by simp[hZ,yi,J,h1,h2,O,U,Z,h6,h7,h8,h9,q,E,G]
 rw[hr];exact wJ l w (by simpa using J) (by simpa using h1) (by simpa using h2) (by simpa using O) (by simpa using U) (by simpa using Z) (by simpa using h6) (by simpa using h7) (by simpa using h8) (by simpa using h9) (by simpa using q) (by simpa using E) (by simpa using G)
set_option maxHeartbeats 1000000 in
theorem Eo(s:ByteArray)(c:Int)(w:World):Calls prog 91 #[.string s,.int .u8 c] w λe w'=>e=.returned (.int .i64 (Lib.indexByte s.data.toList c.toNat.toUInt8))∧w=w':=by
 go_enter func91,ntmps91
 go_wp2
 rw[run_callFunc_extern func104 (by kernel_rfl) (by kernel_rfl) (by kernel_rfl) (e:=Extern.BytealgIndexByte.indexByte) (by kernel_rfl),Lib.run_indexByteString];simp only[Result.andThen];rw[Oper.upon_value]
 go_wp2
 go_ret
 exact⟨rfl,rfl⟩
theorem yY(s:ByteArray)(c:Int)(w:World):Calls prog 66 #[.string s,.int .u8 c] w λe w'=>e=.returned (.int .i64 (Lib.indexByte s.data.toList c.toNat.toUInt8))∧w=w':=by
 go_enter func66,ntmps66
 go_wp2_with (go_at_call 91;refine qmm (Eo _ _ _) ?_)
 go_ret
 exact⟨rfl,rfl⟩
set_option maxHeartbeats 400000 in
theorem dX(l:List UInt8)(w:World)(hl:l.length≤281474976710656):Calls prog 89 #[.string ⟨l.toArray⟩] w λe w'=>e=.returned (.int .i64 (spanN aQ l:Nat))∧w=w':=by
 go_enter func89,ntmps89
 go_wp2_with fail
 go_loop [3] (λn=>∃k:Nat,k≤l.length∧n=.int .i64 k∧Hid (spanN aQ l=k+spanN aQ (l.drop k))) (λn=>l.length-(intOf n).toNat)
 case atStart=>exact⟨0,by omega,rfl,Lib.hid (by simp)⟩
 case round=>
  obtain⟨k,hk,rfl,hrel⟩:=hrel;by_cases hlt:k<l.length
  ·obtain⟨c,hc⟩:∃c,({data:=l.toArray}:ByteArray)[k]'hlt=c:=⟨_,rfl⟩;have HC:=Lib.hid (show l[k]=c from hc)
   go_wp2_with (first|(go_at_call 61;refine qmm (aX _ _) ?_)|(go_at_call 63;refine qmm (cJ _ _) ?_))
   all_goals go_light
   ·go_round
    case rel=>exact⟨k+1,by omega,by go_num,Lib.hid (by rw[hrel.out,jc hlt HC.out (oK (.inl ‹_›))];omega)⟩
    case measure=>simp[intOf];omega
   ·go_round
    case rel=>exact⟨k+1,by omega,by go_num,Lib.hid (by rw[hrel.out,jc hlt HC.out (oK (.inr (.inl ‹_›)))];omega)⟩
    case measure=>simp[intOf];omega
   ·go_round
    case rel=>exact⟨k+1,by omega,by go_num,Lib.hid (by rw[hrel.out,jc hlt HC.out (oK (.inr (.inr ‹_›)))];omega)⟩
    case measure=>simp[intOf];omega
   ·go_ret
    exact⟨aY (by rw[hrel.out,mr hlt HC.out (wA ‹_› ‹_› ‹_›)];omega),rfl⟩
  ·go_wp2_with fail
   go_ret
   exact⟨aY (by rw[hrel.out,nB (by omega)];omega),rfl⟩
set_option maxHeartbeats 1000000 in
theorem gr(l:List UInt8)(w:World)(hl:l.length≤281474976710656):Calls prog 64 #[.string ⟨l.toArray⟩] w λe w'=>e=.returned (.tuple #[.int .i64 ((dl l).1:Nat),.int .i64 ((dl l).2:Nat)])∧w=w':=by
 go_enter func64,ntmps64
 go_wp2_with fail
 go_loop [4] (λn=>∃k:Nat,k≤l.length∧n=.int .i64 k∧Hid (spanN be l=k+spanN be (l.drop k))) (λn=>l.length-(intOf n).toNat)
 case atStart=>exact⟨0,by omega,rfl,Lib.hid (by simp)⟩
 case round=>
  obtain⟨k,hk,rfl,hrel⟩:=hrel;by_cases hlt:k<l.length
  ·obtain⟨c,hc⟩:∃c,({data:=l.toArray}:ByteArray)[k]'hlt=c:=⟨_,rfl⟩;have HC:=Lib.hid (show l[k]=c from hc);cases hd:be c
   ·have HN:=Lib.hid (show spanN be l=k from by rw[hrel.out,mr hlt HC.out hd];omega);have hk0:=hk;by_cases h1:1<k
    ·have h0:0<l.length:=by omega
     obtain⟨c0,hc0⟩:∃c,({data:=l.toArray}:ByteArray)[0]'h0=c:=⟨_,rfl⟩;have HC0:=Lib.hid (show l[0]=c0 from hc0);cases h48:((c0.toNat:Int)==48)
     ·have HG:=Lib.hid (show 1<k→¬(l.getD 0 0).toNat=48 from λ_=>by rw[az h0 HC0.out];exact bw (m:=48) h48);by_cases h15:15<k
      ·go_wp2_with (go_at_call 63;refine qmm (cJ _ _) ?_)
       go_ret2
       exact⟨by rw[kI HN.out HG.out h15];rfl,rfl⟩
      ·go_wp2_with (go_at_call 63;refine qmm (cJ _ _) ?_)
       go_ret2
       exact⟨by rw[fI HN.out HG.out h15];rfl,rfl⟩
     ·go_wp2_with (go_at_call 63;refine qmm (cJ _ _) ?_)
      go_ret2
      exact⟨by rw[kO HN.out h1 h0 HC0.out h48];rfl,rfl⟩
    ·go_wp2_with (go_at_call 63;refine qmm (cJ _ _) ?_)
     go_ret2
     exact⟨by rw[fI HN.out (λh=>absurd h h1) (by omega)];rfl,rfl⟩
   ·go_wp2_with (go_at_call 63;refine qmm (cJ _ _) ?_)
    go_light
    go_round
    case rel=>exact⟨k+1,by omega,by go_num,Lib.hid (by rw[hrel.out,jc hlt HC.out hd];omega)⟩
    case measure=>simp[intOf];omega
  ·have HN:=Lib.hid (show spanN be l=k from by rw[hrel.out,nB (by omega)];omega);have hk0:=hk;by_cases h1:1<k
   ·have h0:0<l.length:=by omega
    obtain⟨c0,hc0⟩:∃c,({data:=l.toArray}:ByteArray)[0]'h0=c:=⟨_,rfl⟩;have HC0:=Lib.hid (show l[0]=c0 from hc0);cases h48:((c0.toNat:Int)==48)
    ·have HG:=Lib.hid (show 1<k→¬(l.getD 0 0).toNat=48 from λ_=>by rw[az h0 HC0.out];exact bw (m:=48) h48);by_cases h15:15<k
     ·go_wp2_with (go_at_call 63;refine qmm (cJ _ _) ?_)
      go_ret2
      exact⟨by rw[kI HN.out HG.out h15];rfl,rfl⟩
     ·go_wp2_with (go_at_call 63;refine qmm (cJ _ _) ?_)
      go_ret2
      exact⟨by rw[fI HN.out HG.out h15];rfl,rfl⟩
    ·go_wp2_with (go_at_call 63;refine qmm (cJ _ _) ?_)
     go_ret2
     exact⟨by rw[kO HN.out h1 h0 HC0.out h48];rfl,rfl⟩
   ·go_wp2_with (go_at_call 63;refine qmm (cJ _ _) ?_)
    go_ret2
    exact⟨by rw[fI HN.out (λh=>absurd h h1) (by omega)];rfl,rfl⟩
set_option maxHeartbeats 1000000 in
theorem gP(l:List UInt8)(w:World)(h0:0<l.length)(hl:l.length≤281474976710656):Calls prog 65 #[.string ⟨l.toArray⟩] w λe w'=>e=.returned (.tuple #[.int .i64 ((quotedT l.tail 1).1:Nat),.int .i64 ((quotedT l.tail 1).2:Nat)])∧w=w':=by
 obtain⟨r,hr⟩:∃r,quotedT l.tail 1=r:=⟨_,rfl⟩;rw[hr];have HR:=Lib.hid hr;clear hr
 go_enter func65,ntmps65
 go_wp2_with fail
 go_loop [4,5] (λn c=>∃k:Nat,k≤l.length∧n=.int .i64 k∧Hid (r=quotedT (l.drop k) k)) (λn _=>l.length-(intOf n).toNat)
 case atStart=>exact⟨1,by omega,rfl,Lib.hid (by rw[←HR.out,List.drop_one])⟩
 case round=>
  obtain⟨k,hk,rfl,hrel⟩:=hrel;by_cases hlt:k<l.length
  ·obtain⟨c,hc⟩:∃c,({data:=l.toArray}:ByteArray)[k]'hlt=c:=⟨_,rfl⟩;have HC:=Lib.hid (show l[k]=c from hc);have HS:=Lib.hid (vg hlt HC.out);cases ha:aI c
   ·go_wp2_with (go_at_call 37;refine qmm (ca _ _) ?_)
    go_ret2
    exact⟨by rw[hrel.out,HS.out,if_pos ha];rfl,rfl⟩
   cases h34:((c.toNat:Int)==34)
   rotate_left
   ·go_wp2_with (go_at_call 37;refine qmm (ca _ _) ?_)
    go_ret2
    exact⟨by rw[hrel.out,HS.out,if_neg (by simp[ha]),if_pos (cp (m:=34) h34)];rfl,rfl⟩
   cases h92:((c.toNat:Int)==92)
   rotate_left
   ·go_wp2_with (go_at_call 37;refine qmm (ca _ _) ?_)
    go_ret2
    exact⟨by rw[hrel.out,HS.out,if_neg (by simp[ha]),if_neg (bw (m:=34) h34),if_pos (.inl (cp (m:=92) h92))];rfl,rfl⟩
   by_cases h32:(c.toNat:Int)<32
   ·go_wp2_with (go_at_call 37;refine qmm (ca _ _) ?_)
    go_ret2
    exact⟨by rw[hrel.out,HS.out,if_neg (by simp[ha]),if_neg (bw (m:=34) h34),if_pos (.inr (by omega))];rfl,rfl⟩
   ·go_wp2_with (go_at_call 37;refine qmm (ca _ _) ?_)
    go_light
    go_round
    case rel=>exact⟨k+1,by omega,by go_num,Lib.hid (by rw[hrel.out,HS.out,if_neg (by simp[ha]),if_neg (bw (m:=34) h34),if_neg (by have :=bw (m:=92) h92;omega)])⟩
    case measure=>simp[intOf];omega
  ·go_wp2_with (go_at_call 37;refine qmm (ca _ _) ?_)
   go_ret2
   exact⟨by rw[hrel.out,wT (by omega)];rfl,rfl⟩
set_option maxHeartbeats 4000000 in
theorem kG(l:List UInt8)(w:World)(h0:0<l.length)(hl:l.length≤281474976710656):Calls prog 62 #[.string ⟨l.toArray⟩] w λe w'=>e=.returned (.tuple #[.int .i64 ((bv l).1:Nat),.int .i64 ((bv l).2.1:Nat),.int .i64 ((bv l).2.2:Nat)])∧w=w':=by
 obtain⟨n,hn⟩:∃n,spanN aQ l=n:=⟨_,rfl⟩;have hnl:n≤l.length:=by have :=iN aQ l;omega
 have HN:=Lib.hid hn;clear hn;obtain⟨c0,U⟩:∃c,({data:=l.toArray}:ByteArray)[0]'h0=c:=⟨_,rfl⟩;have HC0:=Lib.hid (show l[0]=c0 from U);have hx:=rJ;have hx2:=mg
 go_enter func62,ntmps62
 go_wp2_with fail
 refine(dX _ _ hl).mono ?_;rintro e w' ⟨rfl,rfl⟩;rw[HN.out];cases hr:hZ (l.take n)
 rotate_left
 ·cases Z:upperB c0
  all_goals
   have HQ:=Lib.hid (gb HN.out (AX HN.out hr));by_cases q:24<n
   ·skip
    have HW:=Lib.hid (show bv l=(0,0,3)from by rw[HQ.out,bk,if_pos q])
    go_wp2_with (first|(go_at_call 89;refine qmm (dX _ _ (by simp;omega)) ?_)|(go_at_call 90;refine qmm (bC _ _) ?_)|(go_at_call 88;refine qmm (cW _ _) ?_)|(go_at_call 87;refine qmm (cY _ _) ?_)|(go_at_call 61;refine qmm (aX _ _) ?_))
    go_ret3
    exact⟨by rw[HW.out];rfl,rfl⟩
   ·skip
    have HW:=Lib.hid (show bv l=(7,n,0)from by rw[HQ.out,bk,if_neg q,if_pos hr])
    go_wp2_with (first|(go_at_call 89;refine qmm (dX _ _ (by simp;omega)) ?_)|(go_at_call 90;refine qmm (bC _ _) ?_)|(go_at_call 88;refine qmm (cW _ _) ?_)|(go_at_call 87;refine qmm (cY _ _) ?_)|(go_at_call 61;refine qmm (aX _ _) ?_))
    go_ret3
    exact⟨by rw[HW.out];rfl,rfl⟩
 cases Z:upperB c0
 ·skip
  have HQ:=Lib.hid (gb HN.out (zR h0 HC0.out Z));by_cases q:24<n
  ·skip
   have HW:=Lib.hid (show bv l=(0,0,3)from by rw[HQ.out,bk,if_pos q])
   go_wp2_with (first|(go_at_call 89;refine qmm (dX _ _ (by simp;omega)) ?_)|(go_at_call 90;refine qmm (bC _ _) ?_)|(go_at_call 88;refine qmm (cW _ _) ?_)|(go_at_call 87;refine qmm (cY _ _) ?_)|(go_at_call 61;refine qmm (aX _ _) ?_))
   go_ret3
   exact⟨by rw[HW.out];rfl,rfl⟩
  ·cases E:bJ c0
   ·skip
    have HW:=Lib.hid (show bv l=(2,n,0)from by rw[HQ.out,bk,if_neg q,if_neg (by simp[hr]),if_neg (by rw[az h0 HC0.out];simp[E])])
    go_wp2_with (first|(go_at_call 89;refine qmm (dX _ _ (by simp;omega)) ?_)|(go_at_call 90;refine qmm (bC _ _) ?_)|(go_at_call 88;refine qmm (cW _ _) ?_)|(go_at_call 87;refine qmm (cY _ _) ?_)|(go_at_call 61;refine qmm (aX _ _) ?_))
    go_ret3
    exact⟨by rw[HW.out];rfl,rfl⟩
   ·skip
    have HW:=Lib.hid (show bv l=(1,n,0)from by rw[HQ.out,bk,if_neg q,if_neg (by simp[hr]),if_pos (by rw[az h0 HC0.out];exact E)])
    go_wp2_with (first|(go_at_call 89;refine qmm (dX _ _ (by simp;omega)) ?_)|(go_at_call 90;refine qmm (bC _ _) ?_)|(go_at_call 88;refine qmm (cW _ _) ?_)|(go_at_call 87;refine qmm (cY _ _) ?_)|(go_at_call 61;refine qmm (aX _ _) ?_))
    go_ret3
    exact⟨by rw[HW.out];rfl,rfl⟩
 by_cases h2:n+1<l.length
 rotate_left
 ·have h2':¬((n:Int)+1<l.length):=by omega
  have HQ:=Lib.hid (gb HN.out (Ad HN.out h2));by_cases q:24<n
  ·skip
   have HW:=Lib.hid (show bv l=(0,0,3)from by rw[HQ.out,bk,if_pos q])
   go_wp2_with (first|(go_at_call 89;refine qmm (dX _ _ (by simp;omega)) ?_)|(go_at_call 90;refine qmm (bC _ _) ?_)|(go_at_call 88;refine qmm (cW _ _) ?_)|(go_at_call 87;refine qmm (cY _ _) ?_)|(go_at_call 61;refine qmm (aX _ _) ?_))
   go_ret3
   exact⟨by rw[HW.out];rfl,rfl⟩
  ·cases E:bJ c0
   ·skip
    have HW:=Lib.hid (show bv l=(2,n,0)from by rw[HQ.out,bk,if_neg q,if_neg (by simp[hr]),if_neg (by rw[az h0 HC0.out];simp[E])])
    go_wp2_with (first|(go_at_call 89;refine qmm (dX _ _ (by simp;omega)) ?_)|(go_at_call 90;refine qmm (bC _ _) ?_)|(go_at_call 88;refine qmm (cW _ _) ?_)|(go_at_call 87;refine qmm (cY _ _) ?_)|(go_at_call 61;refine qmm (aX _ _) ?_))
    go_ret3
    exact⟨by rw[HW.out];rfl,rfl⟩
   ·skip
    have HW:=Lib.hid (show bv l=(1,n,0)from by rw[HQ.out,bk,if_neg q,if_neg (by simp[hr]),if_pos (by rw[az h0 HC0.out];exact E)])
    go_wp2_with (first|(go_at_call 89;refine qmm (dX _ _ (by simp;omega)) ?_)|(go_at_call 90;refine qmm (bC _ _) ?_)|(go_at_call 88;refine qmm (cW _ _) ?_)|(go_at_call 87;refine qmm (cY _ _) ?_)|(go_at_call 61;refine qmm (aX _ _) ?_))
    go_ret3
    exact⟨by rw[HW.out];rfl,rfl⟩
 have hn1:n<l.length:=by omega
 obtain⟨c1,hc1⟩:∃c,({data:=l.toArray}:ByteArray)[n]'hn1=c:=⟨_,rfl⟩;have HC1:=Lib.hid (show l[n]=c1 from hc1);obtain⟨c2,hc2⟩:∃c,({data:=l.toArray}:ByteArray)[n+1]'h2=c:=⟨_,rfl⟩;have HC2:=Lib.hid (show l[n+1]=c2 from hc2);cases J:((c1.toNat:Int)==46)
 ·skip
  have HQ:=Lib.hid (gb HN.out (An HN.out hn1 HC1.out J));by_cases q:24<n
  ·skip
   have HW:=Lib.hid (show bv l=(0,0,3)from by rw[HQ.out,bk,if_pos q])
   go_wp2_with (first|(go_at_call 89;refine qmm (dX _ _ (by simp;omega)) ?_)|(go_at_call 90;refine qmm (bC _ _) ?_)|(go_at_call 88;refine qmm (cW _ _) ?_)|(go_at_call 87;refine qmm (cY _ _) ?_)|(go_at_call 61;refine qmm (aX _ _) ?_))
   go_ret3
   exact⟨by rw[HW.out];rfl,rfl⟩
  ·cases E:bJ c0
   ·skip
    have HW:=Lib.hid (show bv l=(2,n,0)from by rw[HQ.out,bk,if_neg q,if_neg (by simp[hr]),if_neg (by rw[az h0 HC0.out];simp[E])])
    go_wp2_with (first|(go_at_call 89;refine qmm (dX _ _ (by simp;omega)) ?_)|(go_at_call 90;refine qmm (bC _ _) ?_)|(go_at_call 88;refine qmm (cW _ _) ?_)|(go_at_call 87;refine qmm (cY _ _) ?_)|(go_at_call 61;refine qmm (aX _ _) ?_))
    go_ret3
    exact⟨by rw[HW.out];rfl,rfl⟩
   ·skip
    have HW:=Lib.hid (show bv l=(1,n,0)from by rw[HQ.out,bk,if_neg q,if_neg (by simp[hr]),if_pos (by rw[az h0 HC0.out];exact E)])
    go_wp2_with (first|(go_at_call 89;refine qmm (dX _ _ (by simp;omega)) ?_)|(go_at_call 90;refine qmm (bC _ _) ?_)|(go_at_call 88;refine qmm (cW _ _) ?_)|(go_at_call 87;refine qmm (cY _ _) ?_)|(go_at_call 61;refine qmm (aX _ _) ?_))
    go_ret3
    exact⟨by rw[HW.out];rfl,rfl⟩
 cases h3:aS c2
 ·skip
  have HQ:=Lib.hid (gb HN.out (zV HN.out h2 HC2.out h3));by_cases q:24<n
  ·skip
   have HW:=Lib.hid (show bv l=(0,0,3)from by rw[HQ.out,bk,if_pos q])
   go_wp2_with (first|(go_at_call 89;refine qmm (dX _ _ (by simp;omega)) ?_)|(go_at_call 90;refine qmm (bC _ _) ?_)|(go_at_call 88;refine qmm (cW _ _) ?_)|(go_at_call 87;refine qmm (cY _ _) ?_)|(go_at_call 61;refine qmm (aX _ _) ?_))
   go_ret3
   exact⟨by rw[HW.out];rfl,rfl⟩
  ·cases E:bJ c0
   ·skip
    have HW:=Lib.hid (show bv l=(2,n,0)from by rw[HQ.out,bk,if_neg q,if_neg (by simp[hr]),if_neg (by rw[az h0 HC0.out];simp[E])])
    go_wp2_with (first|(go_at_call 89;refine qmm (dX _ _ (by simp;omega)) ?_)|(go_at_call 90;refine qmm (bC _ _) ?_)|(go_at_call 88;refine qmm (cW _ _) ?_)|(go_at_call 87;refine qmm (cY _ _) ?_)|(go_at_call 61;refine qmm (aX _ _) ?_))
    go_ret3
    exact⟨by rw[HW.out];rfl,rfl⟩
   ·skip
    have HW:=Lib.hid (show bv l=(1,n,0)from by rw[HQ.out,bk,if_neg q,if_neg (by simp[hr]),if_pos (by rw[az h0 HC0.out];exact E)])
    go_wp2_with (first|(go_at_call 89;refine qmm (dX _ _ (by simp;omega)) ?_)|(go_at_call 90;refine qmm (bC _ _) ?_)|(go_at_call 88;refine qmm (cW _ _) ?_)|(go_at_call 87;refine qmm (cY _ _) ?_)|(go_at_call 61;refine qmm (aX _ _) ?_))
    go_ret3
    exact⟨by rw[HW.out];rfl,rfl⟩
 obtain⟨m,hm⟩:∃m,spanN aQ (l.drop (n+1))=m:=⟨_,rfl⟩;have hml:n+1+m≤l.length:=by have :=iN aQ (l.drop (n+1));simp at this;omega
 have HM:=Lib.hid hm;have HQ:=Lib.hid (tI HN.out hm (uZ HN.out h0 HC0.out Z hr h2 hn1 HC1.out J HC2.out h3));by_cases q:24<n
 ·skip
  have HW:=Lib.hid (show bv l=(0,0,3)from by rw[HQ.out,dD,if_pos (.inl q)])
  go_wp2_with (first|(go_at_call 89;refine qmm (dX _ _ (by simp;omega)) ?_)|(go_at_call 90;refine qmm (bC _ _) ?_)|(go_at_call 88;refine qmm (cW _ _) ?_)|(go_at_call 87;refine qmm (cY _ _) ?_)|(go_at_call 61;refine qmm (aX _ _) ?_))
  go_ret3
  exact⟨by rw[HW.out];rfl,rfl⟩
 by_cases O:24<m
 ·skip
  have HW:=Lib.hid (show bv l=(0,0,3)from by rw[HQ.out,dD,if_pos (.inr O)])
  go_wp2_with (first|(go_at_call 89;refine qmm (dX _ _ (by simp;omega)) ?_)|(go_at_call 90;refine qmm (bC _ _) ?_)|(go_at_call 88;refine qmm (cW _ _) ?_)|(go_at_call 87;refine qmm (cY _ _) ?_)|(go_at_call 61;refine qmm (aX _ _) ?_))
  go_ret3
  exact⟨by rw[HW.out];rfl,rfl⟩
 have he:n+1+m-(n+1)=m:=by omega
 cases G:hZ ((l.drop (n+1)).take m)
 rotate_left
 ·skip
  have HW:=Lib.hid (show bv l=(0,0,2)from by rw[HQ.out,dD,if_neg (by omega),if_pos G])
  go_wp2_with (first|(go_at_call 89;refine qmm (dX _ _ (by simp;omega)) ?_)|(go_at_call 90;refine qmm (bC _ _) ?_)|(go_at_call 88;refine qmm (cW _ _) ?_)|(go_at_call 87;refine qmm (cY _ _) ?_)|(go_at_call 61;refine qmm (aX _ _) ?_))
  go_ret3
  exact⟨by rw[HW.out];rfl,rfl⟩
 cases E:bJ c2
 ·skip
  have HW:=Lib.hid (show bv l=(4,n+1+m,0)from by rw[HQ.out,dD,if_neg (by omega),if_neg (by simp[G]),if_neg (by rw[az h2 HC2.out];simp[E])])
  go_wp2_with (first|(go_at_call 89;refine qmm (dX _ _ (by simp;omega)) ?_)|(go_at_call 90;refine qmm (bC _ _) ?_)|(go_at_call 88;refine qmm (cW _ _) ?_)|(go_at_call 87;refine qmm (cY _ _) ?_)|(go_at_call 61;refine qmm (aX _ _) ?_))
  go_ret3
  exact⟨by rw[HW.out];rfl,rfl⟩
 ·skip
  have HW:=Lib.hid (show bv l=(3,n+1+m,0)from by rw[HQ.out,dD,if_neg (by omega),if_neg (by simp[G]),if_pos (by rw[az h2 HC2.out];exact E)])
  go_wp2_with (first|(go_at_call 89;refine qmm (dX _ _ (by simp;omega)) ?_)|(go_at_call 90;refine qmm (bC _ _) ?_)|(go_at_call 88;refine qmm (cW _ _) ?_)|(go_at_call 87;refine qmm (cY _ _) ?_)|(go_at_call 61;refine qmm (aX _ _) ?_))
  go_ret3
  exact⟨by rw[HW.out];rfl,rfl⟩
end Go.Proofs.YtojjjmkmkbnieaaGreat
namespace Go.Proofs.YtojjjmkmkbnieaaGreat.Lx
def fy(l:List UInt8):Nat:=if aS (l.getD 0 0)=true then spanN aQ l else 0
def signLen(l:List UInt8):Nat:=
 if(l.getD 0 0).toNat=61 then(if 1<l.length∧(l.getD 1 0).toNat=61 then 2 else 1)
 else if([40,41,91,93,58,44,43,45,42,60,63]:List Nat).contains (l.getD 0 0).toNat=true then 1 else 0
theorem pD(l:List UInt8)(k:Nat):(l.drop k).getD 0 0=l.getD k 0:=by simp[List.getD]
theorem zf(l:List UInt8)(k:Nat):(l.drop k).getD 1 0=l.getD (k+1) 0:=by simp[List.getD]
variable{l:List UInt8}{k:Nat}
theorem yn{c:UInt8}(h:k<l.length)(q:l[k]=c):
  signLen (l.drop k)=if c.toNat=61 then(if k+1<l.length∧(l.getD (k+1) 0).toNat=61 then 2 else 1)
   else if([40,41,91,93,58,44,43,45,42,60,63]:List Nat).contains c.toNat=true then 1 else 0:=by
 unfold signLen;rw[pD,zf,az h q,List.length_drop];by_cases h2:k+1<l.length
 ·have h1:1<l.length-k:=by omega
  simp only[h1,h2]
 ·have h1:¬1<l.length-k:=by omega
  simp only[h1,h2]
theorem va{c:UInt8}(h:aS c=true)(q:upperB c=false):bJ c=true:=by simpa[aS,q]using h
theorem nd{c:UInt8}(q:upperB c=true):bJ c=false:=by simp[upperB,bJ]at *;omega
theorem zw{j:Nat}{c:UInt8}(h:k<l.length)(q:l[k]=c):
  quotedT (l.drop k) j=if aI c=false then(j,1)else if c.toNat=34 then(j+1,0)else if c.toNat=92∨c.toNat<32 then(0,2)else quotedT (l.drop (k+1)) (j+1):=by
 rw[List.drop_eq_getElem_cons h,q];rfl
theorem sS{j:Nat}(h:l.length≤k):quotedT (l.drop k) j=(0,2):=by
 rw[List.drop_of_length_le h];rfl
theorem zh{c:UInt8}(E:aI c=true)(q:cP c=false):c.toNat<32:=by
 simp[aI,q,bu]at E;simp[cP]at q;omega
theorem zb{c:UInt8}(q:cP c=true):¬c.toNat<32:=by
 simp[cP]at q;omega
theorem ud{c:UInt8}(h:c.toNat=34):aI c=true:=by simp[aI,cP,h]
theorem zY(l:List UInt8):(if(l.getD 0 0).toNat=61∧1<l.length∧(l.getD 1 0).toNat=61 then((8,2,0):Nat×Nat×Nat)else if lJ.contains (l.getD 0 0)=true then(8,1,0)else(0,0,2))=
  if signLen l=0 then(0,0,2)else(8,signLen l,0):=by
 unfold signLen;generalize l.getD 0 0=c;generalize l.getD 1 0=d;by_cases q:c.toNat=61
 ·have E:c=61:=by apply UInt8.toNat_inj.1;simpa using q
  subst E;by_cases h2:1<l.length∧d.toNat=61
  ·simp[h2]
  ·simp[h2,lJ]
 ·have :lJ.contains c=([40,41,91,93,58,44,43,45,42,60,63]:List Nat).contains c.toNat:=by
   simp only[lJ,List.contains_cons,List.contains_nil,Bool.or_false];have h:∀n:UInt8,(c==n)=(c.toNat==n.toNat):=λn=>by rw[Bool.eq_iff_iff];simp[UInt8.toNat_inj]
   simp only[h];have :(c.toNat==(61:UInt8).toNat)=false:=by simpa using q
   rw[this];rfl
  rw[this];simp only[q,false_and,if_false];split<;>simp_all
end Go.Proofs.YtojjjmkmkbnieaaGreat.Lx
namespace Go.Proofs.YtojjjmkmkbnieaaGreat
open _root_.Go.Proofs.Tryz
open Go.RowKit Lx
set_option maxRecDepth 100000
set_option maxHeartbeats 1000000 in
theorem gm(l:List UInt8)(x:Int)(k:Nat)(hx:x=k)(w:World)(hk:k≤l.length)(hl:l.length≤281474976710656):Calls prog 127 #[.string ⟨l.toArray⟩,.int .i64 x] w λe w'=>e=.returned (.int .i64 (fy (l.drop k):Nat))∧w=w':=by
 subst hx;by_cases hlt:k<l.length
 rotate_left
 ·have HR:=Lib.hid (show fy (l.drop k)=0 from by rw[List.drop_of_length_le (by omega)];rfl);have hge:(l.length:Int)≤k:=by omega
  go_enter func127,ntmps127
  go_wp2_with (first|(go_at_call 123;refine qmm (bz _ _) ?_)|(go_at_call 124;refine qmm (aK _ _) ?_)|(go_at_call 129;refine qmm (mw _ _) ?_))
  go_ret
  exact⟨aY (by rw[HR.out];rfl),rfl⟩
 obtain⟨c,hc⟩:∃c,({data:=l.toArray}:ByteArray)[k]'hlt=c:=⟨_,rfl⟩;have HC:=Lib.hid (show l[k]=c from hc);have hge:decide (l.length≤k)=false:=by simp;omega
 have HG:=Lib.hid (show(l.drop k).getD 0 0=c from by rw[pD];exact az hlt HC.out);cases hlo:bJ c<;>cases hup:upperB c
 ·have HR:=Lib.hid (show fy (l.drop k)=0 from by rw[fy,HG.out];simp[aS,hlo,hup])
  go_enter func127,ntmps127
  go_wp2_with (first|(go_at_call 123;refine qmm (bz _ _) ?_)|(go_at_call 124;refine qmm (aK _ _) ?_)|(go_at_call 129;refine qmm (mw _ _) ?_))
  go_ret
  exact⟨aY (by rw[HR.out];rfl),rfl⟩
 all_goals
  have HR:=Lib.hid (show fy (l.drop k)=spanN aQ (l.drop k)from by rw[fy,HG.out];simp[aS,hlo,hup]);rw[HR.out];clear HR
  go_enter func127,ntmps127
  go_wp2_with (first|(go_at_call 123;refine qmm (bz _ _) ?_)|(go_at_call 124;refine qmm (aK _ _) ?_)|(go_at_call 129;refine qmm (mw _ _) ?_))
  go_loopg [5] (l.length-k) (λg n wx=>∃i:Nat,g=l.length-i∧wx=w∧k≤i∧i≤l.length∧n=.int .i64 i∧Hid (spanN aQ (l.drop k)=i-k+spanN aQ (l.drop i)))
  case atStart=>exact⟨k,rfl,rfl,Nat.le_refl _,hk,rfl,Lib.hid (by omega)⟩
  case round=>
   obtain⟨i,rfl,rfl,hki,hil,rfl,hrel⟩:=hrel;by_cases hit:i<l.length
   ·skip
    obtain⟨d,hd⟩:∃c,({data:=l.toArray}:ByteArray)[i]'hit=c:=⟨_,rfl⟩;have HD:=Lib.hid (show l[i]=d from hd);cases hwd:aQ d
    ·go_wp2_with (first|(go_at_call 123;refine qmm (bz _ _) ?_)|(go_at_call 124;refine qmm (aK _ _) ?_)|(go_at_call 129;refine qmm (mw _ _) ?_))
     go_ret
     exact⟨aY (by rw[hrel.out,mr hit HD.out hwd];omega),rfl⟩
    ·go_wp2_with (first|(go_at_call 123;refine qmm (bz _ _) ?_)|(go_at_call 124;refine qmm (aK _ _) ?_)|(go_at_call 129;refine qmm (mw _ _) ?_))
     go_roundg (l.length-(i+1))
     case measure=>omega
     case rel=>exact⟨i+1,rfl,rfl,by omega,by omega,by go_num,Lib.hid (by rw[hrel.out,jc hit HD.out hwd];omega)⟩
   ·go_wp2_with (first|(go_at_call 123;refine qmm (bz _ _) ?_)|(go_at_call 124;refine qmm (aK _ _) ?_)|(go_at_call 129;refine qmm (mw _ _) ?_))
    go_ret
    exact⟨aY (by rw[hrel.out,nB (by omega)];omega),rfl⟩
set_option maxHeartbeats 2000000 in
theorem dr(l:List UInt8)(x:Int)(k:Nat)(hx:x=k)(w:World)(hlt:k<l.length)(hl:l.length≤281474976710656):Calls prog 126 #[.string ⟨l.toArray⟩,.int .i64 x] w λe w'=>e=.returned (.int .i64 (signLen (l.drop k):Nat))∧w=w':=by
 subst hx;obtain⟨c,hc⟩:∃c,({data:=l.toArray}:ByteArray)[k]'hlt=c:=⟨_,rfl⟩;have HC:=Lib.hid (show l[k]=c from hc);have HS:=Lib.hid (yn hlt HC.out);cases q:((c.toNat:Int)==61)
 rotate_left
 ·by_cases h1:k+1<l.length
  ·have h1':(k:Int)+1<l.length:=by omega
   obtain⟨d,hd⟩:∃c,({data:=l.toArray}:ByteArray)[k+1]'h1=c:=⟨_,rfl⟩;have HD:=Lib.hid (show l[k+1]=d from hd);cases E:((d.toNat:Int)==61)
   ·go_enter func126,ntmps126
    go_wp2
    go_ret
    exact⟨aY (by rw[HS.out,if_pos (cp (m:=61) q),if_neg (λh=>bw (m:=61) E (by rw[←az h1 HD.out];exact h.2))];rfl),rfl⟩
   ·go_enter func126,ntmps126
    go_wp2
    go_ret
    exact⟨aY (by rw[HS.out,if_pos (cp (m:=61) q),if_pos ⟨h1,by rw[az h1 HD.out];exact cp (m:=61) E⟩];rfl),rfl⟩
  ·have h1':¬((k:Int)+1<l.length):=by omega
   go_enter func126,ntmps126
   go_wp2
   go_ret
   exact⟨aY (by rw[HS.out,if_pos (cp (m:=61) q),if_neg (λh=>h1 h.1)];rfl),rfl⟩
 cases G:((c.toNat:Int)==40)
 rotate_left
 ·go_enter func126,ntmps126
  go_wp2
  go_ret
  exact⟨aY (by rw[HS.out,if_neg (bw (m:=61) q),if_pos (by simp[cp (m:=40) G])];rfl),rfl⟩
 cases J:((c.toNat:Int)==41)
 rotate_left
 ·go_enter func126,ntmps126
  go_wp2
  go_ret
  exact⟨aY (by rw[HS.out,if_neg (bw (m:=61) q),if_pos (by simp[cp (m:=41) J])];rfl),rfl⟩
 cases O:((c.toNat:Int)==91)
 rotate_left
 ·go_enter func126,ntmps126
  go_wp2
  go_ret
  exact⟨aY (by rw[HS.out,if_neg (bw (m:=61) q),if_pos (by simp[cp (m:=91) O])];rfl),rfl⟩
 cases U:((c.toNat:Int)==93)
 rotate_left
 ·go_enter func126,ntmps126
  go_wp2
  go_ret
  exact⟨aY (by rw[HS.out,if_neg (bw (m:=61) q),if_pos (by simp[cp (m:=93) U])];rfl),rfl⟩
 cases Z:((c.toNat:Int)==58)
 rotate_left
 ·go_enter func126,ntmps126
  go_wp2
  go_ret
  exact⟨aY (by rw[HS.out,if_neg (bw (m:=61) q),if_pos (by simp[cp (m:=58) Z])];rfl),rfl⟩
 cases h44:((c.toNat:Int)==44)
 rotate_left
 ·go_enter func126,ntmps126
  go_wp2
  go_ret
  exact⟨aY (by rw[HS.out,if_neg (bw (m:=61) q),if_pos (by simp[cp (m:=44) h44])];rfl),rfl⟩
 cases h43:((c.toNat:Int)==43)
 rotate_left
 ·go_enter func126,ntmps126
  go_wp2
  go_ret
  exact⟨aY (by rw[HS.out,if_neg (bw (m:=61) q),if_pos (by simp[cp (m:=43) h43])];rfl),rfl⟩
 cases h45:((c.toNat:Int)==45)
 rotate_left
 ·go_enter func126,ntmps126
  go_wp2
  go_ret
  exact⟨aY (by rw[HS.out,if_neg (bw (m:=61) q),if_pos (by simp[cp (m:=45) h45])];rfl),rfl⟩
 cases h42:((c.toNat:Int)==42)
 rotate_left
 ·go_enter func126,ntmps126
  go_wp2
  go_ret
  exact⟨aY (by rw[HS.out,if_neg (bw (m:=61) q),if_pos (by simp[cp (m:=42) h42])];rfl),rfl⟩
 cases h60:((c.toNat:Int)==60)
 rotate_left
 ·go_enter func126,ntmps126
  go_wp2
  go_ret
  exact⟨aY (by rw[HS.out,if_neg (bw (m:=61) q),if_pos (by simp[cp (m:=60) h60])];rfl),rfl⟩
 cases h63:((c.toNat:Int)==63)
 rotate_left
 ·go_enter func126,ntmps126
  go_wp2
  go_ret
  exact⟨aY (by rw[HS.out,if_neg (bw (m:=61) q),if_pos (by simp[cp (m:=63) h63])];rfl),rfl⟩
 go_enter func126,ntmps126
 go_wp2
 go_ret
 exact⟨aY (by rw[HS.out,if_neg (bw (m:=61) q),if_neg (by simp[bw (m:=40) G,bw (m:=41) J,bw (m:=91) O,bw (m:=93) U,bw (m:=58) Z,bw (m:=44) h44,bw (m:=43) h43,bw (m:=45) h45,bw (m:=42) h42,bw (m:=60) h60,bw (m:=63) h63])];rfl),rfl⟩
def jU(q:Nat)(t:Nat×Nat×Nat):Value:=
 if t.2.2=0 then .agg #[.int .i64 (t.2.1:Nat),.int .i64 (t.1:Nat),.int .i64 0,.int .i64 0]else .agg #[.int .i64 0,.int .i64 0,.int .i64 (t.2.2:Nat),.int .i64 ((q+t.2.1:Nat):Int)]
def oU(q:Nat)(t:Nat×Nat×Nat)(w:World)(e:Ending)(w':World):Prop:=e=.returned (jU q t)∧Ext w w'
variable{n k:Nat}{w':World}
theorem eR{q:Nat}{t:Nat×Nat×Nat}{w:World}{x y:Int}(h:t=(k,n,0))(hx:x=n)(hy:y=k)(E:Ext w w'):oU q t w (.returned (.agg #[.int .i64 x,.int .i64 y,.int .i64 0,.int .i64 0])) w':=by
 subst h;subst hx;subst hy;exact⟨rfl,E⟩
theorem bR{q e:Nat}{t:Nat×Nat×Nat}{w:World}{x y:Int}(h:t=(k,n,e))(E:¬e=0)(hx:x=e)(hy:y=((q+n:Nat):Int))(G:Ext w w'):oU q t w (.returned (.agg #[.int .i64 0,.int .i64 0,.int .i64 x,.int .i64 y])) w':=by
 subst h;subst hx;subst hy;exact⟨by simp only[jU,if_neg E],G⟩
set_option maxHeartbeats 4000000 in
theorem Ff(l:List UInt8)(x:Int)(k:Nat)(hxk:x=k)(w:World)(hlt:k<l.length)(hle:aS (l[k]'hlt)=true)(G:l.length≤281474976710656):Calls prog 125 #[.string ⟨l.toArray⟩,.int .i64 x] w (oU k (bv (l.drop k)) w):=by
 subst hxk;obtain⟨T,J⟩:∃T,bv (l.drop k)=T:=⟨_,rfl⟩;rw[J];have Z:0<(l.drop k).length:=by simp;omega
 obtain⟨c0,hc0⟩:∃c,({data:=l.toArray}:ByteArray)[k]'hlt=c:=⟨_,rfl⟩;have HCk:=Lib.hid (show l[k]=c0 from hc0);have HC0:=Lib.hid (show(l.drop k)[0]=c0 from by rw[List.getElem_drop];exact hc0);have HL0:=Lib.hid (show aS c0=true from hc0▸hle);obtain⟨n,hn⟩:∃n,spanN aQ (l.drop k)=n:=⟨_,rfl⟩;have hnl:k+n≤l.length:=by have :=iN aQ (l.drop k);simp at this;omega
 have HN:=Lib.hid hn;have HW0:=Lib.hid (show fy (l.drop k)=n from by rw[fy,az Z HC0.out,if_pos HL0.out];exact hn);clear hn hle;obtain⟨E,hE⟩:∃E,k+n=E:=⟨_,rfl⟩;have hE1:(k:Int)+n=(E:Nat):=by omega
 have hE2:E-k=n:=by omega
 have hE3:E≤l.length:=by omega
 have hkE:k≤E:=by omega
 have HE:=Lib.hid hE;clear hE;have hx:=rJ;have hx2:=mg
 go_enter func125,ntmps125
 go_wp2_with fail
 refine(gm _ _ k rfl _ (by omega) G).mono ?_;rintro e w' ⟨rfl,rfl⟩;rw[HW0.out];cases hr:hZ ((l.drop k).take n)
 rotate_left
 ·cases hu:upperB c0
  all_goals
   have HQ:=Lib.hid (gb HN.out (AX HN.out hr));by_cases q:24<n
   ·skip
    have HW:=Lib.hid (show T=(0,0,3)from by rw[←J,HQ.out,bk,if_pos q])
    go_wp2_with (first|(go_at_call 124;refine qmm (aK _ _) ?_)|(go_at_call 128;refine qmm (cb _ _) ?_)|(go_at_call 127;refine qmm (gm _ _ (E+1) (by omega) _ (by omega) G) ?_))
    exact bodyPost_ret (v:=.agg #[.int .i64 0,.int .i64 0,.int .i64 3,.int .i64 k]) (by simp[results,results125,go_sem]) rfl (bR HW.out (by omega) (by omega) (by omega) qEx)
   ·skip
    have HW:=Lib.hid (show T=(7,n,0)from by rw[←J,HQ.out,bk,if_neg q,if_pos hr])
    go_wp2_with (first|(go_at_call 124;refine qmm (aK _ _) ?_)|(go_at_call 128;refine qmm (cb _ _) ?_)|(go_at_call 127;refine qmm (gm _ _ (E+1) (by omega) _ (by omega) G) ?_))
    exact bodyPost_ret (v:=.agg #[.int .i64 n,.int .i64 7,.int .i64 0,.int .i64 0]) (by simp[results,results125,go_sem]) rfl (eR HW.out (by omega) (by omega) qEx)
 cases hu:upperB c0
 ·skip
  have HQ:=Lib.hid (gb HN.out (zR Z HC0.out hu));by_cases q:24<n
  ·skip
   have HW:=Lib.hid (show T=(0,0,3)from by rw[←J,HQ.out,bk,if_pos q])
   go_wp2_with (first|(go_at_call 124;refine qmm (aK _ _) ?_)|(go_at_call 128;refine qmm (cb _ _) ?_)|(go_at_call 127;refine qmm (gm _ _ (E+1) (by omega) _ (by omega) G) ?_))
   exact bodyPost_ret (v:=.agg #[.int .i64 0,.int .i64 0,.int .i64 3,.int .i64 k]) (by simp[results,results125,go_sem]) rfl (bR HW.out (by omega) (by omega) (by omega) qEx)
  ·skip
   have HW:=Lib.hid (show T=(1,n,0)from by rw[←J,HQ.out,bk,if_neg q,if_neg (by simp[hr]),if_pos (by rw[az Z HC0.out];exact va HL0.out hu)])
   go_wp2_with (first|(go_at_call 124;refine qmm (aK _ _) ?_)|(go_at_call 128;refine qmm (cb _ _) ?_)|(go_at_call 127;refine qmm (gm _ _ (E+1) (by omega) _ (by omega) G) ?_))
   exact bodyPost_ret (v:=.agg #[.int .i64 n,.int .i64 1,.int .i64 0,.int .i64 0]) (by simp[results,results125,go_sem]) rfl (eR HW.out (by omega) (by omega) qEx)
 by_cases h2:E+1<l.length
 rotate_left
 ·have h2':¬((E:Int)+1<l.length):=by omega
  have HQ:=Lib.hid (gb HN.out (Ad HN.out (by have :=HE.out;simp;omega)));by_cases q:24<n
  ·skip
   have HW:=Lib.hid (show T=(0,0,3)from by rw[←J,HQ.out,bk,if_pos q])
   go_wp2_with (first|(go_at_call 124;refine qmm (aK _ _) ?_)|(go_at_call 128;refine qmm (cb _ _) ?_)|(go_at_call 127;refine qmm (gm _ _ (E+1) (by omega) _ (by omega) G) ?_))
   exact bodyPost_ret (v:=.agg #[.int .i64 0,.int .i64 0,.int .i64 3,.int .i64 k]) (by simp[results,results125,go_sem]) rfl (bR HW.out (by omega) (by omega) (by omega) qEx)
  ·skip
   have HW:=Lib.hid (show T=(2,n,0)from by rw[←J,HQ.out,bk,if_neg q,if_neg (by simp[hr]),if_neg (by rw[az Z HC0.out];simp[nd hu])])
   go_wp2_with (first|(go_at_call 124;refine qmm (aK _ _) ?_)|(go_at_call 128;refine qmm (cb _ _) ?_)|(go_at_call 127;refine qmm (gm _ _ (E+1) (by omega) _ (by omega) G) ?_))
   exact bodyPost_ret (v:=.agg #[.int .i64 n,.int .i64 2,.int .i64 0,.int .i64 0]) (by simp[results,results125,go_sem]) rfl (eR HW.out (by omega) (by omega) qEx)
 have hn1:E<l.length:=by omega
 obtain⟨c1,hc1⟩:∃c,({data:=l.toArray}:ByteArray)[E]'hn1=c:=⟨_,rfl⟩;have HC1a:=Lib.hid (show l[E]=c1 from hc1);obtain⟨c2,hc2⟩:∃c,({data:=l.toArray}:ByteArray)[E+1]'h2=c:=⟨_,rfl⟩;have HC2a:=Lib.hid (show l[E+1]=c2 from hc2);have U:n<(l.drop k).length:=by have :=HE.out;simp;omega
 have O:n+1<(l.drop k).length:=by have :=HE.out;simp;omega
 have HC1:=Lib.hid (show(l.drop k)[n]=c1 from by rw[List.getElem_drop];simp only[HE.out];exact hc1);have HC2:=Lib.hid (show(l.drop k)[n+1]=c2 from by rw[List.getElem_drop];simp only[←Nat.add_assoc,HE.out];exact hc2);have HGE:=Lib.hid (show(l.drop (E+1)).getD 0 0=c2 from by rw[pD];exact az h2 HC2a.out);cases h46:((c1.toNat:Int)==46)
 ·skip
  have HQ:=Lib.hid (gb HN.out (An HN.out U HC1.out h46));by_cases q:24<n
  ·skip
   have HW:=Lib.hid (show T=(0,0,3)from by rw[←J,HQ.out,bk,if_pos q])
   go_wp2_with (first|(go_at_call 124;refine qmm (aK _ _) ?_)|(go_at_call 128;refine qmm (cb _ _) ?_)|(go_at_call 127;refine qmm (gm _ _ (E+1) (by omega) _ (by omega) G) ?_))
   exact bodyPost_ret (v:=.agg #[.int .i64 0,.int .i64 0,.int .i64 3,.int .i64 k]) (by simp[results,results125,go_sem]) rfl (bR HW.out (by omega) (by omega) (by omega) qEx)
  ·skip
   have HW:=Lib.hid (show T=(2,n,0)from by rw[←J,HQ.out,bk,if_neg q,if_neg (by simp[hr]),if_neg (by rw[az Z HC0.out];simp[nd hu])])
   go_wp2_with (first|(go_at_call 124;refine qmm (aK _ _) ?_)|(go_at_call 128;refine qmm (cb _ _) ?_)|(go_at_call 127;refine qmm (gm _ _ (E+1) (by omega) _ (by omega) G) ?_))
   exact bodyPost_ret (v:=.agg #[.int .i64 n,.int .i64 2,.int .i64 0,.int .i64 0]) (by simp[results,results125,go_sem]) rfl (eR HW.out (by omega) (by omega) qEx)
 cases h3:aS c2
 ·have hm:fy (l.drop (E+1))=0:=by rw[fy,HGE.out];simp[h3]
  have HQ:=Lib.hid (gb HN.out (zV HN.out O HC2.out h3));by_cases q:24<n
  ·skip
   have HW:=Lib.hid (show T=(0,0,3)from by rw[←J,HQ.out,bk,if_pos q])
   go_wp2_with (first|(go_at_call 124;refine qmm (aK _ _) ?_)|(go_at_call 128;refine qmm (cb _ _) ?_)|(go_at_call 127;refine qmm (gm _ _ (E+1) (by omega) _ (by omega) G) ?_))
   exact bodyPost_ret (v:=.agg #[.int .i64 0,.int .i64 0,.int .i64 3,.int .i64 k]) (by simp[results,results125,go_sem]) rfl (bR HW.out (by omega) (by omega) (by omega) qEx)
  ·skip
   have HW:=Lib.hid (show T=(2,n,0)from by rw[←J,HQ.out,bk,if_neg q,if_neg (by simp[hr]),if_neg (by rw[az Z HC0.out];simp[nd hu])])
   go_wp2_with (first|(go_at_call 124;refine qmm (aK _ _) ?_)|(go_at_call 128;refine qmm (cb _ _) ?_)|(go_at_call 127;refine qmm (gm _ _ (E+1) (by omega) _ (by omega) G) ?_))
   exact bodyPost_ret (v:=.agg #[.int .i64 n,.int .i64 2,.int .i64 0,.int .i64 0]) (by simp[results,results125,go_sem]) rfl (eR HW.out (by omega) (by omega) qEx)
 obtain⟨m,hm⟩:∃m,fy (l.drop (E+1))=m:=⟨_,rfl⟩;have HM:=Lib.hid (show spanN aQ (l.drop (E+1))=m from by rw[←hm,fy,HGE.out,if_pos h3]);have hm0:0<m:=by have h:=pE (p:=aQ) (l:=l.drop (E+1)) (by simp;omega) (by rw[HGE.out];simp[aQ,h3]);rw[HM.out]at h;exact h
 have hml:E+1+m≤l.length:=by have h:=iN aQ (l.drop (E+1));rw[HM.out]at h;simp at h;omega
 have he:E+1+m-(E+1)=m:=by omega
 have hsl:0<((l.drop (E+1)).take m).length:=by simp;omega
 have hs0:({data:=((l.drop (E+1)).take m).toArray}:ByteArray)[0]'hsl=c2:=by
  show((l.drop (E+1)).take m)[0]=c2;rw[List.getElem_take,List.getElem_drop];exact hc2
 have HQ:=Lib.hid (tI (m:=m) HN.out (by have h:=HM.out;rw[←HE.out]at h;rw[List.drop_drop];exact h) (uZ HN.out Z HC0.out hu hr O U HC1.out h46 HC2.out h3));have HDD:=Lib.hid (show((l.drop k).drop (n+1)).take m=(l.drop (E+1)).take m from by rw[List.drop_drop,←HE.out,Nat.add_assoc]);cases hu2:upperB c2
 all_goals
  by_cases q:24<n
  ·skip
   have HW:=Lib.hid (show T=(0,0,3)from by rw[←J,HQ.out,dD,if_pos (.inl q)])
   go_wp2_with (first|(go_at_call 124;refine qmm (aK _ _) ?_)|(go_at_call 128;refine qmm (cb _ _) ?_)|(go_at_call 127;refine qmm (gm _ _ (E+1) (by omega) _ (by omega) G) ?_))
   exact bodyPost_ret (v:=.agg #[.int .i64 0,.int .i64 0,.int .i64 3,.int .i64 k]) (by simp[results,results125,go_sem]) rfl (bR HW.out (by omega) (by omega) (by omega) qEx)
  by_cases h24m:24<m
  ·skip
   have HW:=Lib.hid (show T=(0,0,3)from by rw[←J,HQ.out,dD,if_pos (.inr h24m)])
   go_wp2_with (first|(go_at_call 124;refine qmm (aK _ _) ?_)|(go_at_call 128;refine qmm (cb _ _) ?_)|(go_at_call 127;refine qmm (gm _ _ (E+1) (by omega) _ (by omega) G) ?_))
   exact bodyPost_ret (v:=.agg #[.int .i64 0,.int .i64 0,.int .i64 3,.int .i64 k]) (by simp[results,results125,go_sem]) rfl (bR HW.out (by omega) (by omega) (by omega) qEx)
  cases hr2:hZ ((l.drop (E+1)).take m)
  rotate_left
  ·skip
   have HW:=Lib.hid (show T=(0,0,2)from by rw[←J,HQ.out,dD,if_neg (by omega),if_pos (by rw[HDD.out];exact hr2)])
   go_wp2_with (first|(go_at_call 124;refine qmm (aK _ _) ?_)|(go_at_call 128;refine qmm (cb _ _) ?_)|(go_at_call 127;refine qmm (gm _ _ (E+1) (by omega) _ (by omega) G) ?_))
   exact bodyPost_ret (v:=.agg #[.int .i64 0,.int .i64 0,.int .i64 2,.int .i64 k]) (by simp[results,results125,go_sem]) rfl (bR HW.out (by omega) (by omega) (by omega) qEx)
  first
  |have HW:=Lib.hid (show T=(3,n+1+m,0)from by rw[←J,HQ.out,dD,if_neg (by omega),if_neg (by rw[HDD.out];simp[hr2]),if_pos (by rw[az O HC2.out];exact va h3 hu2)])
   go_wp2_with (first|(go_at_call 124;refine qmm (aK _ _) ?_)|(go_at_call 128;refine qmm (cb _ _) ?_)|(go_at_call 127;refine qmm (gm _ _ (E+1) (by omega) _ (by omega) G) ?_))
   exact bodyPost_ret (v:=.agg #[.int .i64 (n+1+m),.int .i64 3,.int .i64 0,.int .i64 0]) (by simp[results,results125,go_sem]) rfl (eR HW.out (by omega) (by omega) qEx)
  |have HW:=Lib.hid (show T=(4,n+1+m,0)from by rw[←J,HQ.out,dD,if_neg (by omega),if_neg (by rw[HDD.out];simp[hr2]),if_neg (by rw[az O HC2.out];simp[nd hu2])])
   go_wp2_with (first|(go_at_call 124;refine qmm (aK _ _) ?_)|(go_at_call 128;refine qmm (cb _ _) ?_)|(go_at_call 127;refine qmm (gm _ _ (E+1) (by omega) _ (by omega) G) ?_))
   exact bodyPost_ret (v:=.agg #[.int .i64 (n+1+m),.int .i64 4,.int .i64 0,.int .i64 0]) (by simp[results,results125,go_sem]) rfl (eR HW.out (by omega) (by omega) qEx)
theorem yO(q:Nat)(t:Nat×Nat×Nat):∃a b c d:Int,jU q t=.agg #[.int .i64 a,.int .i64 b,.int .i64 c,.int .i64 d]:=by
 unfold jU;split<;>exact⟨_,_,_,_,rfl⟩
abbrev tP:Obj:=.cells #[.int .i64 0,.int .i64 0,.int .i64 0,.int .i64 0] 125
set_option maxHeartbeats 4000000 in
theorem CL (l:List UInt8) (x:Int) (k:Nat) (hxk:x=k) (w:World) (hlt:k<l.length) (hl:l.length≤281474976710656):Calls prog 116 #[.string ⟨l.toArray⟩,.int .i64 x] w (oU k (tokenT (l.drop k)) w):=by
 subst hxk;obtain⟨T,hT⟩:∃T,tokenT (l.drop k)=T:=⟨_,rfl⟩;rw[hT];have h0:0<(l.drop k).length:=by simp;omega
 obtain⟨c,hc⟩:∃c,({data:=l.toArray}:ByteArray)[k]'hlt=c:=⟨_,rfl⟩;have HC:=Lib.hid (show l[k]=c from hc);have HC0:=Lib.hid (show(l.drop k)[0]=c from by rw[List.getElem_drop];exact hc);have HT:=Lib.hid ((pJ h0 HC0.out).symm.trans hT);clear hT
 go_enter func116,ntmps116
 cases ha:aI c
 ·skip
  have HW:=Lib.hid (show T=(0,0,1)from by rw[←HT.out,if_pos ha])
  go_wp2_with (first|(go_at_call 120;refine qmm (aL _ _) ?_)|(go_at_call 121;refine qmm (bn _ _) ?_)|(go_at_call 122;refine qmm (bZ _ _) ?_)|(go_at_call 123;refine qmm (bz _ _) ?_)|(go_at_call 124;refine qmm (aK _ _) ?_)|(go_at_call 126;refine qmm (dr _ _ k rfl _ hlt hl) ?_))
  exact bodyPost_ret (v:=.agg #[.int .i64 0,.int .i64 0,.int .i64 1,.int .i64 k]) (by simp[results,results116,go_sem]) rfl (bR HW.out (by omega) (by omega) (by omega) qEx)
 have HA:=Lib.hid (show¬aI c=false from by simp[ha]);cases h34:((c.toNat:Int)==34)
 rotate_left
 ·have h34':=cp (m:=34) h34;have HT2:=Lib.hid (show T=(6,quotedT (l.drop (k+1)) 1)from by
   rw[←HT.out,if_neg HA.out,if_neg (by simp[aS,bJ,upperB,h34']),if_neg (by simp[be,h34']),if_pos h34',List.tail_drop])
  clear h34'
  go_wp2_with (first|(go_at_call 120;refine qmm (aL _ _) ?_)|(go_at_call 121;refine qmm (bn _ _) ?_)|(go_at_call 122;refine qmm (bZ _ _) ?_)|(go_at_call 123;refine qmm (bz _ _) ?_)|(go_at_call 124;refine qmm (aK _ _) ?_)|(go_at_call 126;refine qmm (dr _ _ k rfl _ hlt hl) ?_))
  go_loopg [6] (l.length-(k+1)) (λg n wx=>∃i:Nat,g=l.length-i∧wx=w.alloc tP∧k+1≤i∧i≤l.length∧n=.int .i64 i∧Hid (quotedT (l.drop (k+1)) 1=quotedT (l.drop i) (i-k)))
  case atStart=>exact⟨k+1,rfl,rfl,Nat.le_refl _,by omega,by go_num,Lib.hid (by congr 1;omega)⟩
  case round=>
   obtain⟨i,rfl,rfl,hki,hil,rfl,hrel⟩:=hrel;by_cases hit:i<l.length
   ·skip
    obtain⟨d,hd⟩:∃c,({data:=l.toArray}:ByteArray)[i]'hit=c:=⟨_,rfl⟩;have HD:=Lib.hid (show l[i]=d from hd);have HS:=Lib.hid (zw (j:=i-k) hit HD.out);cases hq:((d.toNat:Int)==34)
    rotate_left
    ·have HW:=Lib.hid (show T=(6,i-k+1,0)from by rw[HT2.out,hrel.out,HS.out,if_neg (by simp[ud (cp (m:=34) hq)]),if_pos (cp (m:=34) hq)])
     go_wp2_with (first|(go_at_call 120;refine qmm (aL _ _) ?_)|(go_at_call 121;refine qmm (bn _ _) ?_)|(go_at_call 122;refine qmm (bZ _ _) ?_)|(go_at_call 123;refine qmm (bz _ _) ?_)|(go_at_call 124;refine qmm (aK _ _) ?_)|(go_at_call 126;refine qmm (dr _ _ k rfl _ hlt hl) ?_))
     exact bodyPost_ret (v:=.agg #[.int .i64 ((i:Int)+1-k),.int .i64 6,.int .i64 0,.int .i64 0]) (by simp[results,results116,go_sem]) rfl (eR HW.out (by omega) (by omega) qEx)
    cases had:aI d
    ·have HW:=Lib.hid (show T=(6,i-k,1)from by rw[HT2.out,hrel.out,HS.out,if_pos had])
     go_wp2_with (first|(go_at_call 120;refine qmm (aL _ _) ?_)|(go_at_call 121;refine qmm (bn _ _) ?_)|(go_at_call 122;refine qmm (bZ _ _) ?_)|(go_at_call 123;refine qmm (bz _ _) ?_)|(go_at_call 124;refine qmm (aK _ _) ?_)|(go_at_call 126;refine qmm (dr _ _ k rfl _ hlt hl) ?_))
     exact bodyPost_ret (v:=.agg #[.int .i64 0,.int .i64 0,.int .i64 1,.int .i64 i]) (by simp[results,results116,go_sem]) rfl (bR HW.out (by omega) (by omega) (by omega) qEx)
    cases hpr:cP d
    ·have HW:=Lib.hid (show T=(6,0,2)from by rw[HT2.out,hrel.out,HS.out,if_neg (by simp[had]),if_neg (bw (m:=34) hq),if_pos (.inr (zh had hpr))])
     go_wp2_with (first|(go_at_call 120;refine qmm (aL _ _) ?_)|(go_at_call 121;refine qmm (bn _ _) ?_)|(go_at_call 122;refine qmm (bZ _ _) ?_)|(go_at_call 123;refine qmm (bz _ _) ?_)|(go_at_call 124;refine qmm (aK _ _) ?_)|(go_at_call 126;refine qmm (dr _ _ k rfl _ hlt hl) ?_))
     exact bodyPost_ret (v:=.agg #[.int .i64 0,.int .i64 0,.int .i64 2,.int .i64 k]) (by simp[results,results116,go_sem]) rfl (bR HW.out (by omega) (by omega) (by omega) qEx)
    cases h92:((d.toNat:Int)==92)
    rotate_left
    ·have HW:=Lib.hid (show T=(6,0,2)from by rw[HT2.out,hrel.out,HS.out,if_neg (by simp[had]),if_neg (bw (m:=34) hq),if_pos (.inl (cp (m:=92) h92))])
     go_wp2_with (first|(go_at_call 120;refine qmm (aL _ _) ?_)|(go_at_call 121;refine qmm (bn _ _) ?_)|(go_at_call 122;refine qmm (bZ _ _) ?_)|(go_at_call 123;refine qmm (bz _ _) ?_)|(go_at_call 124;refine qmm (aK _ _) ?_)|(go_at_call 126;refine qmm (dr _ _ k rfl _ hlt hl) ?_))
     exact bodyPost_ret (v:=.agg #[.int .i64 0,.int .i64 0,.int .i64 2,.int .i64 k]) (by simp[results,results116,go_sem]) rfl (bR HW.out (by omega) (by omega) (by omega) qEx)
    ·go_wp2_with (first|(go_at_call 120;refine qmm (aL _ _) ?_)|(go_at_call 121;refine qmm (bn _ _) ?_)|(go_at_call 122;refine qmm (bZ _ _) ?_)|(go_at_call 123;refine qmm (bz _ _) ?_)|(go_at_call 124;refine qmm (aK _ _) ?_)|(go_at_call 126;refine qmm (dr _ _ k rfl _ hlt hl) ?_))
     go_roundg (l.length-(i+1))
     case measure=>omega
     case rel=>exact⟨i+1,rfl,rfl,by omega,by omega,by go_num,Lib.hid (by rw[hrel.out,HS.out,if_neg (by simp[had]),if_neg (bw (m:=34) hq),if_neg (λh=>h.elim (bw (m:=92) h92) (zb hpr))];congr 1;omega)⟩
   ·have HW:=Lib.hid (show T=(6,0,2)from by rw[HT2.out,hrel.out,sS (by omega)])
    go_wp2_with (first|(go_at_call 120;refine qmm (aL _ _) ?_)|(go_at_call 121;refine qmm (bn _ _) ?_)|(go_at_call 122;refine qmm (bZ _ _) ?_)|(go_at_call 123;refine qmm (bz _ _) ?_)|(go_at_call 124;refine qmm (aK _ _) ?_)|(go_at_call 126;refine qmm (dr _ _ k rfl _ hlt hl) ?_))
    exact bodyPost_ret (v:=.agg #[.int .i64 0,.int .i64 0,.int .i64 2,.int .i64 k]) (by simp[results,results116,go_sem]) rfl (bR HW.out (by omega) (by omega) (by omega) qEx)
 cases hdg:be c
 rotate_left
 ·have HT2:=Lib.hid (show T=(5,dl (l.drop k))from by
   rw[←HT.out,if_neg HA.out,if_neg (by simp[aS,bJ,upperB,be]at hdg⊢;omega),if_pos hdg])
  go_wp2_with (first|(go_at_call 120;refine qmm (aL _ _) ?_)|(go_at_call 121;refine qmm (bn _ _) ?_)|(go_at_call 122;refine qmm (bZ _ _) ?_)|(go_at_call 123;refine qmm (bz _ _) ?_)|(go_at_call 124;refine qmm (aK _ _) ?_)|(go_at_call 126;refine qmm (dr _ _ k rfl _ hlt hl) ?_))
  go_loopg [7] (l.length-k) (λg n wx=>∃i:Nat,g=l.length-i∧wx=w.alloc tP∧k≤i∧i≤l.length∧n=.int .i64 i∧Hid (spanN be (l.drop k)=i-k+spanN be (l.drop i)))
  case atStart=>exact⟨k,rfl,rfl,Nat.le_refl _,by omega,rfl,Lib.hid (by omega)⟩
  case round=>
   obtain⟨i,rfl,rfl,hki,hil,rfl,hrel⟩:=hrel;by_cases hit:i<l.length
   ·skip
    obtain⟨d,hd⟩:∃c,({data:=l.toArray}:ByteArray)[i]'hit=c:=⟨_,rfl⟩;have HD:=Lib.hid (show l[i]=d from hd);cases hdd:be d
    ·skip
     have HN:=Lib.hid (show spanN be (l.drop k)=i-k from by rw[hrel.out,mr hit HD.out hdd];omega);by_cases h1:1<i-k
     ·have h1':(1:Int)<i-k:=by omega
      cases h48:((c.toNat:Int)==48)
      ·have HG:=Lib.hid (show 1<i-k→¬((l.drop k).getD 0 0).toNat=48 from λ_=>by rw[az h0 HC0.out];exact bw (m:=48) h48);by_cases h15:15<i-k
       ·have h15':(15:Int)<i-k:=by omega
        have HW:=Lib.hid (show T=(5,0,3)from by rw[HT2.out,kI HN.out HG.out h15])
        go_wp2_with (first|(go_at_call 120;refine qmm (aL _ _) ?_)|(go_at_call 121;refine qmm (bn _ _) ?_)|(go_at_call 122;refine qmm (bZ _ _) ?_)|(go_at_call 123;refine qmm (bz _ _) ?_)|(go_at_call 124;refine qmm (aK _ _) ?_)|(go_at_call 126;refine qmm (dr _ _ k rfl _ hlt hl) ?_))
        exact bodyPost_ret (v:=.agg #[.int .i64 0,.int .i64 0,.int .i64 3,.int .i64 k]) (by simp[results,results116,go_sem]) rfl (bR HW.out (by omega) (by omega) (by omega) qEx)
       ·have h15':¬((15:Int)<i-k):=by omega
        have HW:=Lib.hid (show T=(5,i-k,0)from by rw[HT2.out,fI HN.out HG.out h15])
        go_wp2_with (first|(go_at_call 120;refine qmm (aL _ _) ?_)|(go_at_call 121;refine qmm (bn _ _) ?_)|(go_at_call 122;refine qmm (bZ _ _) ?_)|(go_at_call 123;refine qmm (bz _ _) ?_)|(go_at_call 124;refine qmm (aK _ _) ?_)|(go_at_call 126;refine qmm (dr _ _ k rfl _ hlt hl) ?_))
        exact bodyPost_ret (v:=.agg #[.int .i64 ((i:Int)-k),.int .i64 5,.int .i64 0,.int .i64 0]) (by simp[results,results116,go_sem]) rfl (eR HW.out (by omega) (by omega) qEx)
      ·skip
       have HW:=Lib.hid (show T=(5,0,2)from by rw[HT2.out,kO HN.out h1 h0 HC0.out h48])
       go_wp2_with (first|(go_at_call 120;refine qmm (aL _ _) ?_)|(go_at_call 121;refine qmm (bn _ _) ?_)|(go_at_call 122;refine qmm (bZ _ _) ?_)|(go_at_call 123;refine qmm (bz _ _) ?_)|(go_at_call 124;refine qmm (aK _ _) ?_)|(go_at_call 126;refine qmm (dr _ _ k rfl _ hlt hl) ?_))
       exact bodyPost_ret (v:=.agg #[.int .i64 0,.int .i64 0,.int .i64 2,.int .i64 k]) (by simp[results,results116,go_sem]) rfl (bR HW.out (by omega) (by omega) (by omega) qEx)
     ·have h1':¬((1:Int)<i-k):=by omega
      have h15':¬((15:Int)<i-k):=by omega
      have HW:=Lib.hid (show T=(5,i-k,0)from by rw[HT2.out,fI HN.out (λh=>absurd h h1) (by omega)])
      go_wp2_with (first|(go_at_call 120;refine qmm (aL _ _) ?_)|(go_at_call 121;refine qmm (bn _ _) ?_)|(go_at_call 122;refine qmm (bZ _ _) ?_)|(go_at_call 123;refine qmm (bz _ _) ?_)|(go_at_call 124;refine qmm (aK _ _) ?_)|(go_at_call 126;refine qmm (dr _ _ k rfl _ hlt hl) ?_))
      exact bodyPost_ret (v:=.agg #[.int .i64 ((i:Int)-k),.int .i64 5,.int .i64 0,.int .i64 0]) (by simp[results,results116,go_sem]) rfl (eR HW.out (by omega) (by omega) qEx)
    ·go_wp2_with (first|(go_at_call 120;refine qmm (aL _ _) ?_)|(go_at_call 121;refine qmm (bn _ _) ?_)|(go_at_call 122;refine qmm (bZ _ _) ?_)|(go_at_call 123;refine qmm (bz _ _) ?_)|(go_at_call 124;refine qmm (aK _ _) ?_)|(go_at_call 126;refine qmm (dr _ _ k rfl _ hlt hl) ?_))
     go_roundg (l.length-(i+1))
     case measure=>omega
     case rel=>exact⟨i+1,rfl,rfl,by omega,by omega,by go_num,Lib.hid (by rw[hrel.out,jc hit HD.out hdd];omega)⟩
   ·skip
    have HN:=Lib.hid (show spanN be (l.drop k)=i-k from by rw[hrel.out,nB (by omega)];omega);by_cases h1:1<i-k
    ·have h1':(1:Int)<i-k:=by omega
     cases h48:((c.toNat:Int)==48)
     ·have HG:=Lib.hid (show 1<i-k→¬((l.drop k).getD 0 0).toNat=48 from λ_=>by rw[az h0 HC0.out];exact bw (m:=48) h48);by_cases h15:15<i-k
      ·have h15':(15:Int)<i-k:=by omega
       have HW:=Lib.hid (show T=(5,0,3)from by rw[HT2.out,kI HN.out HG.out h15])
       go_wp2_with (first|(go_at_call 120;refine qmm (aL _ _) ?_)|(go_at_call 121;refine qmm (bn _ _) ?_)|(go_at_call 122;refine qmm (bZ _ _) ?_)|(go_at_call 123;refine qmm (bz _ _) ?_)|(go_at_call 124;refine qmm (aK _ _) ?_)|(go_at_call 126;refine qmm (dr _ _ k rfl _ hlt hl) ?_))
       exact bodyPost_ret (v:=.agg #[.int .i64 0,.int .i64 0,.int .i64 3,.int .i64 k]) (by simp[results,results116,go_sem]) rfl (bR HW.out (by omega) (by omega) (by omega) qEx)
      ·have h15':¬((15:Int)<i-k):=by omega
       have HW:=Lib.hid (show T=(5,i-k,0)from by rw[HT2.out,fI HN.out HG.out h15])
       go_wp2_with (first|(go_at_call 120;refine qmm (aL _ _) ?_)|(go_at_call 121;refine qmm (bn _ _) ?_)|(go_at_call 122;refine qmm (bZ _ _) ?_)|(go_at_call 123;refine qmm (bz _ _) ?_)|(go_at_call 124;refine qmm (aK _ _) ?_)|(go_at_call 126;refine qmm (dr _ _ k rfl _ hlt hl) ?_))
       exact bodyPost_ret (v:=.agg #[.int .i64 ((i:Int)-k),.int .i64 5,.int .i64 0,.int .i64 0]) (by simp[results,results116,go_sem]) rfl (eR HW.out (by omega) (by omega) qEx)
     ·skip
      have HW:=Lib.hid (show T=(5,0,2)from by rw[HT2.out,kO HN.out h1 h0 HC0.out h48])
      go_wp2_with (first|(go_at_call 120;refine qmm (aL _ _) ?_)|(go_at_call 121;refine qmm (bn _ _) ?_)|(go_at_call 122;refine qmm (bZ _ _) ?_)|(go_at_call 123;refine qmm (bz _ _) ?_)|(go_at_call 124;refine qmm (aK _ _) ?_)|(go_at_call 126;refine qmm (dr _ _ k rfl _ hlt hl) ?_))
      exact bodyPost_ret (v:=.agg #[.int .i64 0,.int .i64 0,.int .i64 2,.int .i64 k]) (by simp[results,results116,go_sem]) rfl (bR HW.out (by omega) (by omega) (by omega) qEx)
    ·have h1':¬((1:Int)<i-k):=by omega
     have h15':¬((15:Int)<i-k):=by omega
     have HW:=Lib.hid (show T=(5,i-k,0)from by rw[HT2.out,fI HN.out (λh=>absurd h h1) (by omega)])
     go_wp2_with (first|(go_at_call 120;refine qmm (aL _ _) ?_)|(go_at_call 121;refine qmm (bn _ _) ?_)|(go_at_call 122;refine qmm (bZ _ _) ?_)|(go_at_call 123;refine qmm (bz _ _) ?_)|(go_at_call 124;refine qmm (aK _ _) ?_)|(go_at_call 126;refine qmm (dr _ _ k rfl _ hlt hl) ?_))
     exact bodyPost_ret (v:=.agg #[.int .i64 ((i:Int)-k),.int .i64 5,.int .i64 0,.int .i64 0]) (by simp[results,results116,go_sem]) rfl (eR HW.out (by omega) (by omega) qEx)
 have HDg:=Lib.hid (show¬be c=true from by simp[hdg]);have HQt:=Lib.hid (bw (m:=34) h34);cases hle:aS c
 rotate_left
 ·have HT2:=Lib.hid (show bv (l.drop k)=T from by rw[←HT.out,if_neg HA.out,if_pos hle]);obtain⟨a0,a1,a2,a3,hform⟩:=yO k T;have HF:=Lib.hid hform;have CW:=Lib.hid (λw=>Ff l k k rfl w hlt (by rw[HC.out];exact hle) hl);clear hform;have hbe:bJ c=true∨(bJ c=false∧upperB c=true):=by cases h:bJ c<;>simp_all[aS]
  rcases hbe with hlo|⟨hlo,hup⟩
  all_goals
   go_wp2_with (first|(go_at_call 120;refine qmm (aL _ _) ?_)|(go_at_call 121;refine qmm (bn _ _) ?_)|(go_at_call 122;refine qmm (bZ _ _) ?_)|(go_at_call 123;refine qmm (bz _ _) ?_)|(go_at_call 124;refine qmm (aK _ _) ?_)|(go_at_call 126;refine qmm (dr _ _ k rfl _ hlt hl) ?_))
   refine(CW.out _).mono ?_;rintro e w1 ⟨rfl,hext⟩;rw[HT2.out,HF.out];have hsz:=hext.size;have hc0:=hext.cell (p:=⟨w.heap.size,0,none⟩) (by simp);have hc1:=hext.cell (p:=⟨w.heap.size,1,none⟩) (by simp);have hc2:=hext.cell (p:=⟨w.heap.size,2,none⟩) (by simp);have hc3:=hext.cell (p:=⟨w.heap.size,3,none⟩) (by simp);have hf0:=hext.frozen (p:=⟨w.heap.size,0,none⟩) (by simp);have hf1:=hext.frozen (p:=⟨w.heap.size,1,none⟩) (by simp);have hf2:=hext.frozen (p:=⟨w.heap.size,2,none⟩) (by simp);have hf3:=hext.frozen (p:=⟨w.heap.size,3,none⟩) (by simp);have HX:=Lib.hid hext;clear hext;simp at hsz hc0 hc1 hc2 hc3 hf0 hf1 hf2 hf3
   go_wp2_with (first|(go_at_call 120;refine qmm (aL _ _) ?_)|(go_at_call 121;refine qmm (bn _ _) ?_)|(go_at_call 122;refine qmm (bZ _ _) ?_)|(go_at_call 123;refine qmm (bz _ _) ?_)|(go_at_call 124;refine qmm (aK _ _) ?_)|(go_at_call 126;refine qmm (dr _ _ k rfl _ hlt hl) ?_))
   exact bodyPost_ret (v:=.agg #[.int .i64 a0,.int .i64 a1,.int .i64 a2,.int .i64 a3]) (by simp[results,results116,go_sem,hc0,hc1,hc2,hc3]) rfl ⟨by rw[HF.out],(((((Ext.refl w).alloc _).trans HX.out).setCell (Nat.le_refl _) _).setCell (Nat.le_refl _) _).setCell (Nat.le_refl _) _|>.setCell (Nat.le_refl _) _⟩
 have HLt:=Lib.hid (show¬aS c=true from by simp[hle]);have hlo:bJ c=false:=by cases h:bJ c<;>simp_all[aS]
 have hup:upperB c=false:=by cases h:upperB c<;>simp_all[aS]
 have HSg:=Lib.hid (zY (l.drop k));have HG0:=Lib.hid (az h0 HC0.out);have HT2:=Lib.hid (show T=if signLen (l.drop k)=0 then(0,0,2)else(8,signLen (l.drop k),0)from by
  rw[←HSg.out,HG0.out,←HT.out,if_neg HA.out,if_neg HLt.out,if_neg HDg.out,if_neg HQt.out])
 obtain⟨m,hm⟩:∃m,signLen (l.drop k)=m:=⟨_,rfl⟩;have HM:=Lib.hid hm;by_cases hm0:m=0
 ·have HW:=Lib.hid (show T=(0,0,2)from by rw[HT2.out,HM.out,if_pos hm0]);subst hm0
  go_wp2_with (first|(go_at_call 120;refine qmm (aL _ _) ?_)|(go_at_call 121;refine qmm (bn _ _) ?_)|(go_at_call 122;refine qmm (bZ _ _) ?_)|(go_at_call 123;refine qmm (bz _ _) ?_)|(go_at_call 124;refine qmm (aK _ _) ?_)|(go_at_call 126;refine qmm (dr _ _ k rfl _ hlt hl) ?_))
  exact bodyPost_ret (v:=.agg #[.int .i64 0,.int .i64 0,.int .i64 2,.int .i64 k]) (by simp[results,results116,go_sem]) rfl (bR HW.out (by omega) (by omega) (by omega) qEx)
 ·have HW:=Lib.hid (show T=(8,m,0)from by rw[HT2.out,HM.out,if_neg hm0]);have hmb:((m:Int)==0)=false:=by simp;omega
  go_wp2_with (first|(go_at_call 120;refine qmm (aL _ _) ?_)|(go_at_call 121;refine qmm (bn _ _) ?_)|(go_at_call 122;refine qmm (bZ _ _) ?_)|(go_at_call 123;refine qmm (bz _ _) ?_)|(go_at_call 124;refine qmm (aK _ _) ?_)|(go_at_call 126;refine qmm (dr _ _ k rfl _ hlt hl) ?_))
  exact bodyPost_ret (v:=.agg #[.int .i64 m,.int .i64 8,.int .i64 0,.int .i64 0]) (by simp[results,results116,go_sem]) rfl (eR HW.out (by omega) (by omega) qEx)
def uS(c:UInt8):Int:=Lib.indexByte lJ c
theorem yc:∀(l:List UInt8) (c:UInt8),0≤Lib.indexByte l c↔l.contains c=true
 |[],c=>by simp[Lib.indexByte]
 | b::l,c=>by
  have ih:=yc l c;have hg:=Lib.indexByte_ge l c;unfold Lib.indexByte;by_cases h:b=c
  ·simp[h]
  ·have h':¬c=b:=λe=>h e.symm;simp only[beq_iff_eq,h,if_false,List.contains_cons,h',Bool.or_eq_true,false_or];rw[←ih];split<;>omega
theorem lr(c:UInt8):0≤uS c↔lJ.contains c=true:=yc _ _
theorem iM(c:UInt8)(w:World):Calls prog 66 #[.string ⟨#[40,41,91,93,58,44,61,43,45,42,60,63]⟩,.int .u8 (c.toNat:Int)] w λe w'=>e=.returned (.int .i64 (uS c))∧w=w':=by
 refine(yY _ _ w).mono ?_;rintro e w' ⟨rfl,rfl⟩;refine⟨aY ?_,rfl⟩;have :((c.toNat:Int)).toNat.toUInt8=c:=by simp
 rw[this];rfl
set_option maxHeartbeats 4000000 in
theorem EL(l:List UInt8)(w:World)(h0:0<l.length)(q:l.length≤281474976710656):Calls prog 38 #[.string ⟨l.toArray⟩] w λe w'=>e=.returned (.tuple #[.int .i64 ((tokenT l).1:Nat),.int .i64 ((tokenT l).2.1:Nat),.int .i64 ((tokenT l).2.2:Nat)])∧w=w':=by
 obtain⟨c0,Z⟩:∃c,({data:=l.toArray}:ByteArray)[0]'h0=c:=⟨_,rfl⟩;have HC0:=Lib.hid (show l[0]=c0 from Z);have HT:=Lib.hid (pJ h0 HC0.out)
 go_enter func38,ntmps38
 cases ha:aI c0
 ·skip
  have HW:=Lib.hid (show tokenT l=(0,0,1)from by rw[HT.out,if_pos ha])
  go_wp2_with (first|(go_at_call 37;refine qmm (ca _ _) ?_)|(go_at_call 61;refine qmm (aX _ _) ?_)|(go_at_call 63;refine qmm (cJ _ _) ?_)|(go_at_call 62;refine qmm (kG _ _ h0 q) ?_)|(go_at_call 64;refine qmm (gr _ _ q) ?_)|(go_at_call 65;refine qmm (gP _ _ h0 q) ?_)|(go_at_call 66;refine qmm (iM _ _) ?_))
  go_ret3
  exact⟨by rw[HW.out];rfl,rfl⟩
 have HA:=Lib.hid (show¬aI c0=false from by simp[ha]);cases G:aS c0
 rotate_left
 ·skip
  have HW:=Lib.hid (show tokenT l=bv l from by rw[HT.out,if_neg HA.out,if_pos G])
  go_wp2_with (first|(go_at_call 37;refine qmm (ca _ _) ?_)|(go_at_call 61;refine qmm (aX _ _) ?_)|(go_at_call 63;refine qmm (cJ _ _) ?_)|(go_at_call 62;refine qmm (kG _ _ h0 q) ?_)|(go_at_call 64;refine qmm (gr _ _ q) ?_)|(go_at_call 65;refine qmm (gP _ _ h0 q) ?_)|(go_at_call 66;refine qmm (iM _ _) ?_))
  go_ret3
  exact⟨by rw[HW.out];rfl,rfl⟩
 have HL:=Lib.hid (show¬aS c0=true from by simp[G]);cases hd:be c0
 rotate_left
 ·skip
  have HW:=Lib.hid (show tokenT l=(5,dl l)from by rw[HT.out,if_neg HA.out,if_neg HL.out,if_pos hd])
  go_wp2_with (first|(go_at_call 37;refine qmm (ca _ _) ?_)|(go_at_call 61;refine qmm (aX _ _) ?_)|(go_at_call 63;refine qmm (cJ _ _) ?_)|(go_at_call 62;refine qmm (kG _ _ h0 q) ?_)|(go_at_call 64;refine qmm (gr _ _ q) ?_)|(go_at_call 65;refine qmm (gP _ _ h0 q) ?_)|(go_at_call 66;refine qmm (iM _ _) ?_))
  go_ret3
  exact⟨by rw[HW.out];rfl,rfl⟩
 have HD:=Lib.hid (show¬be c0=true from by simp[hd]);cases J:((c0.toNat:Int)==34)
 rotate_left
 ·skip
  have HW:=Lib.hid (show tokenT l=(6,quotedT l.tail 1)from by rw[HT.out,if_neg HA.out,if_neg HL.out,if_neg HD.out,if_pos (cp (m:=34) J)])
  go_wp2_with (first|(go_at_call 37;refine qmm (ca _ _) ?_)|(go_at_call 61;refine qmm (aX _ _) ?_)|(go_at_call 63;refine qmm (cJ _ _) ?_)|(go_at_call 62;refine qmm (kG _ _ h0 q) ?_)|(go_at_call 64;refine qmm (gr _ _ q) ?_)|(go_at_call 65;refine qmm (gP _ _ h0 q) ?_)|(go_at_call 66;refine qmm (iM _ _) ?_))
  go_ret3
  exact⟨by rw[HW.out];rfl,rfl⟩
 have HQ:=Lib.hid (bw (m:=34) J);cases O:((c0.toNat:Int)==61)
 ·skip
  have HE:=Lib.hid (show¬(c0.toNat=61∧1<l.length∧(l.getD 1 0).toNat=61)from λh=>bw (m:=61) O h.1);by_cases E:0≤uS c0
  ·skip
   have HW:=Lib.hid (show tokenT l=(8,1,0)from by rw[HT.out,if_neg HA.out,if_neg HL.out,if_neg HD.out,if_neg HQ.out,if_neg HE.out,if_pos ((lr c0).1 E)])
   go_wp2_with (first|(go_at_call 37;refine qmm (ca _ _) ?_)|(go_at_call 61;refine qmm (aX _ _) ?_)|(go_at_call 63;refine qmm (cJ _ _) ?_)|(go_at_call 62;refine qmm (kG _ _ h0 q) ?_)|(go_at_call 64;refine qmm (gr _ _ q) ?_)|(go_at_call 65;refine qmm (gP _ _ h0 q) ?_)|(go_at_call 66;refine qmm (iM _ _) ?_))
   go_ret3
   exact⟨by rw[HW.out];rfl,rfl⟩
  ·skip
   have HW:=Lib.hid (show tokenT l=(0,0,2)from by rw[HT.out,if_neg HA.out,if_neg HL.out,if_neg HD.out,if_neg HQ.out,if_neg HE.out,if_neg (λh=>E ((lr c0).2 h))])
   go_wp2_with (first|(go_at_call 37;refine qmm (ca _ _) ?_)|(go_at_call 61;refine qmm (aX _ _) ?_)|(go_at_call 63;refine qmm (cJ _ _) ?_)|(go_at_call 62;refine qmm (kG _ _ h0 q) ?_)|(go_at_call 64;refine qmm (gr _ _ q) ?_)|(go_at_call 65;refine qmm (gP _ _ h0 q) ?_)|(go_at_call 66;refine qmm (iM _ _) ?_))
   go_ret3
   exact⟨by rw[HW.out];rfl,rfl⟩
 by_cases h1:1<l.length
 rotate_left
 ·skip
  have HE:=Lib.hid (show¬(c0.toNat=61∧1<l.length∧(l.getD 1 0).toNat=61)from λh=>h1 h.2.1);by_cases E:0≤uS c0
  ·skip
   have HW:=Lib.hid (show tokenT l=(8,1,0)from by rw[HT.out,if_neg HA.out,if_neg HL.out,if_neg HD.out,if_neg HQ.out,if_neg HE.out,if_pos ((lr c0).1 E)])
   go_wp2_with (first|(go_at_call 37;refine qmm (ca _ _) ?_)|(go_at_call 61;refine qmm (aX _ _) ?_)|(go_at_call 63;refine qmm (cJ _ _) ?_)|(go_at_call 62;refine qmm (kG _ _ h0 q) ?_)|(go_at_call 64;refine qmm (gr _ _ q) ?_)|(go_at_call 65;refine qmm (gP _ _ h0 q) ?_)|(go_at_call 66;refine qmm (iM _ _) ?_))
   go_ret3
   exact⟨by rw[HW.out];rfl,rfl⟩
  ·skip
   have HW:=Lib.hid (show tokenT l=(0,0,2)from by rw[HT.out,if_neg HA.out,if_neg HL.out,if_neg HD.out,if_neg HQ.out,if_neg HE.out,if_neg (λh=>E ((lr c0).2 h))])
   go_wp2_with (first|(go_at_call 37;refine qmm (ca _ _) ?_)|(go_at_call 61;refine qmm (aX _ _) ?_)|(go_at_call 63;refine qmm (cJ _ _) ?_)|(go_at_call 62;refine qmm (kG _ _ h0 q) ?_)|(go_at_call 64;refine qmm (gr _ _ q) ?_)|(go_at_call 65;refine qmm (gP _ _ h0 q) ?_)|(go_at_call 66;refine qmm (iM _ _) ?_))
   go_ret3
   exact⟨by rw[HW.out];rfl,rfl⟩
 obtain⟨c1,hc1⟩:∃c,({data:=l.toArray}:ByteArray)[1]'h1=c:=⟨_,rfl⟩;have HC1:=Lib.hid (show l[1]=c1 from hc1);cases U:((c1.toNat:Int)==61)
 ·skip
  have HE:=Lib.hid (show¬(c0.toNat=61∧1<l.length∧(l.getD 1 0).toNat=61)from λh=>bw (m:=61) U (by rw[←az h1 HC1.out];exact h.2.2));by_cases E:0≤uS c0
  ·skip
   have HW:=Lib.hid (show tokenT l=(8,1,0)from by rw[HT.out,if_neg HA.out,if_neg HL.out,if_neg HD.out,if_neg HQ.out,if_neg HE.out,if_pos ((lr c0).1 E)])
   go_wp2_with (first|(go_at_call 37;refine qmm (ca _ _) ?_)|(go_at_call 61;refine qmm (aX _ _) ?_)|(go_at_call 63;refine qmm (cJ _ _) ?_)|(go_at_call 62;refine qmm (kG _ _ h0 q) ?_)|(go_at_call 64;refine qmm (gr _ _ q) ?_)|(go_at_call 65;refine qmm (gP _ _ h0 q) ?_)|(go_at_call 66;refine qmm (iM _ _) ?_))
   go_ret3
   exact⟨by rw[HW.out];rfl,rfl⟩
  ·skip
   have HW:=Lib.hid (show tokenT l=(0,0,2)from by rw[HT.out,if_neg HA.out,if_neg HL.out,if_neg HD.out,if_neg HQ.out,if_neg HE.out,if_neg (λh=>E ((lr c0).2 h))])
   go_wp2_with (first|(go_at_call 37;refine qmm (ca _ _) ?_)|(go_at_call 61;refine qmm (aX _ _) ?_)|(go_at_call 63;refine qmm (cJ _ _) ?_)|(go_at_call 62;refine qmm (kG _ _ h0 q) ?_)|(go_at_call 64;refine qmm (gr _ _ q) ?_)|(go_at_call 65;refine qmm (gP _ _ h0 q) ?_)|(go_at_call 66;refine qmm (iM _ _) ?_))
   go_ret3
   exact⟨by rw[HW.out];rfl,rfl⟩
 ·skip
  have HW:=Lib.hid (show tokenT l=(8,2,0)from by rw[HT.out,if_neg HA.out,if_neg HL.out,if_neg HD.out,if_neg HQ.out,if_pos ⟨cp (m:=61) O,h1,by rw[az h1 HC1.out];exact cp (m:=61) U⟩])
  go_wp2_with (first|(go_at_call 37;refine qmm (ca _ _) ?_)|(go_at_call 61;refine qmm (aX _ _) ?_)|(go_at_call 63;refine qmm (cJ _ _) ?_)|(go_at_call 62;refine qmm (kG _ _ h0 q) ?_)|(go_at_call 64;refine qmm (gr _ _ q) ?_)|(go_at_call 65;refine qmm (gP _ _ h0 q) ?_)|(go_at_call 66;refine qmm (iM _ _) ?_))
  go_ret3
  exact⟨by rw[HW.out];rfl,rfl⟩
def cQ(l:List TokZ):List Value:=l.flatMap λt=>[.int .i64 t.kind,.string ⟨t.lead.toArray⟩,.string ⟨t.text.toArray⟩]
def oc(w:World)(v:Value)(l:List TokZ):Prop:=∃A c,v=.slice A l.length c∧l.length≤c∧c≤maxLen∧Row w 3 A l.length (cQ l)
def ScanPost(l:List UInt8)(w:World)(e:Ending)(w':World):Prop:=
 ∃v,e=.returned (.tuple #[v,.string ⟨(fw l).tail.toArray⟩,.int .i64 ((fw l).place:Nat),.int .i64 ((fw l).err:Nat)])∧oc w' v (fw l).toks∧Ext w w'
theorem Di:(prog.info? 61).map (λi=>(i.zero,i.size,i.bytes))=some (some (.agg #[.int .i64 0,.string ByteArray.empty,.string ByteArray.empty]),3,40):=by kernel_rfl
theorem ue(l:List TokZ)(t:TokZ):cQ (l++[t])=cQ l++[.int .i64 t.kind,.string ⟨t.lead.toArray⟩,.string ⟨t.text.toArray⟩]:=by simp[cQ]
variable{v:Value}
theorem Ar{w:World}{base:Nat}{l:List TokZ}(h:w.ownsRow base 61 3 v l.length (cQ l)):oc w v l:=by
 obtain⟨A,c,rfl,q,E⟩:=tY h;exact⟨A,c,rfl,q,E,Row.of_own h⟩
theorem oR(w:World):oc w (.slice none 0 0) []:=⟨none,0,rfl,Nat.le_refl _,Nat.zero_le _,Row.none_⟩
variable{l:List UInt8}
theorem wG{w:World}{r:Scanned}{tail:List UInt8}{p e:Int}(h:fw l=r)(ht:r.tail=tail)(q:(r.place:Int)=p)(E:(r.err:Int)=e)(hr:oc w' v r.toks)(hx:Ext w w'):
  ScanPost l w (.returned (.tuple #[v,.string ⟨tail.toArray⟩,.int .i64 p,.int .i64 e])) w':=by
 subst h;subst ht;subst q;subst E;exact⟨v,rfl,hr,hx⟩
variable{m:Nat}
theorem neI(h:((n:Int)!=(m:Int))=false):n=m:=by simp at h;omega
theorem neT(h:((n:Int)!=(m:Int))=true):¬n=m:=by simp at h;omega
def rg(k:Nat):Option Nat→Int
 |none=>-1
 |some p=>((k+p:Nat):Int)
def rb(l:List UInt8)(k:Nat)(w:World)(e:Ending)(w':World):Prop:=
 e=.returned (.tuple #[.int .i64 ((aC false (l.drop k) 0).1:Nat),.int .i64 (rg k (aC false (l.drop k) 0).2)])∧w=w'
theorem tp{b:Option Nat}{w:World}{x y:Int}(h:aC false (l.drop k) 0=(n,b))(hx:x=n)(hy:y=rg k b):rb l k w (.returned (.tuple #[.int .i64 x,.int .i64 y])) w:=by
 subst hx;subst hy;unfold rb;rw[h];exact⟨rfl,rfl⟩
set_option maxHeartbeats 2000000 in
theorem CB(l:List UInt8)(x:Int)(k:Nat)(hxk:x=k)(w:World)(hk:k≤l.length)(hl:l.length≤281474976710656):Calls prog 112 #[.string ⟨l.toArray⟩,.int .i64 x] w (rb l k w):=by
 subst hxk
 go_enter func112,ntmps112
 go_wp2_with (first|(go_at_call 115;refine qmm (gy _ _) ?_)|(go_at_call 120;refine qmm (aL _ _) ?_))
 go_loopg [6] (l.length-k) (λg n wx=>∃i:Nat,g=l.length-i∧wx=w∧k≤i∧i≤l.length∧n=.int .i64 i∧Hid (aC false (l.drop k) 0=aC false (l.drop i) (i-k)))
 case atStart=>exact⟨k,rfl,rfl,Nat.le_refl _,hk,rfl,Lib.hid (by congr 1;omega)⟩
 case round=>
  obtain⟨i,rfl,rfl,hki,hil,rfl,HL⟩:=hrel;by_cases hit:i<l.length
  rotate_left
  ·go_wp2_with (first|(go_at_call 115;refine qmm (gy _ _) ?_)|(go_at_call 120;refine qmm (aL _ _) ?_))
   go_ret2
   exact tp (n:=i-k) (b:=none) (by rw[HL.out,pF _ (by omega)]) (by omega) rfl
  obtain⟨c,hc⟩:∃c,({data:=l.toArray}:ByteArray)[i]'hit=c:=⟨_,rfl⟩;have HC:=Lib.hid (show l[i]=c from hc);cases hw:bu c
  rotate_left
  ·go_wp2_with (first|(go_at_call 115;refine qmm (gy _ _) ?_)|(go_at_call 120;refine qmm (aL _ _) ?_))
   go_roundg (l.length-(i+1))
   case measure=>omega
   case rel=>exact⟨i+1,rfl,rfl,by omega,by omega,by go_num,Lib.hid (by rw[HL.out,ww hit HC.out hw];congr 1;omega)⟩
  cases h35:((c.toNat:Int)==35)
  ·go_wp2_with (first|(go_at_call 115;refine qmm (gy _ _) ?_)|(go_at_call 120;refine qmm (aL _ _) ?_))
   go_ret2
   exact tp (n:=i-k) (b:=none) (by rw[HL.out,wP hit HC.out hw (bw (m:=35) h35)]) (by omega) rfl
  have HL2:=Lib.hid (HL.out.trans (yS (n:=i-k) hit HC.out (cp (m:=35) h35)));have HCI:=Lib.hid (cp (m:=35) h35)
  go_wp2_with (first|(go_at_call 115;refine qmm (gy _ _) ?_)|(go_at_call 120;refine qmm (aL _ _) ?_))
  clear HL;obtain⟨wo,rfl⟩:∃wo:World,wo=wr:=⟨_,rfl⟩
  go_loopg [6] (l.length-i) (λg n wx=>∃j:Nat,g=l.length-j∧wx=wo∧i≤j∧j≤l.length∧n=.int .i64 j∧Hid (aC false (l.drop k) 0=aC true (l.drop j) (j-k)))
  case atStart=>exact⟨i,rfl,rfl,Nat.le_refl _,by omega,rfl,HL2⟩
  case round=>
   obtain⟨j,rfl,rfl,hij,hjl,rfl,HL3⟩:=hrel;by_cases hjt:j<l.length
   rotate_left
   ·go_wp2_with (first|(go_at_call 115;refine qmm (gy _ _) ?_)|(go_at_call 120;refine qmm (aL _ _) ?_))
    go_roundg (l.length-j)
    case measure=>omega
    case rel=>exact⟨j,rfl,rfl,by omega,by omega,rfl,Lib.hid (by rw[HL3.out,pF _ (by omega),pF _ (by omega)])⟩
   obtain⟨d,hd⟩:∃c,({data:=l.toArray}:ByteArray)[j]'hjt=c:=⟨_,rfl⟩;have HD:=Lib.hid (show l[j]=d from hd);cases h10:((d.toNat:Int)!=10)
   ·have hne:i<j:=by
     rcases Nat.lt_or_ge i j with h|h
     ·exact h
     ·have :i=j:=by omega
      subst this;have h2:=HCI.out;have h3:c=d:=by rw[←HC.out,←HD.out]
      subst h3;simp[h2]at h10
    go_wp2_with (first|(go_at_call 115;refine qmm (gy _ _) ?_)|(go_at_call 120;refine qmm (aL _ _) ?_))
    go_roundg (l.length-j)
    case measure=>omega
    case rel=>exact⟨j,rfl,rfl,by omega,by omega,rfl,Lib.hid (by rw[HL3.out,yQ hjt HD.out (neI (m:=10) h10)])⟩
   cases ha:aI d
   ·go_wp2_with (first|(go_at_call 115;refine qmm (gy _ _) ?_)|(go_at_call 120;refine qmm (aL _ _) ?_))
    go_ret2
    exact tp (n:=j-k) (b:=some (j-k)) (by rw[HL3.out,As hjt HD.out (neT (m:=10) h10) ha]) (by omega) (by simp[rg];omega)
   ·go_wp2_with (first|(go_at_call 115;refine qmm (gy _ _) ?_)|(go_at_call 120;refine qmm (aL _ _) ?_))
    go_roundg (l.length-(j+1))
    case measure=>omega
    case rel=>exact⟨j+1,rfl,rfl,by omega,by omega,by go_num,Lib.hid (by rw[HL3.out,Ct hjt HD.out (neT (m:=10) h10) ha];congr 1;omega)⟩
theorem lB:∀(b:Bool) (l:List UInt8) (n:Nat),(aC b l n).1≤n+l.length
 |_,[],n=>by simp[aC]
 | false,c::r,n=>by
  have h1:=lB false r (n+1);have h2:=lB true r (n+1);unfold aC;simp only[List.length_cons];split
  ·omega
  ·split
   ·omega
   ·simp
 | true,c::r,n=>by
  have h1:=lB false r (n+1);have h2:=lB true r (n+1);unfold aC;simp only[List.length_cons];split
  ·omega
  ·split
   ·simp
   ·omega
def Bq (l:List UInt8) (w:World) (Rs:Scanned) (g:Nat) (s6 s7:Value) (wx:World):Prop:=
  ∃ (p F:Nat) (acc:List TokZ),p≤l.length∧g=l.length-p∧s7=.int .i64 p∧acc.length≤p∧l.length-p<F∧
    scanT F (l.drop p) p acc=Rs∧wx.ownsRow w.heap.size 61 3 s6 acc.length (cQ acc)∧Ext w wx
def ScanPost0(Rs:Scanned)(w:World)(e:Ending)(w':World):Prop:=
 ∃v,e=.returned (.tuple #[v,.string ⟨Rs.tail.toArray⟩,.int .i64 (Rs.place:Nat),.int .i64 (Rs.err:Nat)])∧oc w' v Rs.toks∧Ext w w'
theorem mR{Rs:Scanned}{w:World}{r:Scanned}{tail:List UInt8}{p e:Int}(h:Rs=r)(ht:r.tail=tail)(q:(r.place:Int)=p)(E:(r.err:Int)=e)(hr:oc w' v r.toks)(hx:Ext w w'):
  ScanPost0 Rs w (.returned (.tuple #[v,.string ⟨tail.toArray⟩,.int .i64 p,.int .i64 e])) w':=by
 subst h;subst ht;subst q;subst E;exact⟨v,rfl,hr,hx⟩
set_option maxHeartbeats 4000000 in
theorem Fa(l:List UInt8)(w:World)(hl:l.length≤4096):Calls prog 117 #[.string ⟨l.toArray⟩] w (ScanPost0 (scanT (l.length+1) l 0 []) w):=by
 obtain⟨Rs,hR⟩:∃Rs,scanT (l.length+1) l 0 []=Rs:=⟨_,rfl⟩;rw[hR];have H0:=Lib.hid (show scanT (l.length+1) (l.drop 0) 0 []=Rs from by rw[←hR];simp);clear hR;have hx:=rJ;have hx2:=mg
 go_enter func117,ntmps117
 go_wp2_with fail
 go_loopg [6,7] l.length (λg s6 s7 wx=>Bq l w Rs g s6 s7 wx)
 case atStart=>exact⟨0,l.length+1,[],Nat.zero_le _,by omega,rfl,Nat.le_refl _,by omega,H0.out,World.ownsRow_nil _ _ _ _,Ext.refl _⟩
 case round=>
  obtain⟨p,F,acc,hpl,rfl,rfl,hacc,hF,hscan,hown,hext⟩:=hrel;have HSc:=Lib.hid hscan;clear hscan;have HO:=Lib.hid hown;clear hown;have HE:=Lib.hid hext;clear hext;obtain⟨F',rfl⟩:∃F',F=F'+1:=⟨F-1,by omega⟩;obtain⟨n,b,hLd⟩:∃n b,aC false (l.drop p) 0=(n,b):=⟨_,_,rfl⟩;have hnl:p+n≤l.length:=by have h:=lB false (l.drop p) 0;rw[hLd]at h;simp at h;omega
  have HLd:=Lib.hid hLd;clear hLd
  go_wp2_with fail
  refine(CB _ _ p rfl _ hpl (by omega)).mono ?_;rintro e w' ⟨rfl,rfl⟩;rw[HLd.out];cases b with
  |some q=>
   have hq:(0:Int)≤((p+q:Nat):Int):=by omega
   have hq2:rg p (some q)=((p+q:Nat):Int):=rfl;rw[hq2];generalize hz:((p+q:Nat):Int)=z at *;have HZ:=Lib.hid hz;clear hz hq2
   go_wp2
   exact bodyPost_ret (v:=.tuple #[.slice none 0 0,.string ⟨([]:List UInt8).toArray⟩,.int .i64 z,.int .i64 1]) (by simp[results,results117,go_sem]) rfl (mR (r:=⟨[],[],p+q,1⟩) (HSc.out.symm.trans (AP HLd.out)) rfl (by rw[HZ.out]) rfl (oR _) HE.out)
  | none=>
   have hq2:rg p none=-1:=rfl;rw[hq2];clear hq2;obtain⟨E,hE⟩:∃E,p+n=E:=⟨_,rfl⟩;have hE1:(p:Int)+n=(E:Nat):=by omega
   have hE2:E-p=n:=by omega
   have HEE:=Lib.hid hE;have hpE:p≤E:=by omega
   have hEl:E≤l.length:=by omega
   clear hE hnl;by_cases hend:E=l.length
   ·have hendb:((E:Int)==(l.length:Int))=true:=by simp;omega
    have hb0:(0:Int)≤(p:Int):=by omega
    have hb1:(p:Int)≤(l.length:Int):=by omega
    have HEnd:=Lib.hid hend;clear hend
    go_wp2
    go_quiet (fail)
    go_wp2
    exact bodyPost_ret (v:=.tuple #[u6,.string ⟨(l.drop p).toArray⟩,.int .i64 0,.int .i64 0]) (by simp[results,results117,go_sem]) rfl (mR (r:=⟨acc,l.drop p,0,0⟩) (HSc.out.symm.trans (zZ HLd.out (by have :=HEnd.out;have :=HEE.out;simp;omega))) rfl rfl rfl (Ar HO.out) (Ext.drewN HE.out _))
   ·have hEt:E<l.length:=by omega
    have hendb:((E:Int)==(l.length:Int))=false:=by simp;omega
    clear hend;obtain⟨kd,m,e,hT⟩:∃kd m e,tokenT (l.drop E)=(kd,m,e):=⟨_,_,_,rfl⟩;have hlen:=yl (l:=l.drop E) (by simp;omega);rw[hT]at hlen;simp only[List.length_drop]at hlen;obtain⟨hm1,hm2⟩:=hlen;have HM:=Lib.hid hm2;clear hm2;have HT:=Lib.hid hT;clear hT;have HDp:=Lib.hid (show(l.drop p).drop n=l.drop E from by rw[List.drop_drop,HEE.out]);have CN:=Lib.hid (λw=>CL l (E:Nat) E rfl w hEt (by omega));have HnE:=Lib.hid (show¬n=(l.drop p).length from by have :=HEE.out;simp;omega)
    go_wp2_with fail
    refine(CN.out _).mono ?_;rintro e0 w1 ⟨rfl,hext1⟩;rw[HT.out];by_cases he:e=0
    rotate_left
    ·have HI:=Lib.hid (show jU E (kd,m,e)=.agg #[.int .i64 0,.int .i64 0,.int .i64 e,.int .i64 ((E+m:Nat):Int)]from by simp[jU,he]);rw[HI.out];have heb:((e:Int)!=0)=true:=by simp;omega
     have HX1:=Lib.hid (HE.out.trans hext1);clear hext1;generalize hz:((E+m:Nat):Int)=z at *;have HZ:=Lib.hid hz;clear hz;clear HI
     go_wp2
     go_quiet (fail)
     go_wp2
     exact bodyPost_ret (v:=.tuple #[.slice none 0 0,.string ⟨([]:List UInt8).toArray⟩,.int .i64 z,.int .i64 e]) (by simp[results,results117,go_sem]) rfl (mR (r:=⟨[],[],p+n+m,e⟩) (HSc.out.symm.trans (Az HLd.out HnE.out (by rw[HDp.out];exact HT.out) he)) rfl (by rw[←HZ.out];have :=HEE.out;simp;omega) rfl (oR _) (Ext.drewN (HX1.out.alloc _) _))
    ·subst he;have HI:=Lib.hid (show jU E (kd,m,0)=.agg #[.int .i64 m,.int .i64 kd,.int .i64 0,.int .i64 0]from by simp[jU]);rw[HI.out];have hmp:0<m:=HM.out rfl;have hown:=DM HO.out hext1;have hx1:=hext1.size;have hsz:=HE.out.size;have HX1:=Lib.hid (HE.out.trans hext1);have hne:∀k,u6.ownBlock=some k→k<wr.heap.size:=λk hk=>(HO.out.lt k hk).2;have hneB:u6.ownBlock≠some w1.heap.size:=λh=>by have :=hne _ h;omega
     clear hext1 HI CN HM
     go_wp2
     obtain⟨W2,hW2⟩:∃W2,w1.alloc (.cells #[.int .i64 m,.int .i64 kd,.int .i64 0,.int .i64 0] 125)=W2:=⟨_,rfl⟩;rw[hW2];have hc0:W2.cell? ⟨w1.heap.size,0,none⟩=some (.int .i64 m):=by rw[←hW2];simp
     have hc1:W2.cell? ⟨w1.heap.size,1,none⟩=some (.int .i64 kd):=by rw[←hW2];simp
     have hown2:W2.ownsRow w.heap.size 61 3 u6 acc.length (cQ acc):=by rw[←hW2];exact hown.alloc _
     have hBW:w1.heap.size<W2.heap.size:=by rw[←hW2];simp
     have HX2:=Lib.hid (show Ext w W2 from by rw[←hW2];exact HX1.out.alloc _);obtain⟨B,hB⟩:∃B,w1.heap.size=B:=⟨_,rfl⟩;have hwB:w.heap.size≤B:=by omega
     rw[hB]at hc0 hc1 hBW hneB;rw[hB];clear hW2 hB hown hne hx1 hsz HX1 HE HO;have hb0:(0:Int)≤(p:Int):=by omega
     have hb1:(p:Int)≤(E:Int):=by omega
     have hb2:(E:Int)≤(l.length:Int):=by omega
     have hb3:(E:Int)+m≤(l.length:Int):=by omega
     have hb4:(E:Int)≤(E:Int)+m:=by omega
     have hwr0:IntKind.i64.wrap (E:Int)=(E:Int):=IntWalk.i64_in _ (by omega);have hwr:IntKind.i64.wrap ((E:Int)+m)=(E:Int)+m:=IntWalk.i64_in _ (by omega);have hb5:(0:Int)≤(E:Int)+m:=by omega
     have hb6:((E:Int)+m).toNat=E+m:=by omega
     have hsz2:(acc.length+1)*40≤140737488355328:=by omega
     have hsz3:acc.length+1≤maxLen:=by unfold maxLen;omega
     have hbs:w.heap.size≤W2.heap.size:=by omega
     obtain⟨i0,hi0,hz0,hz1,hz2⟩:=wy Di
     go_region_held3 (λw'=>w'.cell? ⟨B,0,none⟩=some (.int .i64 m)∧w'.cell? ⟨B,1,none⟩=some (.int .i64 kd))
      (first|go_keep|(go_split_ands;refine⟨?_,?_⟩<;>(rw[hgrow.cell_far _ (by simp;omega) (Ne.symm hneB)];simp[*])))
      ((refine step_append_lies _ (by rfl) _ _ _ (by rfl) w.heap.size 61 i0 _ 3 40 underlying54 hi0 hz0 hz1 hz2 rfl (by omega) u6 acc.length (cQ acc) (by rfl) ((hown2.alloc _).drew) ⟨W2.heap.size,0,none⟩ 1 1 [.int .i64 kd,.string ⟨((l.drop p).take n).toArray⟩,.string ⟨((l.drop E).take m).toArray⟩] (by rfl) (by rfl) (World.news_of_block (cs:=#[.int .i64 kd,.string ⟨((l.drop p).take n).toArray⟩,.string ⟨((l.drop E).take m).toArray⟩]) (t:=61) (fr:=(0,0)) (heap_alloc_new W2 _)) (by simp[Value.oneCell']) (by omega) hsz3 hsz2 (by simp;omega) (W2.heap.size+1) (by simp) ?_;intro gg cap w3 hown3 hgrow hat hlt3))
     have hc03:w3.cell? ⟨B,0,none⟩=some (.int .i64 m):=by rename_i hh;exact hh.1
     have HX:=Lib.hid (((HX2.out.alloc _).drew).grown hgrow (λk hk=>(hown2.lt k hk).1));have HO1:=Lib.hid (show w3.ownsRow w.heap.size 61 3 (.slice (some ⟨gg,0,none⟩) (acc.length+1) cap) (acc++[TokZ.mk kd ((l.drop p).take n) ((l.drop E).take m)]).length (cQ (acc++[TokZ.mk kd ((l.drop p).take n) ((l.drop E).take m)]))from by
      rw[ue,List.length_append];exact hown3)
     clear hown3 hgrow hat hown2 hsz2 hsz3 hi0 hz0 hz1 hz2 hwr hwr0 hb6 hc0 hc1
     go_wp2
     go_roundg (l.length-(E+m))
     case measure=>omega
     case rel=>
      refine⟨E+m,F',acc++[TokZ.mk kd ((l.drop p).take n) ((l.drop E).take m)],by omega,rfl,by go_num,by simp;omega,by omega,?_,HO1.out,HX.out⟩;rw[←HSc.out,AM HLd.out HnE.out (by rw[HDp.out];exact HT.out),HDp.out,List.drop_drop,←HEE.out]
      congr 2<;>omega
theorem Gb(l:List UInt8)(w:World)(Z:l.length≤281474976710656):Calls prog 103 #[.string ⟨l.toArray⟩] w (ScanPost l w):=by
 by_cases U:4096<l.length
 ·have HS:=Lib.hid (show fw l=⟨[],[],4096,3⟩from by simp[fw,U])
  go_enter func103,ntmps103
  go_wp2
  exact bodyPost_ret (v:=.tuple #[.slice none 0 0,.string ⟨([]:List UInt8).toArray⟩,.int .i64 4096,.int .i64 3]) (by simp[results,results103,go_sem]) rfl (wG HS.out rfl rfl rfl (oR _) (Ext.refl _))
 ·have HS:=Lib.hid (show fw l=scanT (l.length+1) l 0 []from by simp[fw,U])
  go_enter func103,ntmps103
  go_wp2_with fail
  refine(Fa _ _ (by omega)).mono ?_;rintro e w' ⟨v,rfl,J,q⟩;obtain⟨A,c,rfl,G,O,E⟩:=J;have HR:=Lib.hid E;clear E;have HX:=Lib.hid q;clear q;rw[←HS.out]at HR G⊢
  go_wp2
  exact bodyPost_ret (v:=.tuple #[.slice A (fw l).toks.length c,.string ⟨(fw l).tail.toArray⟩,.int .i64 ((fw l).place:Nat),.int .i64 ((fw l).err:Nat)]) (by simp[results,results103,go_sem]) rfl ⟨_,rfl,⟨A,c,rfl,G,O,HR.out⟩,HX.out⟩
theorem qQ:∀(l:List TokZ) (k:Nat) (h:k<l.length),(cQ l)[k*3]?=some (.int .i64 l[k].kind)∧(cQ l)[k*3+1]?=some (.string ⟨l[k].lead.toArray⟩)∧(cQ l)[k*3+2]?=some (.string ⟨l[k].text.toArray⟩)
 |t::l,0,_=>⟨rfl,rfl,rfl⟩
 | t::l,k+1,h=>by
  have ih:=qQ l k (by simpa using h);have e:cQ (t::l)=[.int .i64 t.kind,.string ⟨t.lead.toArray⟩,.string ⟨t.text.toArray⟩]++cQ l:=rfl;rw[e];refine⟨?_,?_,?_⟩
  ·rw[List.getElem?_append_right (by simp;omega)];simpa[Nat.succ_mul]using ih.1
  ·rw[List.getElem?_append_right (by simp;omega)];have :(k+1)*3+1-3=k*3+1:=by omega
   simpa[this]using ih.2.1
  ·rw[List.getElem?_append_right (by simp;omega)];have :(k+1)*3+2-3=k*3+2:=by omega
   simpa[this]using ih.2.2
theorem ub{w:World}{A:Option Addr}{l:List TokZ}(h:Row w 3 A l.length (cQ l))(E:k<l.length):
  ∃b off,A=some ⟨b,off,none⟩∧b<w.heap.size∧w.cell? ⟨b,off+k*3,none⟩=some (.int .i64 l[k].kind)∧w.cell? ⟨b,off+k*3+1,none⟩=some (.string ⟨l[k].lead.toArray⟩)∧w.cell? ⟨b,off+k*3+2,none⟩=some (.string ⟨l[k].text.toArray⟩):=by
 obtain⟨b,off,rfl,G,q⟩:=h.2 (by omega);obtain⟨J,h1,h2⟩:=qQ l k E;refine⟨b,off,rfl,G,?_,?_,?_⟩
 ·rw[q _ (by omega),J]
 ·rw[Nat.add_assoc,q _ (by omega),h1]
 ·rw[Nat.add_assoc,q _ (by omega),h2]
set_option maxHeartbeats 1000000 in
theorem Fg(l:List UInt8)(w:World)(Z:l.length≤281474976710656):Calls prog 82 #[.string ⟨l.toArray⟩] w λe w'=>e=.returned (.int .i64 (bq l:Nat))∧w=w':=by
 by_cases q:l=[]
 ·subst q
  go_enter func82,ntmps82
  go_wp2
  go_ret
  exact⟨rfl,rfl⟩
 ·have hb1:(l==[])=false:=by simpa using q
  have hb2:l.isEmpty=false:=by simpa using q
  have E:0<l.length:=List.length_pos_iff.2 q;obtain⟨k,n,e,J⟩:∃k n e,tokenT l=(k,n,e):=⟨_,_,_,rfl⟩;have HT:=Lib.hid J;have HC:=Lib.hid (show bq l=if e=0∧n=l.length then k else 0 from by simp only[bq,if_neg q,J]);clear J q
  go_enter func82,ntmps82
  go_wp2_with fail
  refine(EL _ _ E Z).mono ?_;rintro e0 w' ⟨rfl,rfl⟩;rw[HT.out];by_cases U:e=0
  ·subst U;by_cases G:n=l.length
   ·have O:((n:Int)!=(l.length:Int))=false:=by simp;omega
    have HR:=Lib.hid (HC.out.trans (if_pos ⟨rfl,G⟩));clear G
    go_wp2
    go_ret
    exact⟨aY (by rw[HR.out]),rfl⟩
   ·have O:((n:Int)!=(l.length:Int))=true:=by simp;omega
    have HR:=Lib.hid (HC.out.trans (if_neg (λh=>G h.2)));clear G
    go_wp2
    go_ret
    exact⟨aY (by rw[HR.out];rfl),rfl⟩
  ·have heb:((e:Int)!=0)=true:=by simp;omega
   have HR:=Lib.hid (HC.out.trans (if_neg (λh=>U h.1)))
   go_wp2
   go_ret
   exact⟨aY (by rw[HR.out];rfl),rfl⟩
theorem pN{c:UInt8}(q:0<l.length)(E:l[0]=c)(h:bu c=true∨c.toNat=35):tokenT l=(0,0,2):=by
 have hv:c.toNat=9∨c.toNat=10∨c.toNat=13∨c.toNat=32∨c.toNat=35:=by
  rcases h with h|h
  ·simp[bu]at h;omega
  ·omega
 have G:aI c=true:=by
  rcases hv with h|h|h|h|h<;>simp[aI,bu,cP,h]
 have J:lJ.contains c=false:=by
  have h:∀n:UInt8,(c==n)=(c.toNat==n.toNat):=λn=>by rw[Bool.eq_iff_iff];simp[UInt8.toNat_inj]
  simp only[lJ,List.contains_cons,List.contains_nil,Bool.or_false,h];rcases hv with h|h|h|h|h<;>rw[h]<;>rfl
 rw[pJ q E,if_neg (by simp[G]),if_neg (by simp[aS,bJ,upperB];omega),if_neg (by simp[be];omega),if_neg (by omega),if_neg (by omega),if_neg (by rw[J];simp)]
set_option maxHeartbeats 1000000 in
theorem wv(l:List UInt8)(w:World)(hl:l.length≤281474976710656):Calls prog 102 #[.string ⟨l.toArray⟩] w λe w'=>e=.returned (.int .i64 (bq l:Nat))∧Ext w w':=by
 by_cases E:l=[]
 ·subst E
  go_enter func102,ntmps102
  go_wp2
  go_ret
  exact⟨rfl,Ext.refl _⟩
 ·have hb1:(l==[])=false:=by simpa using E
  have hb2:l.isEmpty=false:=by simpa using E
  have hpos:0<l.length:=List.length_pos_iff.2 E;obtain⟨k,n,e,O⟩:∃k n e,tokenT l=(k,n,e):=⟨_,_,_,rfl⟩;have HT:=Lib.hid O;have HC:=Lib.hid (show bq l=if e=0∧n=l.length then k else 0 from by simp only[bq,if_neg E,O]);clear O E;obtain⟨c,hc⟩:∃c,({data:=l.toArray}:ByteArray)[0]'hpos=c:=⟨_,rfl⟩;have HC0:=Lib.hid (show l[0]=c from hc);cases hw:bu c
  rotate_left
  ·have G:(k,n,e)=(0,0,2):=HT.out.symm.trans (pN hpos HC0.out (.inl hw));have HR:=Lib.hid (show bq l=0 from by simp only[Prod.mk.injEq]at G;rw[HC.out,if_neg (by omega)]);clear G
   go_enter func102,ntmps102
   go_wp2_with (first|(go_at_call 115;refine qmm (gy _ _) ?_))
   go_ret
   exact⟨aY (by rw[HR.out];rfl),Ext.refl _⟩
  cases U:((c.toNat:Int)==35)
  rotate_left
  ·have G:(k,n,e)=(0,0,2):=HT.out.symm.trans (pN hpos HC0.out (.inr (cp (m:=35) U)));have HR:=Lib.hid (show bq l=0 from by simp only[Prod.mk.injEq]at G;rw[HC.out,if_neg (by omega)]);clear G
   go_enter func102,ntmps102
   go_wp2_with (first|(go_at_call 115;refine qmm (gy _ _) ?_))
   go_ret
   exact⟨aY (by rw[HR.out];rfl),Ext.refl _⟩
  have CN:=Lib.hid (λw=>CL l 0 0 rfl w hpos hl)
  go_enter func102,ntmps102
  go_wp2_with (first|(go_at_call 115;refine qmm (gy _ _) ?_))
  refine(CN.out _).mono ?_;rintro e0 w1 ⟨rfl,q⟩;rw[List.drop_zero,HT.out];have HX:=Lib.hid q;clear q CN;by_cases Z:e=0
  ·subst Z;have HI:=Lib.hid (show jU 0 (k,n,0)=.agg #[.int .i64 n,.int .i64 k,.int .i64 0,.int .i64 0]from by simp[jU]);rw[HI.out];clear HI;by_cases J:n=l.length
   ·have hnb:((n:Int)!=(l.length:Int))=false:=by simp;omega
    have HR:=Lib.hid (HC.out.trans (if_pos ⟨rfl,J⟩));clear J
    go_wp2
    go_ret
    exact⟨aY (by rw[HR.out]),HX.out.alloc _⟩
   ·have hnb:((n:Int)!=(l.length:Int))=true:=by simp;omega
    have HR:=Lib.hid (HC.out.trans (if_neg (λh=>J h.2)));clear J
    go_wp2
    go_ret
    exact⟨aY (by rw[HR.out];rfl),HX.out.alloc _⟩
  ·have HI:=Lib.hid (show jU 0 (k,n,e)=.agg #[.int .i64 0,.int .i64 0,.int .i64 e,.int .i64 ((0+n:Nat):Int)]from by simp[jU,Z]);rw[HI.out];clear HI;have heb:((e:Int)!=0)=true:=by simp;omega
   have HR:=Lib.hid (HC.out.trans (if_neg (λh=>Z h.1)))
   go_wp2
   go_ret
   exact⟨aY (by rw[HR.out];rfl),HX.out.alloc _⟩
open Go.RowKit Lx Sx
variable{fid:FuncId}
theorem sum0_calls{us:List V}{v:V}(q:pureL us=true)(E:v.pure=true)(h:∀(S:Nat→Prop) w ρ xs,LRel S w ρ us xs→Calls prog fid xs.toArray w λe w'=>∃x,e=.returned x∧VRel S w' ρ v x∧Chg [] w w'):nJ prog fid us v:=
 ⟨q,E,λS w ρ xs hr hx=>(h S w ρ xs hx).mono λe w' ⟨x,h1,h2,G⟩=>
  ⟨x,S,ρ,v,_,h1,rfl,hr.chg0 G,⟨ChgP.of0 G,λ_ h=>h,λ_ h=>.inl h,λid b J=>.inl ⟨id,J⟩,λid x h=>by
   simp only[mH]at h;split at h
   ·exact h
   ·cases h⟩,h2⟩⟩
theorem wW{w:World}(h:Ext w w'):Chg [] w w':=Chg.of_ext h []
theorem CZ(l:List UInt8)(q:l.length≤281474976710656):nJ prog 82 [.str l] (.int .i64 (bq l:Nat)):=
 sum0_calls rfl rfl λS w ρ xs hx=>by
  simp only[LRel]at hx;obtain⟨x,ys,rfl,h1,rfl⟩:=hx;simp only[VRel]at h1;subst h1;exact(Fg l w q).mono λe w' ⟨h1,h2⟩=>⟨_,h1,by simp only[VRel],h2▸Chg.refl _ _⟩
theorem Bu(l:List UInt8)(q:l.length≤281474976710656):nJ prog 102 [.str l] (.int .i64 (bq l:Nat)):=
 sum0_calls rfl rfl λS w ρ xs hx=>by
  simp only[LRel]at hx;obtain⟨x,ys,rfl,h1,rfl⟩:=hx;simp only[VRel]at h1;subst h1;exact(wv l w q).mono λe w' ⟨h1,h2⟩=>⟨_,h1,by simp only[VRel],wW h2⟩
open Go.RowKit
def cU(R:List Nat)(l:List (Nat×Ob)):List (Nat×Ob):=l.filter λp=>ib p.1 R
def ung:Ob→Ob
 |.free=>.gone
 |o=>o
def dy(nx:Nat)(R:List Nat)(l:List (Nat×Ob)):List (Nat×Ob):=(l.filter λp=>!ib p.1 R&&Nat.blt p.1 nx).map λp=>(p.1,ung p.2)
theorem pe{α:Type}{R:List Nat}:∀(l:List (Nat×Ob)) (c:List (Nat×Ob)→α),qh R l c=c (cU R l)
 |[],c=>rfl
 |(i,o)::r,c=>by
  simp only[qh];cases h:ib i R
  ·simp only;rw[pe r];simp[cU,h]
  ·simp only;rw[pe r];simp[cU,h]
theorem oW{α:Type}{nx:Nat}{R:List Nat}:∀(l:List (Nat×Ob)) (c:List (Nat×Ob)→α),pc nx R l c=c (dy nx R l)
 |[],c=>rfl
 |(i,o)::r,c=>by
  simp only[pc];cases h:(!ib i R&&Nat.blt i nx)
  ·simp only;rw[oW r];simp only[dy,List.filter_cons,h];rfl
  ·cases o<;>(simp only;rw[oW r];simp only[dy,List.filter_cons,h];rfl)
theorem nh{R:List Nat}{i:Nat}:∀{l:List (Nat×Ob)},am (cU R l) i=am l i∨(ib i R=false∧am (cU R l) i=.gone)
 |[]=>.inl rfl
 | (j, o)::r=>by
  by_cases hj:j=i
  ·subst hj;cases h:ib j R
   ·right;refine⟨rfl,?_⟩;have ih:=nh (R:=R) (i:=j) (l:=r);simp only[cU,List.filter_cons,h]at ih⊢;simp only[Bool.false_eq_true,if_false];clear ih;have key:∀(l:List (Nat×Ob)),am (l.filter λp=>ib p.1 R) j=.gone:=by
     intro l
     induction l with
     |nil=>rfl
     | cons q t ih=>
      obtain⟨k,o'⟩:=q;simp only[List.filter_cons];split
      ·rename_i hk;have :k≠j:=λe=>by subst e;simp[h]at hk
       simp only[am,nbF this];exact ih
      ·exact ih
    exact key r
   ·left;simp only[cU,List.filter_cons,h,if_true,am,nbT]
  ·have ih:=nh (R:=R) (i:=i) (l:=r);simp only[cU,List.filter_cons];split
   ·simp only[am,nbF hj];exact ih
   ·simp only[am,nbF hj];exact ih
variable{i:Nat}
theorem uf{R:List Nat}(h:ib i R=false)(l:List (Nat×Ob)):am (cU R l) i=.gone:=by
 induction l with
 |nil=>rfl
 | cons q t ih=>
  obtain⟨k,o'⟩:=q;simp only[cU,List.filter_cons];split
  ·rename_i hk;have :k≠i:=λe=>by subst e;simp[h]at hk
   simp only[am,nbF this];exact ih
  ·exact ih
theorem Ae{nx:Nat}{R:List Nat}(l:List (Nat×Ob)):am (dy nx R l) i=if(!ib i R&&Nat.blt i nx)=true then ung (am l i)else .gone:=by
 induction l with
 |nil=>simp[dy,am,ung]
 | cons q t ih=>
  obtain⟨k,o⟩:=q;by_cases hk:k=i
  ·subst hk;cases h:(!ib k R&&Nat.blt k nx)
   ·rw[h]at ih;simp only[dy,List.filter_cons,h,Bool.false_eq_true,if_false]at ih⊢;exact ih
   ·simp only[dy,List.filter_cons,h,if_true,List.map_cons,am,nbT]
  ·have e:am ((k,o)::t) i=am t i:=by simp only[am,nbF hk]
   rw[e,←ih];simp only[dy,List.filter_cons];split
   ·simp only[List.map_cons,am,nbF hk]
   ·rfl
section
variable{P:Program}{T:Tab}{K:Ctx}{Q:Exit→Act→World→Prop}{s:List EI}{n:Nat}{F:Fm}{H:Hp}
theorem xP (lo:Nat) (H:Hp) (v:V):∃v' H',(∀(α:Type) (c:V→Hp→α),yN lo H v c=c v' H')∧H'.nx=H.nx∧(∀K S w ρ x,HRel S w ρ H.get→Inv K S w ρ H.get→VRel S w ρ v x→∃S',HRel S' w ρ H'.get∧Inv K S' w ρ H'.get∧Up S S' w w ρ ρ∧VRel S' w ρ v' x):=by
 have triv:∃v' H',(∀(α:Type) (c:V→Hp→α),c v H=c v' H')∧H'.nx=H.nx∧(∀K S w ρ x,HRel S w ρ H.get→Inv K S w ρ H.get→VRel S w ρ v x→∃S',HRel S' w ρ H'.get∧Inv K S' w ρ H'.get∧Up S S' w w ρ ρ∧VRel S' w ρ v' x):=⟨v,H,λ_ _=>rfl,rfl,λK S w ρ x h1 h2 h3=>⟨S,h1,h2,Up.refl,h3⟩⟩;cases v with
 | sl id=>
  simp only[yN];split
  ·split
   ·rename_i e sz els ho;split
    ·rename_i hpu;refine⟨.row sz els,⟨H.nx,lM id H.es⟩,λα c=>by rw[qp],rfl,λK S w ρ x hr hi hx=>?_⟩;have hg:(⟨H.nx,lM id H.es⟩:Hp).get=bM H.get id .gone:=by
      funext i
      unfold Hp.get;by_cases hii:i=id
      ·subst hii;rw[bi];simp only[];have hlt:Nat.blt i H.nx=true:=by
        unfold Hp.get at ho;split at ho
        ·assumption
        ·cases ho
       rw[hlt];simp only[lp,if_true]
      ·rw[bN _ _ hii];simp only[lp,if_neg hii]
     refine⟨_,by rw[hg];exact(eO hr).1,by rw[hg];exact hi.frz hr id,(eO hr).2,se hr ho hpu hx⟩
    ·exact triv
   ·exact triv
  ·exact triv
 |_=>exact triv
theorem xh(lo:Nat):∀(vs:List V) (H:Hp),∃vs' H',(∀(α:Type) (c:List V→Hp→α),yW lo H vs c=c vs' H')∧H'.nx=H.nx∧(∀K S w ρ xs,HRel S w ρ H.get→Inv K S w ρ H.get→LRel S w ρ vs xs→∃S',HRel S' w ρ H'.get∧Inv K S' w ρ H'.get∧Up S S' w w ρ ρ∧LRel S' w ρ vs' xs)
 |[],H=>⟨[],H,λ_ _=>rfl,rfl,λK S w ρ x h1 h2 G=>⟨S,h1,h2,Up.refl,G⟩⟩
 |v::r,H=>by
  obtain⟨J,H1,O,n1,k1⟩:=xP lo H v;obtain⟨U,H2,Z,n2,k2⟩:=xh lo r H1;refine⟨J::U,H2,λα c=>by simp only[yW,O,Z],n2.trans n1,λK S w ρ xs hr hi hx=>?_⟩;simp only[LRel]at hx;obtain⟨x,ys,rfl,h1,h2⟩:=hx;obtain⟨S1,a1,a2,q,a4⟩:=k1 K S w ρ x hr hi h1;obtain⟨S2,b1,b2,E,b4⟩:=k2 K S1 w ρ ys a1 a2 (h2.up q);exact⟨S2,b1,b2,⟨λb hb=>E.s b (q.s b hb),λ_ _ _=>rfl,λ_ _ h=>h⟩,x,ys,rfl,a4.up E,b4⟩
theorem DJ(lo:Nat)(H:Hp)(v:V):∃q H',(∀(α:Type) (c:V→Hp→α),BH lo H v c=c q H')∧H'.nx=H.nx∧(∀K S w ρ x,HRel S w ρ H.get→Inv K S w ρ H.get→VRel S w ρ v x→∃S',HRel S' w ρ H'.get∧Inv K S' w ρ H'.get∧Up S S' w w ρ ρ∧VRel S' w ρ q x):=by
 have E:=xP lo H v;cases v
 case agg cs=>
  obtain⟨vs',H',e,G,k⟩:=xh lo cs H;refine⟨.agg vs',H',λα c=>by simp only[BH,e],G,λK S w ρ x hr hi hx=>?_⟩;simp only[VRel]at hx;obtain⟨xs,rfl,h1⟩:=hx;obtain⟨S',J,O,U,Z⟩:=k K S w ρ xs hr hi h1;exact⟨S',J,O,U,by simp only[VRel];exact⟨xs,rfl,Z⟩⟩
 all_goals exact E
theorem tk(lo:Nat):∀(vs:List V) (H:Hp),∃vs' H',(∀(α:Type) (c:List V→Hp→α),uR lo H vs c=c vs' H')∧H'.nx=H.nx∧(∀K S w ρ xs,HRel S w ρ H.get→Inv K S w ρ H.get→LRel S w ρ vs xs→∃S',HRel S' w ρ H'.get∧Inv K S' w ρ H'.get∧Up S S' w w ρ ρ∧LRel S' w ρ vs' xs)
 |[],H=>⟨[],H,λ_ _=>rfl,rfl,λK S w ρ x h1 h2 G=>⟨S,h1,h2,Up.refl,G⟩⟩
 |v::r,H=>by
  obtain⟨J,H1,O,n1,k1⟩:=DJ lo H v;obtain⟨U,H2,Z,n2,k2⟩:=tk lo r H1;refine⟨J::U,H2,λα c=>by simp only[uR,O,Z],n2.trans n1,λK S w ρ xs hr hi hx=>?_⟩;simp only[LRel]at hx;obtain⟨x,ys,rfl,h1,h2⟩:=hx;obtain⟨S1,a1,a2,q,a4⟩:=k1 K S w ρ x hr hi h1;obtain⟨S2,b1,b2,E,b4⟩:=k2 K S1 w ρ ys a1 a2 (h2.up q);exact⟨S2,b1,b2,⟨λb hb=>E.s b (q.s b hb),λ_ _ _=>rfl,λ_ _ h=>h⟩,x,ys,rfl,a4.up E,b4⟩
variable{all:Array Oper}{rest:List Oper}{o:Oper}{u:V}{H':Hp}
theorem Eb{ok:Bool}(J:aV F all o.guard=some true)(hx:nq P K o [] ok n F H u H')(k:Go P K Q (.ops all rest) s n (F.seto o.dst (some u)) H'):Go P K Q (.ops all (o::rest)) s n F H:=λS w ρ a hr hi q=>by
 show wpList P all (cR P Q s) (o::rest) a w;unfold wpList;rw[if_pos (bQ q J)];exact .inl (hx S w ρ a hr hi q _ _ λx S' w' ρ' E G O _ _ hv=>k S' w' ρ' _ E G (cj (q.up O) o.dst hv))
variable{L:List Nat}{m left i:Nat}{listed:Array Bool}
theorem EN(q:Region.ready .any all listed=[i])(hi:all[i]?=some o)(Z:aV F all o.guard=some true)(hx:nq P K o L ((listed.setIfInBounds i true).getD m false) n F H u H')(k:Go P K Q (.drw all L m left (listed.setIfInBounds i true)) s n (F.seto o.dst (some u)) H'):Go P K Q (.drw all L m (left+1) listed) s n F H:=λS w ρ a hr E G hs=>by
 refine lF (S:=S) q ?_;unfold wpOp;simp only[hi];rw[if_pos (bQ G Z)];exact .inl (hx S w ρ a hr E G _ _ λx S' w' ρ' J O U hA hL hv=>kD U hA hL (k S' w' ρ' _ J O (cj (G.up U) o.dst hv) hs))
def ix(P:Program)(K:Ctx)(Q:Exit→Act→World→Prop)(n:Nat):Rs→Prop
 |.ok e F H=>∀S w ρ a,HRel S w ρ H.get→Inv K S w ρ H.get→FRel S w ρ a n F→Q (match e with|true=>.ret|false=>.normal) a w
 |.pt p s F H=>Go P K Q p s n F H
 |.er _ _=>False
variable{ih:EP→List EI→Fm→Hp→Rs}
theorem xt{S:Nat→Prop}{w:World}{ρ:Nat→Option Value}{x:Value}:∀{rs:List V},VRel S w ρ (jY rs) x→∃ys,LRel S w ρ rs ys∧x=kR ys
 |[],q=>by simp only[jY,VRel]at q;obtain⟨ys,rfl,h1⟩:=q;exact⟨ys,h1,by simp only[LRel]at h1;subst h1;rfl⟩
 |[v],q=>⟨[x],⟨x,[],rfl,q,rfl⟩,rfl⟩
 |v::u::r,q=>by
  simp only[jY,VRel]at q;obtain⟨ys,rfl,h1⟩:=q;refine⟨ys,h1,?_⟩;simp only[LRel]at h1;obtain⟨_,_,rfl,_,_,_,rfl,_⟩:=h1;rfl
theorem Cv (hT:TabOk P T) (IH:∀p s F H K Q n,ix P K Q n (ih p s F H)→Go P K Q p s n F H) {X:Rs→Prop} (hX:∀n m,¬X (.er n m)) {keep ok:Bool} {vs:List V} {fid:FuncId} {fn:Func} {b:Code} {c:V→Hp→Rs} (hf:P.funcs[fid]?=some fn) (hb:fn.body=some b) (hl:Nat.ble vs.length fn.ntmps=true)
  (h:X (yU T ih keep vs fn b H L ok c)):∃u H' L',(L'=L∨ok=true)∧CallR P K fid vs H L' (λu' H''=>u'=u∧H''=H')∧X (c u H'):=by
 unfold yU at h;simp only[]at h;generalize hR:mc H 40 (oX vs []) []=R at h;split at h
 ·rename_i hok;rw[pe]at h;split at h
  ·rename_i e F1 H1 hrun;split at h
   ·rename_i rs hres;split at h
    ·rename_i hnx;have hnx':H.nx≤H1.nx:=Nat.le_of_ble_eq_true hnx;have hin:∀i,(⟨H.nx,cU R H.es⟩:Hp).get i=H.get i∨(⟨H.nx,cU R H.es⟩:Hp).get i=.gone:=λi=>by
      unfold Hp.get;simp only[];split
      ·rcases nh (R:=R) (i:=i) (l:=H.es)with e|⟨_,e⟩
       ·exact .inl e
       ·exact .inr e
      ·exact .inl rfl
     have hout:∀i,ib i R=false→Nat.blt i H.nx=true→(⟨H.nx,cU R H.es⟩:Hp).get i=.gone:=λi hi hlt=>by
      unfold Hp.get;simp only[hlt];exact uf hi _
     have key:∀(H2:Hp) (es3:List (Nat×Ob)),H2.nx=H1.nx→(∀i,am es3 i=am H2.es i∨am es3 i=.gone)→∀i,((⟨H2.nx,es3++dy H.nx R H.es⟩:Hp).get i=H2.get i∨(⟨H2.nx,es3++dy H.nx R H.es⟩:Hp).get i=.gone)∨((⟨H2.nx,es3++dy H.nx R H.es⟩:Hp).get i=H.get i∧(⟨H.nx,cU R H.es⟩:Hp).get i=.gone∧H.get i≠.free):=λH2 es3 hn h3 i=>by
      by_cases hlt2:Nat.blt i H2.nx=true
      ·have e0:(⟨H2.nx,es3++dy H.nx R H.es⟩:Hp).get i=am (es3++dy H.nx R H.es) i:=by unfold Hp.get;simp only[hlt2]
       have e2:H2.get i=am H2.es i:=by unfold Hp.get;rw[hlt2]
       rw[e0,e2];rcases wj es3 (dy H.nx R H.es) i with e|⟨e',e⟩
       ·rw[e];rcases h3 i with h3|h3
        ·exact .inl (.inl h3)
        ·exact .inl (.inr h3)
       ·rw[e];rw[Ae];cases hm:(!ib i R&&Nat.blt i H.nx)
        ·exact .inl (.inr (by simp))
        ·have hm':=hm;simp only[Bool.and_eq_true,Bool.not_eq_true']at hm';have eH:H.get i=am H.es i:=by unfold Hp.get;rw[hm'.2]
         rw[if_pos rfl];cases hf:am H.es i
         case free=>exact .inl (.inr rfl)
         all_goals exact .inr ⟨by rw[eH,hf];rfl,hout i hm'.1 hm'.2,by rw[eH,hf];simp⟩
      ·have e0:(⟨H2.nx,es3++dy H.nx R H.es⟩:Hp).get i=.free:=by
        unfold Hp.get;simp only[Bool.not_eq_true]at hlt2;simp only[hlt2]
       have e2:H2.get i=.free:=by unfold Hp.get;simp only[Bool.not_eq_true]at hlt2;rw[hlt2]
       exact .inl (.inl (by rw[e0,e2]))
     have fin:∀(H2:Hp) (es3:List (Nat×Ob)) (rs2:List V),H2.nx=H1.nx→(∀i,am es3 i=am H2.es i∨am es3 i=.gone)→
       (∀K S w ρ xs,HRel S w ρ H1.get→Inv K S w ρ H1.get→LRel S w ρ rs xs→∃S',HRel S' w ρ H2.get∧Inv K S' w ρ H2.get∧Up S S' w w ρ ρ∧LRel S' w ρ rs2 xs)→
       ∃L',(L'=L∨ok=true)∧CallR P K fid vs H L' (λu' H''=>u'=jY rs2∧H''=⟨H2.nx,es3++dy H.nx R H.es⟩):=λH2 es3 rs2 hn h3 hfz=>by
      have main:∀L',(∀(S:Nat→Prop) (w:World) (ρ:Nat→Option Value),HRel S w ρ H.get→L'=[]∨(bV H.get L'=true∧∀id,id∈L'→(⟨H.nx,cU R H.es⟩:Hp).get id=.gone))→CallR P K fid vs H L' (λu' H''=>u'=jY rs2∧H''=⟨H2.nx,es3++dy H.nx R H.es⟩):=λL' hL' S w ρ xs hr hi hx=>by
       have hr1:=hr.drop (h':=(⟨H.nx,cU R H.es⟩:Hp).get) hin;have hi1:Inv ⟨w,S,λb=>∃id,own ρ id ((⟨H.nx,cU R H.es⟩:Hp).get id) b,ρ⟩ S w ρ (⟨H.nx,cU R H.es⟩:Hp).get:=⟨ChgP.refl _ _,λ_ h=>h,λ_ h=>.inl h,λid b hb=>.inl ⟨id,hb⟩,λ_ _ h=>h⟩;refine ro hf hb hl hr1 hi1 hx (IH _ _ _ _ _ _ _ ?_);rw[hrun];intro S' w' ρ' a' hr' hi' hF';obtain⟨rl,hrl⟩:∃l:List ResultVar,fn.results=l.toArray:=⟨fn.results.toList,by simp⟩;rw[hrl]at hres;refine ret_go hT (rs:=rl) (by cases e<;>simp) hrl hr' hF' (by simpa using hres) λx hvx=>?_;have hLR:=xt hvx;obtain⟨ys,hys,rfl⟩:=hLR;obtain⟨S2,a1,a2,a3,a4⟩:=hfz _ S' w' ρ' ys hr' hi' hys;obtain⟨m1,m2,m3,m4⟩:=vP (h1:=(⟨H.nx,cU R H.es⟩:Hp).get) (h2:=(⟨H2.nx,es3++dy H.nx R H.es⟩:Hp).get) hr hi hin a1 a2 (key H2 es3 hn h3);refine⟨_,S2,ρ',_,_,rfl,⟨rfl,rfl⟩,m1,m2,m3,xr a4,?_⟩;rcases hL' S w ρ hr with rfl|⟨g1,g2⟩
       ·intro id hid;simp at hid
       ·exact m4 L' g1 g2
      rcases sb hok with hok|hok
      ·simp only[Bool.and_eq_true]at hok;refine⟨L,.inl rfl,main L λS w ρ hr=>.inr ⟨hok.1,λid hid=>?_⟩⟩;have hmem:=List.all_eq_true.1 hok.2 id hid;simp only[Bool.not_eq_true']at hmem;by_cases hlt:Nat.blt id H.nx=true
       ·exact hout id hmem hlt
       ·exfalso;have hfree:H.get id=.free:=by unfold Hp.get;simp only[Bool.not_eq_true]at hlt;rw[hlt]
        have hnl:∀(l:List Nat),id∈l→bV H.get l=true→False:=by
         intro l
         induction l with
         |nil=>intro h;simp at h
         | cons j t ih=>
          intro hm hl;simp only[bV]at hl;rcases List.mem_cons.1 hm with e|e
          ·subst e;rw[hfree]at hl;cases hl
          ·split at hl
           ·exact ih e hl
           ·exact ih e hl
           ·cases hl
        exact hnl L hid hok.1
      ·exact⟨[],.inr hok,main [] λ_ _ _ _=>.inl rfl⟩
     split at h
     ·rw[oW]at h;obtain⟨L',g1,g2⟩:=fin H1 H1.es rs rfl (λi=>.inl rfl) (λK S w ρ xs h1 h2 h3=>⟨S,h1,h2,Up.refl,h3⟩);exact⟨_,_,L',g1,g2,h⟩
     ·obtain⟨rs2,H2,e1,e2,e3⟩:=tk H.nx rs H1;rw[e1]at h;rw[pe,oW]at h;obtain⟨L',g1,g2⟩:=fin H2 (cU _ H2.es) rs2 e2 (λi=>by
       rcases nh (R:=mc H2 60 (oX rs2 R) []) (i:=i) (l:=H2.es)with e|⟨_,e⟩
       ·exact .inl e
       ·exact .inr e) e3
      exact⟨_,_,L',g1,g2,h⟩
    ·exact absurd h (hX _ _)
   ·exact absurd h (hX _ _)
  ·exact absurd h (hX _ _)
  ·exact absurd h (hX _ _)
 ·exact absurd h (hX _ _)
theorem mS (hT:TabOk P T) (IH:∀p s F H K Q n,ix P K Q n (ih p s F H)→Go P K Q p s n F H) {X:Rs→Prop} (hX:∀n m,¬X (.er n m)) {ok:Bool} {c:Option V→Hp→Rs} (h:X (pg T ih F H L ok o c)):∃u H',nq P K o L ok n F H u H'∧X (c (some u) H'):=by
 unfold pg at h;split at h
 ·rename_i v hv;exact⟨v,H,Ab hT hv,h⟩
 ·rw [cz]at h;split at h
  ·rename_i v ed hv;split at h
   ·rename_i hc;rw[Hp.ap_eq]at h;refine⟨_,_,oV hT hv hc,?_⟩;cases v with
    |none=>exact h
    |some v=>exact h
   ·exact absurd h (hX _ _)
  ·split at h
   ·rename_i fid args tys hop;split at h
    ·rename_i vs hvs;split at h
     ·rename_i v hn;obtain⟨he,hnat⟩:=hT.nat _ _ _ hn;refine⟨v,H,lS (L':=L) he (by rw[hop]) hvs (λS w ρ xs hr hi hx=>?_) (.inl rfl),h⟩;obtain⟨x,h1,h2⟩:=hnat S w ρ xs hx;refine h2.mono λe w' hR=>?_;obtain⟨rfl,rfl⟩:=hR;exact⟨x,S,ρ,v,H,rfl,⟨rfl,rfl⟩,hr,hi,Up.refl,h1,lH⟩
     ·split at h
      ·rename_i fn hfn;obtain⟨hf,he⟩:=hT.fn _ _ hfn;split at h
       ·rename_i b hb;split at h
        ·rename_i hl;obtain⟨u,H',L',g1,g2,g3⟩:=Cv (K:=K) hT IH hX hf hb hl h;exact⟨u,H',lS he (by rw[hop]) hvs g2 g1,g3⟩
        ·exact absurd h (hX _ _)
       ·exact absurd h (hX _ _)
      ·exact absurd h (hX _ _)
    ·exact absurd h (hX _ _)
   ·exact absurd h (hX _ _)
theorem Bc{l:List Nat}{j:Nat}(h:vQ l j=true):l=[j]:=by
 unfold vQ at h;split at h
 ·rw[Nat.eq_of_beq_eq_true h]
 ·cases h
theorem uI (hT:TabOk P T) (IH:∀p s F H K Q n,ix P K Q n (ih p s F H)→Go P K Q p s n F H) {i:Nat} {ps:List (Nat×Operand)} {vs:List (Nat×V)} {v:V} (hp:nu T all i vs=some (o,ps,v)):∀(left:Nat) (listed:Array Bool) (F:Fm) (H:Hp),ix P K Q n (uq T ih all L m i o ps v s left listed F H)→GoP P K Q all L m left listed s n F H i o ps vs v
 | left, listed,F,H,h=>by
  unfold uq at h;split at h
  ·rename_i hl;split at h
   ·rename_i x hrd;split at h
    ·rename_i hb;have :=Nat.eq_of_beq_eq_true hb;subst this;rw[Fm.puto_eq]at h;exact Dy hT hp hrd hl (IH _ _ _ _ _ _ _ h)
    ·exact h.elim
   ·rename_i x y hrd;cases left with
    |zero=>exact h.elim
    | succ left=>
     simp only[cz]at h;generalize hj:yv x y i=j at h;unfold yv at hj;split at h
     ·exact h.elim
     ·rename_i hji;have hne:j≠i:=Nat.ne_of_beq_eq_false hji;split at h
      ·rename_i oj hoj;split at h
       ·rename_i hc;simp only[Bool.and_eq_true]at hc;obtain⟨⟨⟨hc1,hc2⟩,hc3⟩,hc4⟩:=hc;split at h
        ·rename_i hw;obtain⟨u,H',hx,hk⟩:=mS (K:=K) (n:=n) hT IH (X:=ix P K Q n) (λ_ _ h=>h) h;rw[Fm.puto_eq]at hk;have ih2:=uI hT IH hp left _ _ _ hk;have hpair:(match Region.ready .any all listed with|[x,y]=>(Nat.beq x i&&Nat.beq y j)||(Nat.beq x j&&Nat.beq y i)|_=>false)=true:=by
          rw[hrd];simp only[];cases hx1:Nat.beq x i
          ·rw[hx1]at hj;cases hy1:Nat.beq y i
           ·rw[hy1]at hj;exact absurd hj.symm hne
           ·rw[hy1]at hj;simp only at hj;subst hj;simp
          ·rw[hx1]at hj;simp only at hj;subst hj;simp
         refine BO hT hp hoj hpair (Bc hc1) hl (λt ht=>?_) hc2 hc3 (Array.setIfInBounds_comm _ _ (Ne.symm hne)) (Post:=λu' H''=>u'=u∧H''=H') (λS w ρ a hr hi hF K2 hK2=>?_) (λu' H'' hP=>by obtain⟨rfl,rfl⟩:=hP;exact ih2)
         ·rw[ht]at hc4;simp only[Option.isNone_iff_eq_none]at hc4;exact hc4
         ·unfold wpOp;simp only[hoj];rw[if_pos (bQ hF hw)];refine .inl (hx S w ρ a hr hi hF _ _ λx S' w' ρ' hr' hi' hu hA hL hv=>hK2 x S' w' ρ' u H' ⟨rfl,rfl⟩ hr' hi' hu hA (hL.imp id λh=>?_) hv);simpa only[Bool.and_eq_true]using h
        ·exact h.elim
       ·exact h.elim
      ·exact h.elim
   ·exact h.elim
  ·exact h.elim
theorem DN (hT:TabOk P T) (IH:∀p s F H K Q n,ix P K Q n (ih p s F H)→Go P K Q p s n F H) {i j:Nat} {left:Nat} {listed:Array Bool} (hrd:Region.ready .any all listed=[i,j]) (h:ix P K Q n (Bl T ih all L m left i j listed s F H)):Go P K Q (.drw all L m (left+1) listed) s n F H:=by
 unfold Bl at h;split at h
 ·rename_i oi hoi;split at h
  ·rename_i oj hoj;split at h
   ·rename_i hwi;split at h
    ·rename_i hwj;obtain⟨ui,Hi,xi,hk⟩:=mS (K:=K) (n:=n) hT IH (X:=ix P K Q n) (λ_ _ h=>h) h;rw[Fm.puto_eq]at hk;split at hk
     ·rename_i F1 H1 e1;obtain⟨uj,Hj,xj,hk2⟩:=mS (K:=K) (n:=n) hT IH (X:=ix P K Q n) (λ_ _ h=>h) hk;rw[Fm.puto_eq]at hk2;split at hk2
      ·rename_i F2 H2 e2;split at hk2
       ·rename_i hal;have c:Go P K Q (.ex .normal) s n F1 H1:=IH _ _ _ _ _ _ _ hk2;intro S w ρ a hr hi hF;have hpin:∀id x,K.pin id=some x→id<H.nx:=λid x hx=>Decidable.byContradiction λhn=>by
         have h1:=hi.pin id x hx;have h2:=hr.ob id;have h3:H.get id=.free:=by
          unfold Hp.get;have :Nat.blt id H.nx=false:=by
           cases hb:Nat.blt id H.nx
           ·rfl
           ·exact absurd (by simpa[Nat.blt_eq]using hb) hn
          simp only[this]
         rw[h3]at h2;have h4:ρ id=none:=h2;rw[h4]at h1;cases h1
        have g1:Go P K (cR P Q s) (.drw all L m left (listed.setIfInBounds i true)) [] n (F.seto oi.dst (some ui)) Hi:=IH _ _ _ _ _ _ _ (by rw[e1];exact λS w ρ a hr hi hF=>c S w ρ a hr hi hF);have g2:Go P K (cR P Q s) (.drw all L m left (listed.setIfInBounds j true)) [] n (F.seto oj.dst (some uj)) Hj:=IH _ _ _ _ _ _ _ (by rw[e2];exact λS w ρ a hr hi hF=>go_alike hal hpin c S w ρ a hr hi hF);exact oz (by rw[hrd];simp) hoi hoj hwi hwj xi xj g1 g2 S w ρ a hr hi hF
       ·exact hk2.elim
      ·exact hk2.elim
      ·exact hk2.elim
     ·exact hk.elim
     ·exact hk.elim
    ·exact h.elim
   ·exact h.elim
  ·exact h.elim
 ·exact h.elim
theorem nz:∀{R:List Nat} {i:Nat} {ps:List (Nat×Operand)} {v:V},oo T F all R=some (i,o,ps,v)→∃vs,jE F ps=some vs∧nu T all i vs=some (o,ps,v)
 |[],_,_,_,h=>by cases h
 | j ::r,i,ps,v,h=>by
  unfold oo at h;split at h
  ·rename_i hj;split at h
   ·rename_i vs hvs;split at h
    ·rename_i o' ps' v' hpb;simp only[Option.some.injEq,Prod.mk.injEq]at h;obtain⟨rfl,rfl,rfl,rfl⟩:=h;refine⟨vs,?_,hpb⟩;have :=hpb;unfold nu at this;rw[hj]at this;simp only at this
     repeat' (split at this)
     all_goals first
      |(cases this;done)
      |(simp only[cz,Option.some.injEq,Prod.mk.injEq]at this;obtain⟨_,rfl,_⟩:=this;exact hvs)
    ·exact nz h
   ·exact nz h
  ·exact nz h
theorem Dw (hT:TabOk P T) (hm:P.follows .mixedOrders=true) (IH:∀p s F H K Q n,ix P K Q n (ih p s F H)→Go P K Q p s n F H):∀(p:EP) (s:List EI) (F:Fm) (H:Hp),ix P K Q n (AC T ih p s F H)→Go P K Q p s n F H
 | .code c,s,F,H,h=>by
  replace h:ix P K Q n (zu T ih c s F H):=h;unfold zu at h;split at h
  ·exact Ay (IH _ _ _ _ _ _ _ h)
  ·exact uV (IH _ _ _ _ _ _ _ h)
  ·exact xw (IH _ _ _ _ _ _ _ h)
  ·exact go_ret (IH _ _ _ _ _ _ _ h)
  ·exact xy (IH _ _ _ _ _ _ _ h)
  ·exact BL (IH _ _ _ _ _ _ _ h)
  ·exact Cs (IH _ _ _ _ _ _ _ h)
  ·exact go_loop 1000000 (IH _ _ _ _ _ _ _ h)
  ·split at h
   ·exact vk ‹_› (IH _ _ _ _ _ _ _ h)
   ·exact vz ‹_› (IH _ _ _ _ _ _ _ h)
   ·exact h.elim
  ·exact tE (IH _ _ _ _ _ _ _ h)
  ·split at h
   ·rename_i hs;simp only[bP,cz]at h;exact xX _ _ _ rfl hm hs (IH _ _ _ _ _ _ _ h)
   ·exact h.elim
  ·exact h.elim
 | .ops all rest,s,F,H,h=>by
  replace h:ix P K Q n (vc T ih all rest s F H):=h;unfold vc at h;split at h
  ·exact Af (IH _ _ _ _ _ _ _ h)
  ·split at h
   ·rw[Fm.puto_eq]at h;exact zL ‹_› (IH _ _ _ _ _ _ _ h)
   ·obtain⟨u,H',hx,hk⟩:=mS (K:=K) (n:=n) hT IH (X:=ix P K Q n) (λ_ _ h=>h) h;rw[Fm.puto_eq]at hk;exact Eb ‹_› hx (IH _ _ _ _ _ _ _ hk)
   ·exact h.elim
 | .ex e,s,F,H,h=>by
  replace h:ix P K Q n (zp ih e s F H):=h;unfold zp at h;split at h
  ·split at h
   ·exact λS w ρ a hr hi hF=>h S w ρ a hr hi hF
   ·exact λS w ρ a hr hi hF=>h S w ρ a hr hi hF
   ·exact h.elim
  ·split at h
   ·exact xV (IH _ _ _ _ _ _ _ h)
   ·exact wq (IH _ _ _ _ _ _ _ h)
   ·exact vN (IH _ _ _ _ _ _ _ h)
   ·exact h.elim
  ·split at h
   ·split at h
    ·exact h.elim
    ·exact go_xloop (IH _ _ _ _ _ _ _ h)
   ·exact go_xloopE (IH _ _ _ _ _ _ _ h)
   ·exact go_xloopR (IH _ _ _ _ _ _ _ h)
   ·exact h.elim
  ·split at h
   ·exact Br (IH _ _ _ _ _ _ _ h)
   ·exact Bm (IH _ _ _ _ _ _ _ h)
   ·exact CA (IH _ _ _ _ _ _ _ h)
   ·exact h.elim
  ·split at h
   ·exact uT (IH _ _ _ _ _ _ _ h)
   ·split at h
    ·exact vZ ‹_› (IH _ _ _ _ _ _ _ h)
    ·exact uG ‹_› (IH _ _ _ _ _ _ _ h)
   ·exact uQ (IH _ _ _ _ _ _ _ h)
   ·exact h.elim
 | .drw all L m left listed,s,F,H,h=>by
  replace h:ix P K Q n (yC T ih all L m left listed s F H):=h;unfold yC at h;split at h
  ·exact vG ‹_› (IH _ _ _ _ _ _ _ h)
  ·rename_i i R hrd;cases left with
   |zero=>exact h.elim
   | succ left=>
    simp only[]at h;split at h
    ·split at h
     ·rename_i o ho;split at h
      ·rw[Fm.puto_eq]at h;exact go_d1S hrd ho ‹_› (IH _ _ _ _ _ _ _ h)
      ·obtain⟨u,H',hx,hk⟩:=mS (K:=K) (n:=n) hT IH (X:=ix P K Q n) (λ_ _ h=>h) h;rw[Fm.puto_eq]at hk;exact EN hrd ho ‹_› hx (IH _ _ _ _ _ _ _ hk)
      ·exact h.elim
     ·exact h.elim
    ·split at h
     ·split at h
      ·rename_i o ho;split at h
       ·rename_i hc;simp only[Bool.and_eq_true,Bool.not_eq_true']at hc;obtain⟨⟨hc1,hc2⟩,hc3⟩:=hc;split at h
        ·rw[Fm.puto_eq]at h;exact yz hc3 ho hc2 hc1 ‹_› (IH _ _ _ _ _ _ _ h)
        ·rename_i hw;split at h
         ·rename_i v hv;rw[Fm.puto_eq]at h;exact CX hT hc3 ho hc2 hc1 hw hv (IH _ _ _ _ _ _ _ h)
         ·split at h
          ·rename_i id hid;split at h
           ·rename_i hL;simp only[Bool.and_eq_true,Bool.not_eq_true']at hL;obtain⟨⟨hL1,hL2⟩,hL3⟩:=hL;split at h
            ·rename_i v ed hv;rw[Fm.puto_eq]at h;exact CH hT hc3 hL2 hL3 ho hc2 hc1 hw hid hL1 hv (IH _ _ _ _ _ _ _ h)
            ·exact h.elim
           ·exact h.elim
          ·exact h.elim
        ·exact h.elim
       ·exact h.elim
      ·exact h.elim
     ·split at h
      ·rename_i i' o ps v hpo;rw[Fm.puto_eq]at h;obtain⟨vs,g1,g2⟩:=nz hpo;exact zX g1 (uI hT IH g2 left listed _ _ h)
      ·split at h
       ·exact DN hT IH hrd h
       ·exact h.elim
theorem AV(q:TabOk P T)(E:P.follows .mixedOrders=true):∀(k:Nat) (p:EP) (s:List EI) (F:Fm) (H:Hp) (K:Ctx) (Q:Exit→Act→World→Prop) (n:Nat),ix P K Q n (run T k p s F H)→Go P K Q p s n F H
 |0,p,s,F,H,K,Q,n,h=>h
 |k+1,p,s,F,H,K,Q,n,h=>Dw q E (λp s F H K Q n h=>AV q E k p s F H K Q n h) p s F H h
def BB (T:Tab) (k:Nat) (fid:FuncId) (vs:List V) (H:Hp):Option (List V×Hp):=match T.fn fid with
 |some fn=>match fn.body with
  |some b=>match Nat.ble vs.length fn.ntmps with
   |true=>match run T k (.code b) [] (jx fn.ntmps vs) H with
    |.ok _ F1 H1=>match mM T H1.get F1 fn.results.toList with
     |some rs=>some (rs,H1)
     |none=>none
    |_=>none
   |false=>none
  |none=>none
 |none=>none
theorem Dq(O:TabOk P T)(hm:P.follows .mixedOrders=true){vs rs:List V}{H H1:Hp}(h:BB T k fid vs H=some (rs,H1)){S:Nat→Prop}{w:World}{ρ:Nat→Option Value}{xs:List Value}(hr:HRel S w ρ H.get)(hx:LRel S w ρ vs xs):bE P fid=true∧
  Calls P fid xs.toArray w λe w'=>∃S' ρ' ys,e=.returned (kR ys)∧HRel S' w' ρ' H1.get∧Inv ⟨w,S,λb=>∃id,own ρ id (H.get id) b,ρ⟩ S' w' ρ' H1.get∧LRel S' w' ρ' rs ys:=by
 unfold BB at h;split at h
 ·rename_i fn U;obtain⟨hf,he⟩:=O.fn _ _ U;split at h
  ·rename_i b Z;split at h
   ·rename_i hl;split at h
    ·rename_i e F1 H1' E;split at h
     ·rename_i rs' q;simp only[Option.some.injEq,Prod.mk.injEq]at h;obtain⟨rfl,rfl⟩:=h;refine⟨he,?_⟩;have hi1:Inv ⟨w,S,λb=>∃id,own ρ id (H.get id) b,ρ⟩ S w ρ H.get:=⟨ChgP.refl _ _,λ_ h=>h,λ_ h=>.inl h,λid b Z=>.inl ⟨id,Z⟩,λ_ _ h=>h⟩;refine ro hf Z hl hr hi1 hx (AV O hm k _ _ _ _ _ _ _ ?_);rw[E];intro S' w' ρ' a' G hi' hF';obtain⟨rl,J⟩:∃l:List ResultVar,fn.results=l.toArray:=⟨fn.results.toList,by simp⟩;rw[J]at q;refine ret_go O (rs:=rl) (by cases e<;>simp) J G hF' (by simpa using q) λx hvx=>?_;have hLR:=xt hvx;obtain⟨ys,hys,rfl⟩:=hLR;exact⟨S',ρ',ys,rfl,G,hi',hys⟩
     ·cases h
    ·cases h
   ·cases h
  ·cases h
 ·cases h
end
set_option maxHeartbeats 1000000 in
theorem Do(s:ByteArray)(c:Int)(w:World):Calls prog 91 #[.string s,.int .u8 c] w λe w'=>e=.returned (.int .i64 (Lib.indexByte s.data.toList c.toNat.toUInt8))∧w=w':=by
 go_enter func91,ntmps91
 go_wp2
 rw[run_callFunc_extern func104 (by kernel_rfl) (by kernel_rfl) (by kernel_rfl) (e:=Extern.BytealgIndexByte.indexByte) (by kernel_rfl),Lib.run_indexByteString];simp only[Result.andThen];rw[Oper.upon_value]
 go_wp2
 go_ret
 exact⟨rfl,rfl⟩
theorem zj(s:ByteArray)(c:Int)(w:World):Calls prog 66 #[.string s,.int .u8 c] w λe w'=>e=.returned (.int .i64 (Lib.indexByte s.data.toList c.toNat.toUInt8))∧w=w':=by
 go_enter func66,ntmps66
 go_wp2_with (go_at_call 91;refine qmm (Do _ _ _) ?_)
 go_ret
 exact⟨rfl,rfl⟩
end Go.Proofs.YtojjjmkmkbnieaaGreat
