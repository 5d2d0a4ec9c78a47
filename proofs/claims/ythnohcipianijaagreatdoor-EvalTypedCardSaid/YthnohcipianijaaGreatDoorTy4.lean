/- Contracts of the functions that the law reaches, part 4. -/
import Derived.Test.YthnohcipianijaaGreatDoorTy3
set_option linter.unusedVariables false
set_option linter.unusedSimpArgs false
namespace Go.Proofs.YthnohcipianijaaGreatDoor
open _root_.Go.Proofs.Tryz
open Go.RowKit Lx Sx
set_option maxRecDepth 100000
set_option maxHeartbeats 4000000
structure ak where
 At:mP
 Kind:Int
abbrev ak.c(x:ak):List V:=[.int .i64 x.At.Module,.row 1 (List.map (V.int .i64) x.At.Path),.int .i64 x.Kind]
abbrev ak.w(x:ak):V:=.agg x.c
theorem vI(σ:YN)(l):renL σ (List.map ak.w l)=List.map ak.w l:=mL σ ak.w (λ_=>rfl) l
def si(G:Int)(J:Bool):Prop:=qS 89 [qi G]<|.bool J
def lP(G p1 J:Int):Prop:=qS 57 [qi G,qi p1]<|qi J
def pi(G p1:YI)(J:Int):Prop:=qS 58 [.row 1<|List.map (V.int .i64) G,.row 1<|List.map (V.int .i64) p1]<|qi J
def fx(G p1:ak)(J:Int):Prop:=qS 56 [.agg<|ak.c G,.agg<|ak.c p1]<|qi J
def dw(G:List ak)(p1 p2:Int)(m0:List ak):Prop:=bv [0] prog 133 [.sl 0,qi p1,qi p2,.clo 56 []] ⟨1,[(0,.row 98 3<|List.map ak.w G)]⟩<|z6 (.tup []) ⟨1,[(0,.row 98 3<|List.map ak.w m0)]⟩
def nY(G:List ak)(p1:Int)(m0:List ak):Prop:=bv [0] prog 88 [.sl 0,qi p1,.clo 56 []] ⟨1,[(0,.row 98 3<|List.map ak.w G)]⟩<|z6 (.tup []) ⟨1,[(0,.row 98 3<|List.map ak.w m0)]⟩
def fJ(G m0:List ak):Prop:=bv [0] prog 55 [.sl 0,.clo 56 []] ⟨1,[(0,.row 98 3<|List.map ak.w G)]⟩<|z6 (.tup []) ⟨1,[(0,.row 98 3<|List.map ak.w m0)]⟩
def cW(G:List ak)(p1 p2 p3:Int)(m0:List ak):Prop:=bv [0] prog 134 [.sl 0,qi p1,qi p2,qi p3,.clo 56 []] ⟨1,[(0,.row 98 3<|List.map ak.w G)]⟩<|z6 (.tup []) ⟨1,[(0,.row 98 3<|List.map ak.w m0)]⟩
def jX(G:List ak)(p1 p2 p3:Int)(m0:List ak):Prop:=bv [0] prog 170 [.sl 0,qi p1,qi p2,qi p3,.clo 56 []] ⟨1,[(0,.row 98 3<|List.map ak.w G)]⟩<|z6 (.tup []) ⟨1,[(0,.row 98 3<|List.map ak.w m0)]⟩
def dn(G:List ak)(p1 p2 p3:Int)(m0:List ak):Prop:=bv [0] prog 195 [.sl 0,qi p1,qi p2,qi p3,.clo 56 []] ⟨1,[(0,.row 98 3<|List.map ak.w G)]⟩<|z6 (.tup []) ⟨1,[(0,.row 98 3<|List.map ak.w m0)]⟩
theorem Ec(m:Nat)(G:Int)(J:Bool)(h:(G !=G)=J):si G J:=by refine⟨I,I,?_⟩;refine qA 6 [] func89 λK O=>?_;refine gR 14 I ?_;subst h;exact qN [.tmp 2]
theorem BV(m:Nat)(O p1 J:Int)(h:∃b,si O b∧∃a,si p1 a∧((b=true)->((a=true)->0=J)∧((a=false)->(-1)=J))∧((b=false)->((a=true)->1=J)∧((a=false)->((O<p1)->(-1)=J)∧((¬O<p1)->((p1<O)->1=J)∧((¬p1<O)->0=J))))):lP O p1 J:=by
 refine⟨I,I,?_⟩;refine qA 20 [] func57 λK Z=>?_;refine gR 8 I ?_;obtain⟨b,c,h⟩:=h;refine qC0 c I<|gR 6 I ?_;obtain⟨a,d,h⟩:=h;refine qC0 d rfl<|gR 9 rfl<|gB 11 rfl rfl rfl ?_ ?_<;>intro G;refine gT 5 I G I ?_;refine gT 8 I G I ?_;replace h:=h.1 G;refine gR 7 rfl<|gB 12 rfl rfl rfl ?_ ?_<;>intro G;refine gT 6 I G I ?_;refine gT 10 I G I ?_;replace h:=h.1 G;refine gR 9 I ?_;subst h;exact qN [.tmp 4];refine gF 6 I G I ?_;refine gF 10 I G I ?_;replace h:=h.2 G;refine gR 10 I ?_;subst h;exact qN [.tmp 4];refine gF 5 I G I ?_;refine gF 8 I G I ?_;replace h:=h.2 G;refine gR 9 rfl<|gB 13 rfl rfl rfl ?_ ?_<;>intro G;refine gT 6 I G I ?_;refine gT 10 I G I ?_;replace h:=h.1 G;refine gR 8 I ?_;subst h;exact qN [.tmp 4];refine gF 6 I G I ?_;refine gF 10 I G I ?_;replace h:=h.2 G;refine gR 11 rfl<|qBd 16 rfl rfl rfl h ?_ ?_<;>intro h;refine gR 8 I ?_;subst h;exact qN [.tmp 4];refine gR 11 rfl<|qBd 19 rfl rfl rfl h ?_ ?_<;>intro h;refine gR 8 I ?_;subst h;exact qN [.tmp 4];refine gR 9 I ?_;subst h;exact qN [.tmp 4]
def kv(m:Nat)(G p1:YI)(a:Nat)(J:Int):Prop:=z7 m [] f58 (q9<|qi J) (cL<|xE<|cB<|aj f58) [.blk 0,.seq<|xA<|aj f58] 36 [(0,.row 1<|List.map (V.int .i64) G),(1,.row 1<|List.map (V.int .i64) p1),(9,.row 1<|List.map (V.int .i64) G),(10,qi (G.length:Int)),(11,qi (a:Int))] ⟨0,[]⟩
theorem zF(m:Nat)(p0 p1:YI)(r0:Int)(h:kv m p0 p1 0 r0):pi p0 p1 r0:=by
 refine⟨I,I,?_⟩;refine qA 36 [] func58 λK hK=>?_;exact gR 10 I<|gV 10 (qi (p0.length:Int)) I (aP<|aQ (V.int .i64) _) I<|gLB 9 I (aQ (V.int .i64) _) λa=>gR 4 I<|go_loop m<|qW hK h []
theorem mW(m:Nat)(G p1:YI)(a:Nat)(J:Int)(h:y5 (a<G.length) (∃c,G[a]?=some c∧y5 (p1.length<=a) (1=J) (∃d,p1[a]?=some d∧∃b,lP c d b∧y9 b 0 (b=J) (a+1<=9223372036854775807∧kv m G p1 (a+1) J)))<|y5 (G.length<p1.length) ((-1)=J)<|0=J):kv (m+1) G p1 a J:=by
 refine qj λK j1 Z n=>?_;refine gR 6 rfl<|qXh 12 rfl rfl rfl h cg ch ?_ ?_<;>intro O h;refine gR 8 I ?_;obtain⟨c,e,h⟩:=h;refine gY (aI (aB (f:=(V.int .i64)) e) ai rfl rfl rfl rfl) rfl rfl<|gR 11 rfl<|gV 18 (qi (p1.length:Int)) rfl (aP<|aQ (V.int .i64) _) rfl<|gLB 17 rfl (aQ (V.int .i64) _) λj=>gR 3 rfl<|qXh 19 rfl rfl rfl h Tv To ?_ ?_<;>intro O h;refine gR 10 I<|go_xloopR<|gR 2 I ?_;subst h;exact qN [.tmp 4];refine gR 7 I ?_;obtain⟨d,g,h⟩:=h;refine gY (aI (aB (f:=(V.int .i64)) g) ai I I I I) I I<|gR 8 I ?_;obtain⟨b,i,h⟩:=h;refine qC0 i rfl<|gR 9 rfl<|qXh 28 rfl rfl rfl h cz bH ?_ ?_<;>intro O h;refine gR 10 I<|go_xloopR<|gR 2 I ?_;subst h;exact qN [.tmp 4];refine gR 5 I ?_;obtain⟨hb,h⟩:=h;exact gR 1 I<|gV 30 (qi ((a+1:Nat):Int)) I (am (by omega)<|by omega) I<|gR 2 I<|go_xloop<|qW Z h [];refine gR 3 rfl<|go_xloopE<|gR 7 rfl<|gV 32 (qi (G.length:Int)) rfl (aP<|aQ (V.int .i64) _) rfl<|gLB 31 rfl (aQ (V.int .i64) _) λk=>gR 2 rfl<|gV 34 (qi (p1.length:Int)) rfl (aP<|aQ (V.int .i64) _) rfl<|gLB 33 rfl (aQ (V.int .i64) _) λl=>gR 3 rfl<|qXh 35 rfl rfl rfl h cg ch ?_ ?_<;>intro O h;refine gR 8 I ?_;subst h;exact qN [.tmp 4];refine gR 9 I ?_;subst h;exact qN [.tmp 4]
theorem yE(m:Nat)(G p1:ak)(J:Int)(h:∃a,lP G.At.Module p1.At.Module a∧((a≠0)->a=J)∧((a=0)->∃b,pi G.At.Path p1.At.Path b∧((b≠0)->b=J)∧((b=0)->∃c,lP G.Kind p1.Kind c∧c=J))):fx G p1 J:=by
 refine⟨I,I,?_⟩;refine qA 32 [] func56 λK O=>?_;refine gR 3 I<|gFP 0 I I I I<|gR 1 I<|gFP 1 I I I I<|gR 12 I ?_;obtain⟨a,d,h⟩:=h;refine qC0 d rfl<|gR 9 rfl<|qBh 15 rfl rfl rfl h cz bH ?_ ?_<;>intro h;refine gR 9 I ?_;subst h;exact qN [.tmp 4];refine gR 12 I ?_;obtain⟨b,e,h⟩:=h;refine qC0 e rfl<|gR 9 rfl<|qBh 25 rfl rfl rfl h cz bH ?_ ?_<;>intro h;refine gR 9 I ?_;subst h;exact qN [.tmp 4];refine gR 9 I ?_;obtain⟨c,f,h⟩:=h;refine qC0 f I<|gR 4 I ?_;subst h;exact qN [.tmp 4]
def bW(m:Nat)(p1 p2 a:Int)(b m0:List ak):Prop:=z7 m [0] f133 (z6 (.tup []) ⟨1,[(0,.row 98 3<|List.map ak.w m0)]⟩) (cL<|xD<|aj f133) [.blk 0] 53 [(0,.sl 0),(1,qi p1),(2,qi p2),(3,.clo 56 []),(8,qi a)] ⟨1,[(0,.row 98 3<|List.map ak.w b)]⟩
def dr(m:Nat)(p1 p2:Int)(a:List ak)(b c:Int)(m0:List ak):Prop:=∀(K:Ctx) (G J:Nat),aw K [0]->m<=G->m<=J->qLG K f133 (z6 (.tup []) ⟨1,[(0,.row 98 3<|List.map ak.w m0)]⟩) (cL<|xD<|xL<|cB<|cL<|xD<|aj f133) [.loop (cL<|xD<|xL<|cB<|cL<|xD<|aj f133) G,.blk 2,.blk 1,.seq<|xA<|cL<|xD<|aj f133,.loop (cL<|xD<|aj f133) J,.blk 0] 53 (mkF 53 0 [(0,.sl 0),(1,qi p1),(2,qi p2),(3,.clo 56 []),(8,qi c),(9,qi b)]) ⟨1,[(0,.row 98 3<|List.map ak.w a)]⟩
theorem jw(m:Nat)(p0:List ak)(p1 p2:Int)(m0:List ak)(h:InI (p1+1)∧bW m p1 p2 (p1+1) p0 m0):dw p0 p1 p2 m0:=by
 refine qA 53 [0] func133 λK hK=>?_;refine gR 3 I ?_;obtain⟨hb,h⟩:=h;exact gR 1 I<|gV 11 (qi<|p1+1) I (am hb I) I<|gR 4 I<|go_loop m<|qW hK h [0]
theorem fb(m:Nat)(p1 p2 a:Int)(b m0:List ak)(h:y5 (a<p2) (dr m p1 p2 b a a m0)<|b=m0):bW (m+1) p1 p2 a b m0:=by
 refine qj λK j1 hK c=>?_;refine gR 8 rfl<|qXd 14 rfl rfl rfl h ?_ ?_<;>intro hd h;exact gR 12 I<|go_loop m<|qJ hK (h K _ _ hK (by omega)<|by omega) [0];refine gR 3 I<|go_xloopE<|gR 1 I ?_;subst h;exact gE hK [] [] [0] []
theorem eZ(m:Nat)(p1 p2:Int)(b:List ak)(a e:Int)(m0:List ak)(h:y5 (p1<a) (∃n,a=((n:Nat):Int)∧∃y,b[n]?=some y∧InI (a-1)∧∃o,(a-1)=((o:Nat):Int)∧∃z,b[o]?=some z∧∃p,fx y z p∧y5 (p<0) (InI (a-1)∧InI (a-1)∧∃q,(a-1)=((q:Nat):Int)∧∃g,b[q]?=some g∧∃r,a=((r:Nat):Int)∧∃i,b[r]?=some i∧∃c,a=((c:Nat):Int)∧∃α,b[c]?=some α∧∃d,(a-1)=((d:Nat):Int)∧∃β,(b.set c g)[d]?=some β∧InI (a-1)∧dr m p1 p2 ((b.set c g).set d i) (a-1) e m0) (InI (e+1)∧bW m p1 p2 (e+1) b m0))<|InI (e+1)∧bW m p1 p2 (e+1) b m0):dr (m+1) p1 p2 b a e m0:=by
 intro K J O G κ μ;obtain⟨J,rfl⟩:∃j,J=j+1:=⟨J-1,by omega⟩;obtain⟨O,rfl⟩:∃j,O=j+1:=⟨O-1,by omega⟩;refine gR 2 rfl<|qDs [0] 14 17<|qDr ((0,2)::(qR 1 3 0 [])) rfl rfl<|qXdZ 21 20 rfl rfl rfl rfl h ?_ ?_<;>intro Z h;refine qDr (qR 4 3 2 []) I I ?_;obtain⟨n,ε,h⟩:=h;refine gV 24 (qi ((n:Nat):Int)) I (bd ε) I ?_;obtain⟨y,s,h⟩:=h;refine gYd 7 I (by kernel_rfl) (yIO ai I I I I (qG (aB (f:=ak.w) s))) I I ?_;refine wT 8 I (by kernel_rfl) I ai I I I (aB (f:=ak.w) s) I I ?_;refine qDr [(9,2),(10,0)] I I ?_;obtain⟨hb,h⟩:=h;refine qDr [(11,0)] I I<|gV 29 (qi (a-1)) I (am hb I) I ?_;obtain⟨o,ζ,h⟩:=h;refine gV 29 (qi ((o:Nat):Int)) I (bd ζ) I ?_;obtain⟨z,t,h⟩:=h;refine cw 12 I (by kernel_rfl) (yIO ai I I I I (qG (aB (f:=ak.w) t))) I I ?_;refine bo 13 (.nop) I (by kernel_rfl) (dLe ai I I I (aB (f:=ak.w) t) I) trivial I (by kernel_rfl) I I ?_;obtain⟨p,ι,h⟩:=h;refine DH 14 ι (by kernel_rfl) I (by kernel_rfl) I I I .rfl I I ?_;refine qDr [(15,1),(16,1)] rfl rfl<|qDe<|gR 1 rfl<|qXd 34 rfl rfl rfl h ?_ ?_<;>intro Z h;refine gR 5 I<|qDs [0] 15 18<|qDr (qR 0 4 2 []) I I ?_;obtain⟨hb,h⟩:=h;refine qDr [(4,2)] I I<|gV 41 (qi (a-1)) I (am hb I) I<|qDr [(5,2),(6,2)] I I ?_;obtain⟨hb,h⟩:=h;refine qDr [(7,2)] I I<|gV 44 (qi (a-1)) I (am hb I) I ?_;obtain⟨q,η,h⟩:=h;refine gV 44 (qi ((q:Nat):Int)) I (bd η) I ?_;obtain⟨g,v,h⟩:=h;refine gYd 8 I (by kernel_rfl) (yIO ai I I I I (qG (aB (f:=ak.w) v))) I I ?_;refine wT 9 I (by kernel_rfl) I ai I I I (aB (f:=ak.w) v) I I ?_;refine qDr [(10,2),(11,0)] I I ?_;obtain⟨r,θ,h⟩:=h;refine gV 48 (qi ((r:Nat):Int)) I (bd θ) I ?_;obtain⟨i,x,h⟩:=h;refine cw 12 I (by kernel_rfl) (yIO ai I I I I (qG (aB (f:=ak.w) x))) I I ?_;refine bo 13 (.nop) I (by kernel_rfl) (dLe ai I I I (aB (f:=ak.w) x) I) trivial I (by kernel_rfl) I I ?_;obtain⟨c,γ,h⟩:=h;refine gV 38 (qi ((c:Nat):Int)) I (bd γ) I ?_;obtain⟨α,k,h⟩:=h;refine cw 14 I (by kernel_rfl) (yIO ai I I I I (qG (aB (f:=ak.w) k))) I I ?_;refine bo 15 (.set 0 (.row 98 3 (List.map ak.w (b.set c g)))) I (by kernel_rfl) (dSe ai I I I I (aB (f:=ak.w) k) I (lp ak.w b c g)) (okS I) I (by kernel_rfl) I I ?_;obtain⟨d,δ,h⟩:=h;refine gV 41 (qi ((d:Nat):Int)) I (bd δ) I ?_;obtain⟨β,l,h⟩:=h;refine cw 16 I (by kernel_rfl) (yIO ai I I I I (qG (aB (f:=ak.w) l))) I I ?_;refine bo 17 (.set 0 (.row 98 3 (List.map ak.w ((b.set c g).set d i)))) I (by kernel_rfl) (dSe ai I I I I (aB (f:=ak.w) l) I (lp ak.w (b.set c g) d i)) (okS I) I (by kernel_rfl) I I ?_;refine qDe<|gR 4 I ?_;obtain⟨hb,h⟩:=h;exact gR 1 I<|gV 36 (qi (a-1)) I (am hb I) I<|gR 2 I<|go_xloop<|qJ G (h K _ _ G (by omega) (by omega)) [0];refine gR 3 I<|go_xloopE<|gR 5 I ?_;obtain⟨hb,h⟩:=h;exact gR 1 I<|gV 16 (qi (e+1)) I (am hb I) I<|gR 2 I<|go_xloop<|qW G h [0];refine qDr (qR 4 6 2 (qR 10 6 0 [(16,1)])) I I<|qDe<|gR 4 I<|go_xloopE<|gR 5 I ?_;obtain⟨hb,h⟩:=h;exact gR 1 I<|gV 16 (qi (e+1)) I (am hb I) I<|gR 2 I<|go_xloop<|qW G h [0]
def fM(m:Nat)(p1:Int)(a:List ak)(b c:Nat)(m0:List ak):Prop:=z7 m [0] f88 (z6 (.tup []) ⟨1,[(0,.row 98 3<|List.map ak.w m0)]⟩) (cL<|xL<|xA<|aj f88) [.blk 0,.seq<|xH<|aj f88] 63 [(0,.sl 0),(1,qi p1),(2,.clo 56 []),(6,qi 20),(7,qi (b:Int)),(8,qi (c:Int))] ⟨1,[(0,.row 98 3<|List.map ak.w a)]⟩
def cx(m:Nat)(p1:Int)(a:List ak)(b:Int)(m0:List ak):Prop:=z7 m [0] f88 (z6 (.tup []) ⟨1,[(0,.row 98 3<|List.map ak.w m0)]⟩) (cL<|cK<|xJ<|aj f88) [.blk 2] 63 [(0,.sl 0),(1,qi p1),(2,.clo 56 []),(6,qi b)] ⟨1,[(0,.row 98 3<|List.map ak.w a)]⟩
def fG(m:Nat)(p1:Int)(a:List ak)(b c d:Int)(m0:List ak):Prop:=∀(K:Ctx) (G J:Nat),aw K [0]->m<=G->m<=J->qLG K f88 (z6 (.tup []) ⟨1,[(0,.row 98 3<|List.map ak.w m0)]⟩) (cL<|xL<|cB<|xD<|cL<|cK<|xJ<|aj f88) [.loop (cL<|xL<|cB<|xD<|cL<|cK<|xJ<|aj f88) G,.blk 4,.seq<|xA<|xD<|cL<|cK<|xJ<|aj f88,.blk 3,.loop (cL<|cK<|xJ<|aj f88) J,.blk 2] 63 (mkF 63 0 [(0,.sl 0),(1,qi p1),(2,.clo 56 []),(6,qi d),(7,qi b),(8,qi c)]) ⟨1,[(0,.row 98 3<|List.map ak.w a)]⟩
theorem ue(m:Nat)(p0:List ak)(p1:Int)(m0:List ak)(h:fM m p1 p0 0 20 m0):nY p0 p1 m0:=by
 refine qA 63 [0] func88 λK hK=>?_;exact gR 14 I<|go_loop m<|qW hK h [0]
theorem iO(m:Nat)(p1:Int)(d:List ak)(e a:Nat)(m0:List ak)(h:y5 ((a:Int)<=p1) (∃b,dw d (e:Int) (a:Int) b∧a+20<=9223372036854775807∧fM m p1 b a (a+20) m0)<|∃c,dw d (e:Int) p1 c∧cx m p1 c 20 m0):fM (m+1) p1 d e a m0:=by
 refine qj λK j1 hK i=>?_;refine gR 8 rfl<|qXd 13 rfl rfl rfl h ?_ ?_<;>intro hd h;refine gR 10 I ?_;obtain⟨b,f,h⟩:=h;refine qC f [0] ?_;refine gHR 0 (List.map ak.w b) I (vI _ b) I<|gR 11 I ?_;obtain⟨hb,h⟩:=h;exact gR 1 I<|gV 22 (qi ((a+20:Nat):Int)) I (am (by omega)<|by omega) I<|gR 3 I<|go_xloop<|qW hK h [0];refine gR 3 I<|go_xloopE<|gR 8 I ?_;obtain⟨c,g,h⟩:=h;refine qC g [0] ?_;exact gHR 0 (List.map ak.w c) I (vI _ c) I<|gR 3 I<|go_loop m<|qW hK h [0]
theorem mF(m:Nat)(p1:Int)(b:List ak)(a:Int)(m0:List ak)(h:y5 (a<p1) (InI (2*a)∧fG m p1 b 0 (2*a) a m0)<|b=m0):cx (m+1) p1 b a m0:=by
 refine qj λK j1 hK c=>?_;refine gR 8 rfl<|qXd 30 rfl rfl rfl h ?_ ?_<;>intro hd h;refine gR 7 I ?_;obtain⟨hb,h⟩:=h;exact gY (IP I I hb) I I<|gR 6 I<|go_loop m<|qJ hK (h K _ _ hK (by omega)<|by omega) [0];refine gR 3 I<|go_xloopE<|gR 1 I ?_;subst h;exact gE hK [] [] [0] []
theorem fp(m:Nat)(p1:Int)(f:List ak)(b c a:Int)(m0:List ak)(h:y5 (c<=p1) (InI (b+a)∧∃d,cW f b (b+a) c d∧InI (2*a)∧InI (c+(2*a))∧fG m p1 d c (c+(2*a)) a m0)<|InI (b+a)∧y5 ((b+a)<p1) (∃e,cW f b (b+a) p1 e∧InI (a*2)∧cx m p1 e (a*2) m0) (InI (a*2)∧cx m p1 f (a*2) m0)):fG (m+1) p1 f b c a m0:=by
 intro K J O G k l;obtain⟨J,rfl⟩:∃j,J=j+1:=⟨J-1,by omega⟩;obtain⟨O,rfl⟩:∃j,O=j+1:=⟨O-1,by omega⟩;refine gR 8 rfl<|qXd 35 rfl rfl rfl h ?_ ?_<;>intro Z h;refine gR 10 I ?_;obtain⟨hb,h⟩:=h;refine gR 1 I<|gV 40 (qi (b+a)) I (am hb I) I<|gR 2 I ?_;obtain⟨d,g,h⟩:=h;refine qC g [0] ?_;refine gHR 0 (List.map ak.w d) I (vI _ d) I<|gR 11 I ?_;obtain⟨hb,h⟩:=h;refine gY (IP I I hb) I I ?_;obtain⟨hb,h⟩:=h;exact gR 1 I<|gV 48 (qi (c+(2*a))) I (am hb I) I<|gR 3 I<|go_xloop<|qJ G (h K _ _ G (by omega) (by omega)) [0];refine gR 3 I<|go_xloopE<|gR 7 I ?_;obtain⟨hb,h⟩:=h;refine gR 1 rfl<|gV 51 (qi (b+a)) rfl (am hb rfl) rfl<|gR 10 rfl<|qXd 54 rfl rfl rfl h ?_ ?_<;>intro Z h;refine gR 7 I ?_;obtain⟨e,i,h⟩:=h;refine qC i [0] ?_;refine gHR 0 (List.map ak.w e) I (vI _ e) I<|gR 4 I ?_;obtain⟨hb,h⟩:=h;exact gY (IP I I hb) I I<|gR 3 I<|go_xloop<|qW G h [0];refine gR 5 I ?_;obtain⟨hb,h⟩:=h;exact gY (IP I I hb) I I<|gR 3 I<|go_xloop<|qW G h [0]
theorem tU(m:Nat)(G m0:List ak)(h:∃a,nY G (G.length:Int) a∧a=m0):fJ G m0:=by
 refine qA 9 [0] func55 λK J=>?_;refine gR 4 I<|gV 6 (qi (G.length:Int)) I (aP<|aQ ak.w _) I<|gLO 0 I (aQ ak.w _) λc=>gR 1 I ?_;obtain⟨a,b,h⟩:=h;refine qC b [0] ?_;refine gHR 0 (List.map ak.w a) I (vI _ a) I<|gR 1 I ?_;subst h;exact gE J [] [] [0] []
def bK(m:Nat)(G:List ak)(p1 a b:Int)(m0:List ak):Prop:=z7 m [0] f134 (z6 (.tup []) ⟨1,[(0,.row 98 3<|List.map ak.w m0)]⟩) (cL<|xL<|xA<|xK<|cA<|aj f134) [.blk 0,.seq<|xH<|xK<|cA<|aj f134,.seq<|cB<|aj f134] 220 [(0,.sl 0),(1,qi p1),(4,.clo 56 []),(10,qi a),(11,qi b)] ⟨1,[(0,.row 98 3<|List.map ak.w G)]⟩
def bJ(m:Nat)(G:List ak)(p2 a b:Int)(m0:List ak):Prop:=z7 m [0] f134 (z6 (.tup []) ⟨1,[(0,.row 98 3<|List.map ak.w m0)]⟩) (cL<|xL<|xA<|xK<|cA<|cB<|aj f134) [.blk 4,.seq<|xH<|xK<|cA<|cB<|aj f134,.seq<|xA<|aj f134] 220 [(0,.sl 0),(2,qi p2),(4,.clo 56 []),(14,qi a),(15,qi b)] ⟨1,[(0,.row 98 3<|List.map ak.w G)]⟩
def ba(m:Nat)(G:List ak)(p1 p2 p3:Int)(a:Nat)(b c:Int)(m0:List ak):Prop:=z7 m [0] f134 (z6 (.tup []) ⟨1,[(0,.row 98 3<|List.map ak.w m0)]⟩) (cL<|xL<|xJ<|xH<|aj f134) [.blk 8,.seq<|xJ<|xJ<|aj f134] 220 [(0,.sl 0),(1,qi p1),(2,qi p2),(3,qi p3),(4,.clo 56 []),(18,qi ((a/2:Nat):Int)),(19,qi<|((a/2:Nat):Int)+p2),(20,qi b),(21,qi c),(22,qi<|(((a/2:Nat):Int)+p2)-1)] ⟨1,[(0,.row 98 3<|List.map ak.w G)]⟩
def dp(m:Nat)(a:List ak)(b c:Int)(m0:List ak):Prop:=z7 m [0] f134 (z6 (.tup []) ⟨1,[(0,.row 98 3<|List.map ak.w m0)]⟩) (xI<|cB<|xK<|cA<|aj f134) [.blk 2,.seq<|xJ<|xK<|cA<|aj f134,.seq<|cB<|aj f134] 220 [(0,.sl 0),(10,qi c),(13,qi b)] ⟨1,[(0,.row 98 3<|List.map ak.w a)]⟩
def dt(m:Nat)(a:List ak)(b c:Int)(m0:List ak):Prop:=z7 m [0] f134 (z6 (.tup []) ⟨1,[(0,.row 98 3<|List.map ak.w m0)]⟩) (xI<|cB<|xK<|cA<|cB<|aj f134) [.blk 6,.seq<|xJ<|xK<|cA<|cB<|aj f134,.seq<|xA<|aj f134] 220 [(0,.sl 0),(14,qi c),(17,qi b)] ⟨1,[(0,.row 98 3<|List.map ak.w a)]⟩
def dq(m:Nat)(p1 p2 p3:Int)(a:Nat)(b:Int)(c m0:List ak):Prop:=z8 [0] f134 (z6 (.tup []) ⟨1,[(0,.row 98 3<|List.map ak.w m0)]⟩) (xJ<|xJ<|xA<|aj f134) [] 220 [(0,.sl 0),(1,qi p1),(3,qi p3),(4,.clo 56 []),(18,qi ((a/2:Nat):Int)),(20,qi b),(24,qi<|(((a/2:Nat):Int)+p2)-b)] ⟨1,[(0,.row 98 3<|List.map ak.w c)]⟩
def cQ(m:Nat)(p2 p3:Int)(a:Nat)(b:Int)(c m0:List ak):Prop:=z8 [0] f134 (z6 (.tup []) ⟨1,[(0,.row 98 3<|List.map ak.w m0)]⟩) (xJ<|xJ<|xH<|aj f134) [] 220 [(0,.sl 0),(3,qi p3),(4,.clo 56 []),(18,qi ((a/2:Nat):Int)),(24,qi<|(((a/2:Nat):Int)+p2)-b)] ⟨1,[(0,.row 98 3<|List.map ak.w c)]⟩
theorem eX(m:Nat)(p0:List ak)(p1 p2 p3:Int)(m0:List ak)(h:InI (p2-p1)∧y8 (p2-p1) 1 (bK m p0 p1 p2 p3 m0) (InI (p3-p2)∧y8 (p3-p2) 1 (bJ m p0 p2 p1 p2 m0) (InI (p1+p3)∧∃a,(p1+p3)=((a:Nat):Int)∧a<=9223372036854775807∧a/2<=9223372036854775807∧InI (((a/2:Nat):Int)+p2)∧y5 (((a/2:Nat):Int)<p2) (InI ((((a/2:Nat):Int)+p2)-p3)∧InI ((((a/2:Nat):Int)+p2)-1)∧ba m p0 p1 p2 p3 a ((((a/2:Nat):Int)+p2)-p3) ((a/2:Nat):Int) m0) (InI ((((a/2:Nat):Int)+p2)-1)∧ba m p0 p1 p2 p3 a p1 p2 m0)))):cW p0 p1 p2 p3 m0:=by
 refine qA 220 [0] func134 λK hK=>?_;refine gR 5 I ?_;obtain⟨hb,h⟩:=h;refine gR 1 rfl<|gV 27 (qi<|p2-p1) rfl (am hb rfl) rfl<|gR 3 rfl<|qXe 28 rfl rfl rfl h ?_ ?_<;>intro hd h;exact gR 15 I<|go_loop m<|qW hK h [0];refine gR 8 I ?_;obtain⟨hb,h⟩:=h;refine gR 1 rfl<|gV 79 (qi<|p3-p2) rfl (am hb rfl) rfl<|gR 3 rfl<|qXe 80 rfl rfl rfl h ?_ ?_<;>intro hd h;exact gR 15 I<|go_loop m<|qW hK h [0];refine gR 7 I ?_;obtain⟨hb,h⟩:=h;refine gR 1 I<|gV 131 (qi<|p1+p3) I (am hb I) I ?_;obtain⟨a,b,h⟩:=h;refine gV 131 (qi ((a:Nat):Int)) I (bd b) I ?_;obtain⟨hb,h⟩:=h;refine gY (yCv underlying3 underlying212 I<|DE (by omega)<|by omega) I I<|gY (IV I I) I I ?_;obtain⟨hb,h⟩:=h;refine gY (yCv underlying212 underlying3 I<|DC (by omega)<|by omega) I I<|gR 7 I ?_;obtain⟨hb,h⟩:=h;refine gR 1 rfl<|gV 137 (qi<|((a/2:Nat):Int)+p2) rfl (am hb rfl) rfl<|gR 17 rfl<|qXd 140 rfl rfl rfl h ?_ ?_<;>intro hd h;refine gR 5 I ?_;obtain⟨hb,h⟩:=h;refine gR 1 I<|gV 143 (qi<|(((a/2:Nat):Int)+p2)-p3) I (am hb I) I<|gR 11 I ?_;obtain⟨hb,h⟩:=h;exact gR 1 I<|gV 148 (qi<|(((a/2:Nat):Int)+p2)-1) I (am hb I) I<|gR 5 I<|go_loop m<|qW hK h [0];refine gR 15 I ?_;obtain⟨hb,h⟩:=h;exact gR 1 I<|gV 148 (qi<|(((a/2:Nat):Int)+p2)-1) I (am hb I) I<|gR 5 I<|go_loop m<|qW hK h [0]
theorem gX(m:Nat)(p0:List ak)(p1 b c:Int)(m0:List ak)(h:y5 (b<c) (InI (b+c)∧∃a,(b+c)=((a:Nat):Int)∧a<=9223372036854775807∧a/2<=9223372036854775807∧∃j,p0[a/2]?=some j∧∃d,p1=((d:Nat):Int)∧∃k,p0[d]?=some k∧∃e,fx j k e∧y5 (e<0) (a/2+1<=9223372036854775807∧bK m p0 p1 ((a/2+1:Nat):Int) c m0) (bK m p0 p1 b ((a/2:Nat):Int) m0))<|dp m p0 p1 b m0):bK (m+1) p0 p1 b c m0:=by
 refine qj λK j1 hK p=>?_;refine gR 8 rfl<|qXd 33 rfl rfl rfl h ?_ ?_<;>intro hd h;refine gR 8 I ?_;obtain⟨hb,h⟩:=h;refine gR 1 I<|gV 36 (qi<|b+c) I (am hb I) I ?_;obtain⟨a,l,h⟩:=h;refine gV 36 (qi ((a:Nat):Int)) I (bd l) I ?_;obtain⟨hb,h⟩:=h;refine gY (yCv underlying3 underlying212 I<|DE (by omega)<|by omega) I I<|gY (IV I I) I I ?_;obtain⟨hb,h⟩:=h;refine gY (yCv underlying212 underlying3 I<|DC (by omega)<|by omega) I I<|gR 4 I<|qDs [0] 9 11<|qDr (qR 0 3 2 []) I I ?_;obtain⟨j,g,h⟩:=h;refine gYd 3 I (by kernel_rfl) (yIO ai I I I I<|qG<|aB (f:=ak.w) g) I I ?_;refine wT 4 I (by kernel_rfl) I ai I I I (aB (f:=ak.w) g) I I ?_;refine qDr [(5,2),(6,0)] I I ?_;obtain⟨d,n,h⟩:=h;refine gV 46 (qi ((d:Nat):Int)) I (bd n) I ?_;obtain⟨k,i,h⟩:=h;refine cw 7 I (by kernel_rfl) (yIO ai I I I I<|qG<|aB (f:=ak.w) i) I I ?_;refine bo 8 (.nop) I (by kernel_rfl) (dLe ai I I I (aB (f:=ak.w) i) I) trivial I (by kernel_rfl) I I ?_;obtain⟨e,o,h⟩:=h;refine DH 9 o (by kernel_rfl) I (by kernel_rfl) I I I .rfl I I ?_;refine qDr [(10,1)] rfl rfl<|qDe<|gR 1 rfl<|qXd 50 rfl rfl rfl h ?_ ?_<;>intro hd h;refine gR 3 I ?_;obtain⟨hb,h⟩:=h;exact gR 1 I<|gV 52 (qi ((a/2+1:Nat):Int)) I (am (by omega)<|by omega) I<|gR 3 I<|go_xloop<|qW hK h [0];exact gR 6 I<|go_xloop<|qW hK h [0];exact gR 3 I<|go_xloopE<|gR 10 I<|go_loop m<|qW hK h [0]
theorem gW(m:Nat)(p0:List ak)(p2 b c:Int)(m0:List ak)(h:y5 (b<c) (InI (b+c)∧∃a,(b+c)=((a:Nat):Int)∧a<=9223372036854775807∧a/2<=9223372036854775807∧∃d,p2=((d:Nat):Int)∧∃j,p0[d]?=some j∧∃k,p0[a/2]?=some k∧∃e,fx j k e∧((¬e<0)->a/2+1<=9223372036854775807∧bJ m p0 p2 ((a/2+1:Nat):Int) c m0)∧((e<0)->bJ m p0 p2 b ((a/2:Nat):Int) m0))<|dt m p0 p2 b m0):bJ (m+1) p0 p2 b c m0:=by
 refine qj λK j1 hK p=>?_;refine gR 8 rfl<|qXd 85 rfl rfl rfl h ?_ ?_<;>intro hd h;refine gR 8 I ?_;obtain⟨hb,h⟩:=h;refine gR 1 I<|gV 88 (qi<|b+c) I (am hb I) I ?_;obtain⟨a,l,h⟩:=h;refine gV 88 (qi ((a:Nat):Int)) I (bd l) I ?_;obtain⟨hb,h⟩:=h;refine gY (yCv underlying3 underlying212 I<|DE (by omega)<|by omega) I I<|gY (IV I I) I I ?_;obtain⟨hb,h⟩:=h;refine gY (yCv underlying212 underlying3 I<|DC (by omega)<|by omega) I I<|gR 4 I<|qDs [0] 9 12<|qDr (qR 0 3 2 []) I I ?_;obtain⟨d,n,h⟩:=h;refine gV 94 (qi ((d:Nat):Int)) I (bd n) I ?_;obtain⟨j,g,h⟩:=h;refine gYd 3 I (by kernel_rfl) (yIO ai I I I I<|qG<|aB (f:=ak.w) g) I I ?_;refine wT 4 I (by kernel_rfl) I ai I I I (aB (f:=ak.w) g) I I ?_;refine qDr [(5,2),(6,0)] I I ?_;obtain⟨k,i,h⟩:=h;refine cw 7 I (by kernel_rfl) (yIO ai I I I I<|qG<|aB (f:=ak.w) i) I I ?_;refine bo 8 (.nop) I (by kernel_rfl) (dLe ai I I I (aB (f:=ak.w) i) I) trivial I (by kernel_rfl) I I ?_;obtain⟨e,o,h⟩:=h;refine DH 9 o (by kernel_rfl) I (by kernel_rfl) I I I .rfl I I ?_;refine qDr [(10,1),(11,1)] rfl rfl<|qDe<|gR 1 rfl<|qXh 103 rfl rfl rfl h (λhd=>of_decide_eq_false<|cv hd) (λhd=>of_decide_eq_true<|cu hd) ?_ ?_<;>intro hd h;refine gR 3 I ?_;obtain⟨hb,h⟩:=h;exact gR 1 I<|gV 105 (qi ((a/2+1:Nat):Int)) I (am (by omega)<|by omega) I<|gR 3 I<|go_xloop<|qW hK h [0];exact gR 6 I<|go_xloop<|qW hK h [0];exact gR 3 I<|go_xloopE<|gR 10 I<|go_loop m<|qW hK h [0]
theorem rL2_slices_symMergeCmpFunc(m:Nat)(G:List ak)(p1 p2 p3:Int)(b:Nat)(a d:Int)(m0:List ak)(h:y5 (a<d) (InI (a+d)∧∃c,(a+d)=((c:Nat):Int)∧c<=9223372036854775807∧c/2<=9223372036854775807∧InI (((((b/2:Nat):Int)+p2)-1)-((c/2:Nat):Int))∧∃g,(((((b/2:Nat):Int)+p2)-1)-((c/2:Nat):Int))=((g:Nat):Int)∧∃l,G[g]?=some l∧∃n,G[c/2]?=some n∧∃i,fx l n i∧((¬i<0)->c/2+1<=9223372036854775807∧ba m G p1 p2 p3 b ((c/2+1:Nat):Int) d m0)∧((i<0)->ba m G p1 p2 p3 b a ((c/2:Nat):Int) m0))<|InI ((((b/2:Nat):Int)+p2)-a)∧y5 (a<p2) (y5 (p2<((((b/2:Nat):Int)+p2)-a)) (∃e,jX G a p2 ((((b/2:Nat):Int)+p2)-a) e∧dq m p1 p2 p3 b a e m0)<|dq m p1 p2 p3 b a G m0) (dq m p1 p2 p3 b a G m0)):ba (m+1) G p1 p2 p3 b a d m0:=by
 refine qj λK Z J s=>?_;refine gR 8 rfl<|qXd 151 rfl rfl rfl h ?_ ?_<;>intro O h;refine gR 8 I ?_;obtain⟨hb,h⟩:=h;refine gR 1 I<|gV 154 (qi<|a+d) I (am hb I) I ?_;obtain⟨c,o,h⟩:=h;refine gV 154 (qi ((c:Nat):Int)) I (bd o) I ?_;obtain⟨hb,h⟩:=h;refine gY (yCv underlying3 underlying212 I<|DE (by omega)<|by omega) I I<|gY (IV I I) I I ?_;obtain⟨hb,h⟩:=h;refine gY (yCv underlying212 underlying3 I<|DC (by omega)<|by omega) I I<|gR 4 I<|qDs [0] 11 14<|qDr (qR 0 4 2 []) I I ?_;obtain⟨hb,h⟩:=h;refine qDr [(4,2)] I I<|gV 162 (qi<|((((b/2:Nat):Int)+p2)-1)-((c/2:Nat):Int)) I (am hb I) I ?_;obtain⟨g,p,h⟩:=h;refine gV 162 (qi ((g:Nat):Int)) I (bd p) I ?_;obtain⟨l,j,h⟩:=h;refine gYd 5 I (by kernel_rfl) (yIO ai I I I I<|qG<|aB (f:=ak.w) j) I I ?_;refine wT 6 I (by kernel_rfl) I ai I I I (aB (f:=ak.w) j) I I ?_;refine qDr [(7,2),(8,0)] I I ?_;obtain⟨n,k,h⟩:=h;refine cw 9 I (by kernel_rfl) (yIO ai I I I I<|qG<|aB (f:=ak.w) k) I I ?_;refine bo 10 (.nop) I (by kernel_rfl) (dLe ai I I I (aB (f:=ak.w) k) I) trivial I (by kernel_rfl) I I ?_;obtain⟨i,q,h⟩:=h;refine DH 11 q (by kernel_rfl) I (by kernel_rfl) I I I .rfl I I ?_;refine qDr [(12,1),(13,1)] rfl rfl<|qDe<|gR 1 rfl<|qXh 171 rfl rfl rfl h (λO=>of_decide_eq_false<|cv O) (λO=>of_decide_eq_true<|cu O) ?_ ?_<;>intro O h;refine gR 3 I ?_;obtain⟨hb,h⟩:=h;exact gR 1 I<|gV 173 (qi ((c/2+1:Nat):Int)) I (am (by omega)<|by omega) I<|gR 3 I<|go_xloop<|qW J h [0];exact gR 6 I<|go_xloop<|qW J h [0];refine gR 3 I<|go_xloopE<|gR 6 I ?_;obtain⟨hb,h⟩:=h;refine gR 1 rfl<|gV 177 (qi<|(((b/2:Nat):Int)+p2)-a) rfl (am hb rfl) rfl<|gR 10 rfl<|qXdZ 181 180 rfl rfl rfl rfl h ?_ ?_<;>intro O h;refine gR 6 rfl<|qXd 185 rfl rfl rfl h ?_ ?_<;>intro O h;refine gR 7 I ?_;obtain⟨e,r,h⟩:=h;refine qC r [0] ?_;exact gHR 0 (List.map ak.w e) I (vI _ e) I<|gR 2 I<|qJ J (h K J) [0];exact gR 3 I<|qJ J (h K J) [0];exact gR 9 I<|qJ J (h K J) [0]
theorem lT(m:Nat)(b:List ak)(a g:Int)(m0:List ak)(h:InI (g-1)∧y5 (a<(g-1)) (InI (a+1)∧InI (a+1)∧∃j,(a+1)=((j:Nat):Int)∧∃d,b[j]?=some d∧∃k,a=((k:Nat):Int)∧∃i,b[k]?=some i∧∃c,a=((c:Nat):Int)∧∃q,b[c]?=some q∧∃e,(a+1)=((e:Nat):Int)∧∃r,(b.set c d)[e]?=some r∧InI (a+1)∧dp m ((b.set c d).set e i) (a+1) g m0) (b=m0)):dp (m+1) b a g m0:=by
 refine qj λK J G y=>?_;refine gR 5 I ?_;obtain⟨hb,h⟩:=h;refine gR 1 rfl<|gV 57 (qi<|g-1) rfl (am hb rfl) rfl<|gR 3 rfl<|qXd 58 rfl rfl rfl h ?_ ?_<;>intro O h;refine gR 5 I<|qDs [0] 15 18<|qDr (qR 0 4 2 []) I I ?_;obtain⟨hb,h⟩:=h;refine qDr [(4,2)] I I<|gV 65 (qi<|a+1) I (am hb I) I<|qDr [(5,2),(6,2)] I I ?_;obtain⟨hb,h⟩:=h;refine qDr [(7,2)] I I<|gV 68 (qi<|a+1) I (am hb I) I ?_;obtain⟨j,s,h⟩:=h;refine gV 68 (qi ((j:Nat):Int)) I (bd s) I ?_;obtain⟨d,l,h⟩:=h;refine gYd 8 I (by kernel_rfl) (yIO ai I I I I<|qG<|aB (f:=ak.w) l) I I ?_;refine wT 9 I (by kernel_rfl) I ai I I I (aB (f:=ak.w) l) I I ?_;refine qDr [(10,2),(11,0)] I I ?_;obtain⟨k,t,h⟩:=h;refine gV 72 (qi ((k:Nat):Int)) I (bd t) I ?_;obtain⟨i,n,h⟩:=h;refine cw 12 I (by kernel_rfl) (yIO ai I I I I<|qG<|aB (f:=ak.w) n) I I ?_;refine bo 13 (.nop) I (by kernel_rfl) (dLe ai I I I (aB (f:=ak.w) n) I) trivial I (by kernel_rfl) I I ?_;obtain⟨c,v,h⟩:=h;refine gV 62 (qi ((c:Nat):Int)) I (bd v) I ?_;obtain⟨q,o,h⟩:=h;refine cw 14 I (by kernel_rfl) (yIO ai I I I I<|qG<|aB (f:=ak.w) o) I I ?_;refine bo 15 (.set 0<|.row 98 3<|List.map ak.w<|b.set c d) I (by kernel_rfl) (dSe ai I I I I (aB (f:=ak.w) o) I<|lp ak.w b c d) (okS I) I (by kernel_rfl) I I ?_;obtain⟨e,x,h⟩:=h;refine gV 65 (qi ((e:Nat):Int)) I (bd x) I ?_;obtain⟨r,p,h⟩:=h;refine cw 16 I (by kernel_rfl) (yIO ai I I I I<|qG<|aB (f:=ak.w) p) I I ?_;refine bo 17 (.set 0<|.row 98 3<|List.map ak.w<|(b.set c d).set e i) I (by kernel_rfl) (dSe ai I I I I (aB (f:=ak.w) p) I<|lp ak.w (b.set c d) e i) (okS I) I (by kernel_rfl) I I ?_;refine qDe<|gR 4 I ?_;obtain⟨hb,h⟩:=h;exact gR 1 I<|gV 60 (qi<|a+1) I (am hb I) I<|gR 2 I<|go_xloop<|qW G h [0];refine gR 3 I<|go_xloopE<|gR 4 I ?_;subst h;exact gE G [] [] [0] []
theorem lN(m:Nat)(b:List ak)(a i:Int)(m0:List ak)(h:y5 (i<a) (InI (a-1)∧InI (a-1)∧∃j,(a-1)=((j:Nat):Int)∧∃d,b[j]?=some d∧∃k,a=((k:Nat):Int)∧∃g,b[k]?=some g∧∃c,a=((c:Nat):Int)∧∃q,b[c]?=some q∧∃e,(a-1)=((e:Nat):Int)∧∃r,(b.set c d)[e]?=some r∧InI (a-1)∧dt m ((b.set c d).set e g) (a-1) i m0)<|b=m0):dt (m+1) b a i m0:=by
 refine qj λK J G y=>?_;refine gR 8 rfl<|qXd 110 rfl rfl rfl h ?_ ?_<;>intro O h;refine gR 5 I<|qDs [0] 15 18<|qDr (qR 0 4 2 []) I I ?_;obtain⟨hb,h⟩:=h;refine qDr [(4,2)] I I<|gV 117 (qi<|a-1) I (am hb I) I<|qDr [(5,2),(6,2)] I I ?_;obtain⟨hb,h⟩:=h;refine qDr [(7,2)] I I<|gV 120 (qi<|a-1) I (am hb I) I ?_;obtain⟨j,s,h⟩:=h;refine gV 120 (qi ((j:Nat):Int)) I (bd s) I ?_;obtain⟨d,l,h⟩:=h;refine gYd 8 I (by kernel_rfl) (yIO ai I I I I<|qG<|aB (f:=ak.w) l) I I ?_;refine wT 9 I (by kernel_rfl) I ai I I I (aB (f:=ak.w) l) I I ?_;refine qDr [(10,2),(11,0)] I I ?_;obtain⟨k,t,h⟩:=h;refine gV 124 (qi ((k:Nat):Int)) I (bd t) I ?_;obtain⟨g,n,h⟩:=h;refine cw 12 I (by kernel_rfl) (yIO ai I I I I<|qG<|aB (f:=ak.w) n) I I ?_;refine bo 13 (.nop) I (by kernel_rfl) (dLe ai I I I (aB (f:=ak.w) n) I) trivial I (by kernel_rfl) I I ?_;obtain⟨c,v,h⟩:=h;refine gV 114 (qi ((c:Nat):Int)) I (bd v) I ?_;obtain⟨q,o,h⟩:=h;refine cw 14 I (by kernel_rfl) (yIO ai I I I I<|qG<|aB (f:=ak.w) o) I I ?_;refine bo 15 (.set 0<|.row 98 3<|List.map ak.w<|b.set c d) I (by kernel_rfl) (dSe ai I I I I (aB (f:=ak.w) o) I<|lp ak.w b c d) (okS I) I (by kernel_rfl) I I ?_;obtain⟨e,x,h⟩:=h;refine gV 117 (qi ((e:Nat):Int)) I (bd x) I ?_;obtain⟨r,p,h⟩:=h;refine cw 16 I (by kernel_rfl) (yIO ai I I I I<|qG<|aB (f:=ak.w) p) I I ?_;refine bo 17 (.set 0<|.row 98 3<|List.map ak.w<|(b.set c d).set e g) I (by kernel_rfl) (dSe ai I I I I (aB (f:=ak.w) p) I<|lp ak.w (b.set c d) e g) (okS I) I (by kernel_rfl) I I ?_;refine qDe<|gR 4 I ?_;obtain⟨hb,h⟩:=h;exact gR 1 I<|gV 112 (qi<|a-1) I (am hb I) I<|gR 2 I<|go_xloop<|qW G h [0];refine gR 3 I<|go_xloopE<|gR 4 I ?_;subst h;exact gE G [] [] [0] []
theorem lR(m:Nat)(p1 p2 p3:Int)(b:Nat)(a:Int)(d m0:List ak)(h:y5 (p1<a) (y5 (a<((b/2:Nat):Int)) (∃c,cW d p1 a ((b/2:Nat):Int) c∧cQ m p2 p3 b a c m0)<|cQ m p2 p3 b a d m0)<|cQ m p2 p3 b a d m0):dq (m+1) p1 p2 p3 b a d m0:=by
 intro K G;refine gR 7 rfl<|qBdZ 195 194 rfl rfl rfl rfl h ?_ ?_<;>intro h;refine gR 6 rfl<|qBd 199 rfl rfl rfl h ?_ ?_<;>intro h;refine gR 7 I ?_;obtain⟨c,e,h⟩:=h;refine qC e [0] ?_;exact gHR 0 (List.map ak.w c) I (vI _ c) I<|gR 2 I<|qJ G (h K G) [0];exact gR 3 I<|qJ G (h K G) [0];exact gR 9 I<|qJ G (h K G) [0]
theorem lQ(m:Nat)(p2 p3:Int)(a:Nat)(b:Int)(d m0:List ak)(h:y5 (((a/2:Nat):Int)<((((a/2:Nat):Int)+p2)-b)) (y5 (((((a/2:Nat):Int)+p2)-b)<p3) (∃c,cW d ((a/2:Nat):Int) ((((a/2:Nat):Int)+p2)-b) p3 c∧c=m0)<|d=m0)<|d=m0):cQ (m+1) p2 p3 a b d m0:=by
 intro K G;refine gR 6 rfl<|qBdZ 209 208 rfl rfl rfl rfl h ?_ ?_<;>intro h;refine gR 6 rfl<|qBd 213 rfl rfl rfl h ?_ ?_<;>intro h;refine gR 7 I ?_;obtain⟨c,e,h⟩:=h;refine qC e [0] ?_;refine gHR 0 (List.map ak.w c) I (vI _ c) I<|gR 1 I ?_;subst h;exact gE G [] [] [0] [];refine gR 2 I ?_;subst h;exact gE G [] [] [0] [];refine gR 8 I ?_;subst h;exact gE G [] [] [0] []
def dN(m:Nat)(p2:Int)(a:List ak)(b c:Int)(m0:List ak):Prop:=z7 m [0] f170 (z6 (.tup []) ⟨1,[(0,.row 98 3<|List.map ak.w m0)]⟩) (cL<|xL<|xA<|aj f170) [.blk 0,.seq<|xH<|aj f170] 58 [(0,.sl 0),(2,qi p2),(4,.clo 56 []),(10,qi b),(11,qi c)] ⟨1,[(0,.row 98 3<|List.map ak.w a)]⟩
theorem un(m:Nat)(p0:List ak)(p1 p2 p3:Int)(m0:List ak)(h:InI (p2-p1)∧InI (p3-p2)∧dN m p2 p0 (p2-p1) (p3-p2) m0):jX p0 p1 p2 p3 m0:=by
 refine qA 58 [0] func170 λK hK=>?_;refine gR 4 I ?_;obtain⟨hb,h⟩:=h;refine gR 1 I<|gV 14 (qi<|p2-p1) I (am hb I) I<|gR 7 I ?_;obtain⟨hb,h⟩:=h;exact gR 1 I<|gV 17 (qi<|p3-p2) I (am hb I) I<|gR 5 I<|go_loop m<|qW hK h [0]
theorem iK(m:Nat)(p2:Int)(f:List ak)(a b:Int)(m0:List ak)(h:y9 a b (y5 (b<a) (InI (p2-a)∧∃c,dn f (p2-a) p2 b c∧InI (a-b)∧dN m p2 c (a-b) b m0)<|InI (p2-a)∧InI (p2+b)∧InI ((p2+b)-a)∧∃d,dn f (p2-a) ((p2+b)-a) a d∧InI (b-a)∧dN m p2 d a (b-a) m0)<|InI (p2-a)∧∃e,dn f (p2-a) p2 a e∧e=m0):dN (m+1) p2 f a b m0:=by
 refine qj λK O G k=>?_;refine gR 8 rfl<|qXh 20 rfl rfl rfl h cz bH ?_ ?_<;>intro J h;refine gR 11 rfl<|qXd 23 rfl rfl rfl h ?_ ?_<;>intro J h;refine gR 6 I ?_;obtain⟨hb,h⟩:=h;refine gR 1 I<|gV 27 (qi<|p2-a) I (am hb I) I<|gR 3 I ?_;obtain⟨c,g,h⟩:=h;refine qC g [0] ?_;refine gHR 0 (List.map ak.w c) I (vI _ c) I<|gR 5 I ?_;obtain⟨hb,h⟩:=h;exact gR 1 I<|gV 34 (qi<|a-b) I (am hb I) I<|gR 3 I<|go_xloop<|qW G h [0];refine gR 6 I ?_;obtain⟨hb,h⟩:=h;refine gR 1 I<|gV 38 (qi<|p2-a) I (am hb I) I<|gR 2 I ?_;obtain⟨hb,h⟩:=h;refine gR 1 I<|gV 41 (qi<|p2+b) I (am hb I) I<|gR 1 I ?_;obtain⟨hb,h⟩:=h;refine gR 1 I<|gV 43 (qi<|(p2+b)-a) I (am hb I) I<|gR 2 I ?_;obtain⟨d,i,h⟩:=h;refine qC i [0] ?_;refine gHR 0 (List.map ak.w d) I (vI _ d) I<|gR 5 I ?_;obtain⟨hb,h⟩:=h;exact gR 1 I<|gV 49 (qi<|b-a) I (am hb I) I<|gR 3 I<|go_xloop<|qW G h [0];refine gR 3 I<|go_xloopE<|gR 6 I ?_;obtain⟨hb,h⟩:=h;refine gR 1 I<|gV 53 (qi<|p2-a) I (am hb I) I<|gR 3 I ?_;obtain⟨e,j,h⟩:=h;refine qC j [0] ?_;refine gHR 0 (List.map ak.w e) I (vI _ e) I<|gR 1 I ?_;subst h;exact gE G [] [] [0] []
def L0_slices_swapRangeCmpFunc(m:Nat)(p1 p2 p3:Int)(a:List ak)(b:Nat)(m0:List ak):Prop:=z7 m [0] f195 (z6 (.tup []) ⟨1,[(0,.row 98 3<|List.map ak.w m0)]⟩) (cL<|xD<|aj f195) [.blk 0] 38 [(0,.sl 0),(1,qi p1),(2,qi p2),(3,qi p3),(10,qi (b:Int))] ⟨1,[(0,.row 98 3<|List.map ak.w a)]⟩
theorem rS_slices_swapRangeCmpFunc(m:Nat)(p0:List ak)(p1 p2 p3:Int)(m0:List ak)(h:L0_slices_swapRangeCmpFunc m p1 p2 p3 p0 0 m0):dn p0 p1 p2 p3 m0:=by
 refine qA 38 [0] func195 λK hK=>?_;exact gR 6 I<|go_loop m<|qW hK h [0]
theorem lg(m:Nat)(p1 p2 p3:Int)(b:List ak)(a:Nat)(m0:List ak)(h:y5 ((a:Int)<p3) (InI (p1+(a:Int))∧InI (p2+(a:Int))∧InI (p2+(a:Int))∧∃i,(p2+(a:Int))=((i:Nat):Int)∧∃d,b[i]?=some d∧InI (p1+(a:Int))∧∃j,(p1+(a:Int))=((j:Nat):Int)∧∃g,b[j]?=some g∧∃c,(p1+(a:Int))=((c:Nat):Int)∧∃p,b[c]?=some p∧∃e,(p2+(a:Int))=((e:Nat):Int)∧∃q,(b.set c d)[e]?=some q∧a+1<=9223372036854775807∧L0_slices_swapRangeCmpFunc m p1 p2 p3 ((b.set c d).set e g) (a+1) m0)<|b=m0):L0_slices_swapRangeCmpFunc (m+1) p1 p2 p3 b a m0:=by
 refine qj λK J G x=>?_;refine gR 8 rfl<|qXd 13 rfl rfl rfl h ?_ ?_<;>intro O h;refine gR 5 I<|qDs [0] 21 24<|qDr (qR 0 3 2 []) I I ?_;obtain⟨hb,h⟩:=h;refine qDr [(3,2)] I I<|gV 19 (qi<|p1+(a:Int)) I (am hb I) I<|qDr (qR 4 3 2 []) I I ?_;obtain⟨hb,h⟩:=h;refine qDr [(7,2)] I I<|gV 23 (qi<|p2+(a:Int)) I (am hb I) I<|qDr (qR 8 3 2 []) I I ?_;obtain⟨hb,h⟩:=h;refine qDr [(11,2)] I I<|gV 27 (qi<|p2+(a:Int)) I (am hb I) I ?_;obtain⟨i,r,h⟩:=h;refine gV 27 (qi ((i:Nat):Int)) I (bd r) I ?_;obtain⟨d,k,h⟩:=h;refine gYd 12 I (by kernel_rfl) (yIO ai I I I I<|qG<|aB (f:=ak.w) k) I I ?_;refine wT 13 I (by kernel_rfl) I ai I I I (aB (f:=ak.w) k) I I ?_;refine qDr [(14,2),(15,2),(16,0)] I I ?_;obtain⟨hb,h⟩:=h;refine qDr [(17,0)] I I<|gV 33 (qi<|p1+(a:Int)) I (am hb I) I ?_;obtain⟨j,s,h⟩:=h;refine gV 33 (qi ((j:Nat):Int)) I (bd s) I ?_;obtain⟨g,l,h⟩:=h;refine cw 18 I (by kernel_rfl) (yIO ai I I I I<|qG<|aB (f:=ak.w) l) I I ?_;refine bo 19 (.nop) I (by kernel_rfl) (dLe ai I I I (aB (f:=ak.w) l) I) trivial I (by kernel_rfl) I I ?_;obtain⟨c,t,h⟩:=h;refine gV 19 (qi ((c:Nat):Int)) I (bd t) I ?_;obtain⟨p,n,h⟩:=h;refine cw 20 I (by kernel_rfl) (yIO ai I I I I<|qG<|aB (f:=ak.w) n) I I ?_;refine bo 21 (.set 0<|.row 98 3<|List.map ak.w<|b.set c d) I (by kernel_rfl) (dSe ai I I I I (aB (f:=ak.w) n) I<|lp ak.w b c d) (okS I) I (by kernel_rfl) I I ?_;obtain⟨e,v,h⟩:=h;refine gV 23 (qi ((e:Nat):Int)) I (bd v) I ?_;obtain⟨q,o,h⟩:=h;refine cw 22 I (by kernel_rfl) (yIO ai I I I I<|qG<|aB (f:=ak.w) o) I I ?_;refine bo 23 (.set 0<|.row 98 3<|List.map ak.w<|(b.set c d).set e g) I (by kernel_rfl) (dSe ai I I I I (aB (f:=ak.w) o) I<|lp ak.w (b.set c d) e g) (okS I) I (by kernel_rfl) I I ?_;refine qDe<|gR 4 I ?_;obtain⟨hb,h⟩:=h;exact gR 1 I<|gV 15 (qi ((a+1:Nat):Int)) I (am (by omega)<|by omega) I<|gR 2 I<|go_xloop<|qW G h [0];refine gR 3 I<|go_xloopE<|gR 1 I ?_;subst h;exact gE G [] [] [0] []
structure ah where
 simple:Int
 lists:Int
abbrev ah.c(x:ah):List V:=[.int .i64 x.simple,.int .i64 x.lists]
abbrev ah.w(x:ah):V:=.agg x.c
structure al where
 params:(List ah)
 result:ah
abbrev al.c(x:al):List V:=[.row 2 (List.map ah.w x.params),.int .i64 x.result.simple,.int .i64 x.result.lists]
abbrev al.w(x:al):V:=.agg x.c
structure CKr where
 p:(List Tree)
 targets:(List ar)
 names:(List ((Int×(List UInt8))×ah))
 signatures:(List ((Int×Int)×al))
 module:Int
 path:(List Int)
 faults:(List ak)
 wanted_Module:Int
 wanted_Path:(List Int)
 result_simple:Int
 result_lists:Int
abbrev CKr.faults_o(x:CKr):Ob:=.row 98 3 (List.map ak.w x.faults)
abbrev CKr.path_o(x:CKr):Ob:=.row 3 1 (List.map (V.int .i64) x.path)
abbrev CKr.signatures_o(x:CKr):Ob:=.mp 139 136 (List.map (λp=>(λx=>V.agg [(V.int .i64 x.1),(V.int .i64 x.2)]) p.1) x.signatures) (List.map (λp=>al.w p.2) x.signatures)
abbrev CKr.names_o(x:CKr):Ob:=.mp 204 102 (List.map (λp=>(λx=>V.agg [(V.int .i64 x.1),(V.str x.2)]) p.1) x.names) (List.map (λp=>ah.w p.2) x.names)
abbrev CKr.o(x:CKr)(i0 i1 i2 i3:Nat):Ob:=.var 104 [.row 4 (kidsV x.p),.row 5 (List.map ar.w x.targets),.sl i0,.sl i1,.int .i64 x.module,.sl i2,.sl i3,.int .i64 x.wanted_Module,.row 1 (List.map (V.int .i64) x.wanted_Path),.int .i64 x.result_simple,.int .i64 x.result_lists]
abbrev CKr.z(x:CKr)(M:List (Nat×Ob))(i:Nat):List (Nat×Ob):=(i+1,CKr.faults_o x)::(i,CKr.path_o x)::(M++[(2,CKr.signatures_o x),(1,CKr.names_o x),(0,CKr.o x 1 2 i (i+1))])
abbrev CKr.y(x:CKr)(i:Nat):List (Nat×Ob):=CKr.z x [] i
abbrev CKr.v(x:CKr)(u:V)(G:Hp):Prop:=u=.tup []∧G=⟨5,CKr.y x 3⟩
structure az where
 name:(List UInt8)
 typ:ah
abbrev az.c(x:az):List V:=[.str x.name,.int .i64 x.typ.simple,.int .i64 x.typ.lists]
abbrev vA(a0:Int)(a1:Int):Ob:=.var 102 [.int .i64 a0,.int .i64 a1]
def xY(p1:Int)(G:YI):Prop:=bv [] prog 169 [.nils,qi p1] ⟨0,[]⟩<|z6 (.sl 0) ⟨1,[(0,.row 3 1<|List.map (V.int .i64) G)]⟩
def fI(G:CKr)(p1:Int)(p2:Tree)(J:ah)(O:CKr):Prop:=bv [] prog 126 [.ptr 0 0,qi p1,.agg<|ao p2] ⟨5,(CKr.y G 3)⟩<|z6 (.agg<|ah.c J) ⟨6,(CKr.y O 3)⟩
def kC(G:CKr)(p1:Int)(p2:Tree)(J:al)(O:CKr):Prop:=bv [] prog 81 [.ptr 0 0,qi p1,.agg<|ao p2] ⟨5,(CKr.y G 3)⟩<|z6 (.agg<|al.c J) ⟨6,(CKr.y O 3)⟩
def eW(G:CKr)(p1:Tree)(p2:al)(J:CKr):Prop:=bv [] prog 83 [.ptr 0 0,.agg<|ao p1,.agg<|al.c p2] ⟨5,(CKr.y G 3)⟩<|CKr.v J
def bp(G:CKr)(p1:Tree)(p2:Int)(p3:List az)(J:ah)(O:CKr):Prop:=bv [] prog 128 [.ptr 0 0,.agg<|ao p1,qi p2,.lk<|List.map az.c p3] ⟨5,(CKr.y G 3)⟩<|z6 (.agg<|ah.c J) ⟨6,(CKr.y O 3)⟩
def gn(G:CKr)(p1:Tree)(p2:List az)(J:ah)(O:CKr):Prop:=bv [] prog 167 [.ptr 0 0,.agg<|ao p1,.lk<|List.map az.c p2] ⟨5,(CKr.y G 3)⟩<|z6 (.agg<|ah.c J) ⟨6,(CKr.y O 3)⟩
def la(G:CKr)(p1:Tree)(p2:List az)(J:ah)(O:CKr):Prop:=bv [] prog 191 [.ptr 0 0,.agg<|ao p1,.lk<|List.map az.c p2] ⟨5,(CKr.y G 3)⟩<|z6 (.agg<|ah.c J) ⟨6,(CKr.y O 3)⟩
def pE(G:CKr)(p1:Tree)(p2:List az)(J:ah)(O:CKr):Prop:=bv [] prog 192 [.ptr 0 0,.agg<|ao p1,.lk<|List.map az.c p2] ⟨5,(CKr.y G 3)⟩<|z6 (.agg<|ah.c J) ⟨6,(CKr.y O 3)⟩
def im(G:CKr)(p1:Tree)(p2:List az)(J:ah)(O:CKr):Prop:=bv [] prog 193 [.ptr 0 0,.agg<|ao p1,.lk<|List.map az.c p2] ⟨5,(CKr.y G 3)⟩<|z6 (.agg<|ah.c J) ⟨6,(CKr.y O 3)⟩
def hJ(G:CKr)(p1:Tree)(p2:List az)(J:ah)(O:CKr):Prop:=bv [] prog 194 [.ptr 0 0,.agg<|ao p1,.lk<|List.map az.c p2] ⟨5,(CKr.y G 3)⟩<|z6 (.agg<|ah.c J) ⟨6,(CKr.y O 3)⟩
def lH(G:CKr)(p1:(ah×ah))(J:ah)(O:CKr):Prop:=bv [] prog 211 [.ptr 0 0,.agg [qi p1.1.simple,qi p1.1.lists,qi p1.2.simple,qi p1.2.lists]] ⟨5,(CKr.y G 3)⟩<|z6 (.agg<|ah.c J) ⟨6,(CKr.y O 3)⟩
def ci(G p1:ah)(J:Bool):Prop:=qS 127 [.agg<|ah.c G,.agg<|ah.c p1]<|.bool J
def pm(G:YT)(J:Bool):Prop:=qS 52 [.row 4<|kidsV G]<|.bool J
def kD(G J:Tree)(O:Int):Prop:=qS 165 [.agg<|ao G]<|.tup [.agg<|ao J,qi O]
def qL(G:(List YI))(J:YI):Prop:=bv [] prog 131 [.row 1<|List.map (λl=>V.row 1<|List.map (V.int .i64) l) G] ⟨0,[]⟩<|z6 (.sl 0) ⟨1,[(0,.row 3 1<|List.map (V.int .i64) J)]⟩
def oY(G p1:YI)(J:Bool):Prop:=bv [0] prog 168 [.sl 0,.row 1<|List.map (V.int .i64) p1] ⟨1,[(0,.row 3 1<|List.map (V.int .i64) G)]⟩<|z6 (.bool J) ⟨1,[(0,.row 3 1<|List.map (V.int .i64) G)]⟩
def aK(G:CKr)(p1:Int)(p2:YI)(J:CKr):Prop:=bv [] prog 85 [.ptr 0 0,qi p1,.row 1<|List.map (V.int .i64) p2] ⟨5,(CKr.y G 3)⟩<|CKr.v J
def ia(G:CKr)(J:ar)(O:CKr):Prop:=bv [] prog 132 [.ptr 0 0] ⟨5,(CKr.y G 3)⟩<|z6 (.agg<|ar.c J) ⟨6,(CKr.y O 3)⟩
def cN(G:CKr)(p1:Int)(J:CKr):Prop:=bv [] prog 82 [.ptr 0 0,qi p1] ⟨5,(CKr.y G 3)⟩<|CKr.v J
def aZ(G J:CKr):Prop:=bv [] prog 87 [.ptr 0 0] ⟨5,(CKr.y G 3)⟩<|CKr.v J
def dc(G:CKr)(p1:Tree)(p2:Int)(J:CKr):Prop:=bv [] prog 86 [.ptr 0 0,.agg<|ao p1,qi p2] ⟨5,(CKr.y G 3)⟩<|CKr.v J
def iB(G:CKr)(p1:Tree)(p2:List az)(J:ah)(O:CKr):Prop:=bv [] prog 190 [.ptr 0 0,.agg<|ao p1,.lk<|List.map az.c p2] ⟨5,(CKr.y G 3)⟩<|z6 (.agg<|ah.c J) ⟨6,(CKr.y O 3)⟩
theorem Ah(m:Nat)(G p1:ah)(J:Bool)(h:((G.simple≠0)->((p1.simple≠0)->(!(G.simple==p1.simple&&G.lists==p1.lists))=J)∧((p1.simple=0)->false=J))∧((G.simple=0)->false=J)):ci G p1 J:=by
 refine⟨I,I,?_⟩;refine qA 18 [] func127 λK O=>?_;refine gR 3 rfl<|gFP 0 rfl rfl rfl rfl<|gR 1 rfl<|gFP 1 rfl rfl rfl rfl<|gR 9 rfl<|qBhZ 8 7 rfl rfl rfl rfl h cz bH ?_ ?_<;>intro h;refine gR 5 rfl<|qBhZ 13 12 rfl rfl rfl rfl h cz bH ?_ ?_<;>intro h;refine gR 2 rfl<|gY (v:=.bool<|!(G.simple==p1.simple&&G.lists==p1.lists)) (Cb (neg:=true) underlying102 (by kernel_rfl) (by kernel_rfl) (by decide) (by decide) rfl rfl (by kernel_rfl) (by kernel_rfl) rfl rfl qI qI qI qI (eI underlying3)<|eI underlying3) rfl rfl<|gR 5 rfl ?_;subst h;exact qN [.tmp 4];refine gR 8 I ?_;subst h;exact qN [.tmp 4];refine gR 13 I ?_;subst h;exact qN [.tmp 4]
def kr(m:Nat)(G:YT)(a:Nat)(J:Bool):Prop:=z7 m [] f52 (q9<|.bool J) (cL<|xE<|cB<|aj f52) [.blk 0,.seq<|xA<|aj f52] 20 [(5,.row 4<|kidsV G),(6,qi (G.length:Int)),(7,qi (a:Int))] ⟨0,[]⟩
theorem zL(m:Nat)(p0:YT)(r0:Bool)(h:kr m p0 0 r0):pm p0 r0:=by
 refine⟨I,I,?_⟩;refine qA 20 [] func52 λK hK=>?_;exact gR 10 I<|gV 6 (qi (p0.length:Int)) I (aP<|aJ _) I<|gLB 5 I (aJ _) λa=>gR 4 I<|go_loop m<|qW hK h []
theorem ss(m:Nat)(J:YT)(a:Nat)(G:Bool)(h:y5 (a<J.length) (∃b,J[a]?=some b∧y9 b.kind 1 (false=G) (∃c,dW b c∧y7 c (false=G) (a+1<=9223372036854775807∧kr m J (a+1) G)))<|true=G):kr (m+1) J a G:=by
 refine qj λK j1 Z f=>?_;refine gR 6 rfl<|qXh 8 rfl rfl rfl h cg ch ?_ ?_<;>intro O h;refine gR 7 I ?_;obtain⟨b,d,h⟩:=h;refine gY (aI (ay d) ai rfl rfl rfl rfl) rfl rfl<|gR 11 rfl<|qXhZ 14 13 rfl rfl rfl rfl h cz bH ?_ ?_<;>intro O h;refine gR 15 I<|go_xloopR<|gR 2 I ?_;subst h;exact qN [.tmp 2];refine gR 1 I ?_;obtain⟨c,e,h⟩:=h;refine qC0 e rfl<|gR 4 rfl<|qXh 18 rfl rfl rfl h cv cu ?_ ?_<;>intro O h;refine gR 9 I<|go_xloopR<|gR 2 I ?_;subst h;exact qN [.tmp 2];refine gR 5 I ?_;obtain⟨hb,h⟩:=h;exact gR 1 I<|gV 19 (qi ((a+1:Nat):Int)) I (am (by omega)<|by omega) I<|gR 2 I<|go_xloop<|qW Z h [];refine gR 3 I<|go_xloopE<|gR 8 I ?_;subst h;exact qN [.tmp 2]
def jG(m:Nat)(a:Tree)(b:Nat)(G:Tree)(J:Int):Prop:=z7 m [] f165 (q9<|.tup [.agg<|ao G,qi J]) (cL<|xL<|xA<|aj f165) [.blk 0,.seq<|xH<|aj f165] 16 [(1,.ptr 0 0),(2,.ptr 1 0),(4,qi (b:Int))] ⟨2,[(1,vE 0 []),(0,.var 35<|ao a)]⟩
theorem uz(m:Nat)(p0 r0:Tree)(r1:Int)(h:jG m p0 0 r0 r1):kD p0 r0 r1:=by
 refine⟨I,I,?_⟩;refine qA 16 [] func165 λK hK=>?_;exact gR 14 I<|go_loop m<|qW hK h [0,1]
theorem lB(m:Nat)(a:Tree)(b:Nat)(G:Tree)(J:Int)(h:y8 a.kind 8 (∃c,a.kids[0]?=some c∧b+1<=9223372036854775807∧jG m c (b+1) G J)<|a=G∧(b:Int)=J):jG (m+1) a b G J:=by
 refine qj λK Z O e=>?_;refine gR 8 rfl<|qXe 7 rfl rfl rfl h ?_ ?_<;>intro hd h;refine gR 8 I ?_;obtain⟨c,d,h⟩:=h;refine gY (aI (ay d) ai I I I I) I I<|gR 6 I ?_;obtain⟨hb,h⟩:=h;exact gR 1 I<|gV 13 (qi ((b+1:Nat):Int)) I (am (by omega)<|by omega) I<|gR 3 I<|go_xloop<|qW O h [0,1];refine gR 3 I<|go_xloopE<|gR 11 I ?_;obtain⟨rfl,rfl⟩:=h;exact go_sub (F':=(mkF 16 0 [(2,.ptr 0 0),(3,qi (b:Int))])) (H':=⟨1,[(0,vD a.kind a.text a.leads a.kids)]⟩) [1] [] I O pq2 (pqo1 I I) I<|qN [.cell 2 35,.tmp 3]
def pg(m:Nat)(G:(List YI))(a b:Nat)(J:YI):Prop:=z7 m [] f131 (z6 (.sl 0) ⟨1,[(0,.row 3 1<|List.map (V.int .i64) J)]⟩) (xI<|aj f131) [.blk 0,.seq<|xH<|aj f131] 36 [(0,.row 1<|List.map (λl=>V.row 1<|List.map (V.int .i64) l) G),(3,qi (a:Int)),(9,.row 1<|List.map (λl=>V.row 1<|List.map (V.int .i64) l) G),(10,qi (G.length:Int)),(11,qi (b:Int))] ⟨0,[]⟩
def ph(m:Nat)(G:(List YI))(a:YI)(b:Nat)(J:YI):Prop:=z7 m [] f131 (z6 (.sl 0) ⟨1,[(0,.row 3 1<|List.map (V.int .i64) J)]⟩) (xI<|xA<|aj f131) [.blk 2,.seq<|xA<|xH<|aj f131] 36 [(6,.sl 0),(25,.row 1<|List.map (λl=>V.row 1<|List.map (V.int .i64) l) G),(26,qi (G.length:Int)),(27,qi (b:Int))] ⟨1,[(0,.row 3 1<|List.map (V.int .i64) a)]⟩
theorem zU(m:Nat)(p0:(List YI))(r0:YI)(h:pg m p0 0 0 r0):qL p0 r0:=by
 refine qA 36 [] func131 λK hK=>?_;exact gR 15 I<|gV 10 (qi (p0.length:Int)) I (aP<|aQ (λl=>V.row 1<|List.map (V.int .i64) l) _) I<|gLB 9 I (aQ (λl=>V.row 1<|List.map (V.int .i64) l) _) λa=>gR 4 I<|go_loop m<|qW hK h []
theorem nT(m:Nat)(p0:(List YI))(b c:Nat)(r0:YI)(h:y5 (c<p0.length) (∃a,p0[c]?=some a∧b+a.length<=9223372036854775807∧y5 (((b+a.length:Nat):Int)<0) False (c+1<=9223372036854775807∧pg m p0 (b+a.length) (c+1) r0))<|∃d,xY (b:Int) d∧ph m p0 d 0 r0):pg (m+1) p0 b c r0:=by
 refine qj λK j1 hK k=>?_;refine gR 6 rfl<|qXh 12 rfl rfl rfl h cg ch ?_ ?_<;>intro hd h;refine gR 7 I ?_;obtain⟨a,e,h⟩:=h;refine gY (aI (aB (f:=(λl=>V.row 1<|List.map (V.int .i64) l)) e) ai I I I I) I I<|gR 9 I<|gV 17 (qi (a.length:Int)) I (aP<|aQ (V.int .i64) _) I<|gLB 16 I (aQ (V.int .i64) _) λi=>?_;obtain⟨hb,h⟩:=h;refine gR 1 rfl<|gV 18 (qi ((b+a.length:Nat):Int)) rfl (am (by omega)<|by omega) rfl<|gR 9 rfl<|qXd 20 rfl rfl rfl h ?_ ?_<;>intro hd h;exact h.elim;refine gR 5 I ?_;obtain⟨hb,h⟩:=h;exact gR 1 I<|gV 22 (qi ((c+1:Nat):Int)) I (am (by omega)<|by omega) I<|gR 2 I<|go_xloop<|qW hK h [];refine gR 3 I<|go_xloopE<|gR 5 I ?_;obtain⟨d,g,h⟩:=h;refine qC g [] ?_;exact gHR 0 (List.map (V.int .i64) d) I (vH _ d) I<|gR 8 I<|gV 26 (qi (p0.length:Int)) I (aP<|aQ (λl=>V.row 1<|List.map (V.int .i64) l) _) I<|gLB 25 I (aQ (λl=>V.row 1<|List.map (V.int .i64) l) _) λj=>gR 4 I<|go_loop m<|qW hK h [0]
theorem nR(m:Nat)(G:(List YI))(b:YI)(a:Nat)(J:YI)(h:y5 (a<G.length) (∃c,G[a]?=some c∧(b++c).length<=1000000000∧a+1<=9223372036854775807∧ph m G (b++c) (a+1) J)<|b=J):ph (m+1) G b a J:=by
 refine qj λK Z O e=>?_;refine gR 6 rfl<|qXh 28 rfl rfl rfl h cg ch ?_ ?_<;>intro hd h;refine gR 7 I ?_;obtain⟨c,d,h⟩:=h;refine gY (aI (aB (f:=(λl=>V.row 1<|List.map (V.int .i64) l)) d) ai I I I I) I I<|gR 7 I ?_;obtain⟨hb,h⟩:=h;refine gDo (.repl 0<|.row 3 1<|List.map (V.int .i64)<|b++c) (bI ai I I I I I (aaw (f:=(V.int .i64)) (l₁:=b) (l₂:=c)).symm (by rw[aQ];exact hb)) (okR I) I I I<|gR 5 I ?_;obtain⟨hb,h⟩:=h;exact gR 1 I<|gV 34 (qi ((a+1:Nat):Int)) I (am (by omega)<|by omega) I<|gR 2 I<|go_xloop<|qW O h [1];refine gR 3 I<|go_xloopE<|gR 9 I ?_;subst h;exact gE O [] [(2,.sl 0)] [0] [.tmp 2]
def ku(m:Nat)(G p1:YI)(a:Nat)(J:Bool):Prop:=z7 m [0] f168 (z6 (.bool J) ⟨1,[(0,.row 3 1<|List.map (V.int .i64) G)]⟩) (xI<|aj f168) [.blk 0,.seq<|xH<|aj f168] 26 [(0,.sl 0),(1,.row 1<|List.map (V.int .i64) p1),(12,qi (G.length:Int)),(13,qi (a:Int))] ⟨1,[(0,.row 3 1<|List.map (V.int .i64) G)]⟩
theorem tc(m:Nat)(p0 p1:YI)(r0:Bool)(h:y9 p0.length p1.length (false=r0)<|ku m p0 p1 0 r0):oY p0 p1 r0:=by
 refine qA 26 [0] func168 λK hK=>?_;refine gR 10 rfl<|gV 7 (qi (p0.length:Int)) rfl (aP<|aQ (V.int .i64) _) rfl<|gLO 0 rfl (aQ (V.int .i64) _) λa=>gR 2 rfl<|gV 9 (qi (p1.length:Int)) rfl (aP<|aQ (V.int .i64) _) rfl<|gLB 8 rfl (aQ (V.int .i64) _) λb=>gR 3 rfl<|qXh 10 rfl rfl rfl h JL Ix ?_ ?_<;>intro hd h;refine gR 8 I ?_;subst h;exact gE hK [] [(4,.bool false)] [0] [.tmp 4];exact gR 8 I<|gV 12 (qi (p0.length:Int)) I (aP<|aQ (V.int .i64) _) I<|gR 4 I<|go_loop m<|qW hK h [0]
theorem sG(m:Nat)(G p1:YI)(a:Nat)(J:Bool)(h:y5 (a<G.length) (∃b,G[a]?=some b∧∃c,p1[a]?=some c∧y9 b c (false=J) (a+1<=9223372036854775807∧ku m G p1 (a+1) J))<|true=J):ku (m+1) G p1 a J:=by
 refine qj λK j1 O g=>?_;refine gR 6 rfl<|qXh 14 rfl rfl rfl h cg ch ?_ ?_<;>intro Z h;refine gR 12 I<|qDs [0] 8 9<|qDr [(0,2),(1,2)] I I ?_;obtain⟨b,d,h⟩:=h;refine gYd 2 I (by kernel_rfl) (yIO ai I I I I<|qG<|aB (f:=(V.int .i64)) d) I I ?_;refine wT 3 I (by kernel_rfl) I ai I I I (aB (f:=(V.int .i64)) d) I I ?_;refine qDr [(4,2),(5,0)] I I ?_;obtain⟨c,e,h⟩:=h;refine cw 6 I (by kernel_rfl) (aI (aB (f:=(V.int .i64)) e) ai I I I I) I I ?_;refine qDr [(7,0),(8,1)] rfl rfl<|qDe<|gR 1 rfl<|qXh 24 rfl rfl rfl h cz bH ?_ ?_<;>intro Z h;refine gR 9 I<|go_xloopR<|gR 2 I ?_;subst h;exact gE O [] [(4,.bool false)] [0] [.tmp 4];refine gR 5 I ?_;obtain⟨hb,h⟩:=h;exact gR 1 I<|gV 25 (qi ((a+1:Nat):Int)) I (am (by omega)<|by omega) I<|gR 2 I<|go_xloop<|qW O h [0];refine gR 3 I<|go_xloopE<|gR 8 I ?_;subst h;exact gE O [] [(4,.bool true)] [0] [.tmp 4]
theorem rS_typing_checker_fault(m:Nat)(G:CKr)(p1:Int)(p2:YI)(J:CKr)(h:∃a,qL [G.path,p2] a∧(G.faults++[(ak.mk (mP.mk G.module a) p1)]).length<=1000000000∧{G with faults:=(G.faults++[(ak.mk (mP.mk G.module a) p1)])}=J):aK G p1 p2 J:=by
 refine qA 31 [2,1,0] func85 λK O=>?_;refine gR 8 I ?_;obtain⟨a,b,h⟩:=h;refine Tx 5 b (by kernel_rfl) I I I I I (iV _ (λ_=>I) _) I I ?_;refine gR 3 I<|qDs [0] 17 18<|qDr (qR 0 4 2<|(4,3)::(qR 5 3 2 [(8,3),(9,2),(10,2),(11,0),(12,0)])) I I<|gFR 6 I (iV _ (λ_=>I) _) I I<|qDr [(13,0)] I I ?_;obtain⟨hb,h⟩:=h;refine bo 14 (.repl 4<|.row 98 3<|List.map ak.w<|G.faults++[(ak.mk (mP.mk G.module a) p1)]) I (by kernel_rfl) (bI ai I I I I I (apM ak.w G.faults<|ak.mk (mP.mk G.module a) p1) (by rw[aQ];exact hb)) (okR I) I (by kernel_rfl) I I ?_;refine qDr [(15,0),(16,0),(17,1)] I I<|qDe ?_;subst h;exact gE O [] [] [0,1,2,3,8] []
theorem vR(m:Nat)(G:CKr)(J:ar)(O:CKr)(h:∃a,G.targets[0]?=some a∧1<=G.targets.length∧a=J∧{G with targets:=(G.targets.drop 1)}=O):ia G J O:=by
 refine qA 19 [2,1,0] func132 λK Z=>?_;refine gR 11 I ?_;obtain⟨a,b,h⟩:=h;refine gY (aI (aB (f:=ar.w) b) ai I I I I) I I<|gR 12 I ?_;obtain⟨hb,h⟩:=h;refine gY (Kh (aQ ar.w G.targets) ai I I (yr I) BO hb (aaf _)<|(QV _ _ _ _).trans<|congrArg _<|AC _ _) I I<|gR 12 I ?_;obtain⟨rfl,rfl⟩:=h;exact gE Z [(5,.var 117<|ar.c a)] [(2,.ptr 5 0)] [0,1,2,3,4,5] [.cell 2 117]
theorem ug(m:Nat)(G:CKr)(p1:Int)(J:CKr)(h:(G.path++[p1]).length<=1000000000∧{G with path:=(G.path++[p1])}=J):cN G p1 J:=by
 refine qA 14 [2,1,0] func82 λK O=>?_;refine gR 8 I ?_;obtain⟨hb,h⟩:=h;refine gDo (.repl 3<|.row 3 1<|List.map (V.int .i64)<|G.path++[p1]) (bI ai I I I I I (apM (V.int .i64) G.path p1) (by rw[aQ];exact hb)) (okR I) I I I<|gR 4 I ?_;subst h;exact gE O [] [] [0,1,2,6,4] []
theorem ur(m:Nat)(G J:CKr)(h:∃a,((G.path.length:Int)-1)=((a:Nat):Int)∧a<=G.path.length∧{G with path:=(G.path.take a)}=J):aZ G J:=by
 refine qA 16 [2,1,0] func87 λK O=>?_;refine qDs [0] 14 15<|qDr (qR 0 4 2<|(4,3)::(qR 5 5 0 [])) I I<|gV 11 (qi (G.path.length:Int)) I (aP<|aQ (V.int .i64) _) I<|gLO 3 I (aQ (V.int .i64) _) λc=>qDr [(10,0)] I I<|gV 12 (qi<|(G.path.length:Int)-1) I (am (by have :=c;omega) I) I ?_;obtain⟨a,b,h⟩:=h;refine gV 12 (qi ((a:Nat):Int)) I (bd b) I ?_;obtain⟨hb,h⟩:=h;refine bo 11 (.repl 3<|.row 3 1<|List.map (V.int .i64)<|G.path.take a) I (by kernel_rfl) (dTr ai I I I I (by rw[aQ];exact hb)<|NX _ _ _) (okR I) I (by kernel_rfl) I I ?_;refine qDr [(12,0),(13,0),(14,1)] I I<|qDe ?_;subst h;exact gE O [] [] [0,1,2,5,4] []
theorem gM(m:Nat)(O:CKr)(p1:Tree)(p2:Int)(G:CKr)(h:∃d,cN O p2 d∧∃k,p2=((k:Nat):Int)∧∃a,p1.kids[k]?=some a∧y8 a.kind 9 (∃l e,ia d l e∧y6 l.Free (∃f,aK e 1 [] f∧∃g,aZ f g∧g=G) (∃i,aZ e i∧i=G)) (y8 a.kind 8 (∃j,dc d a 0 j∧∃b,aZ j b∧b=G)<|∃c,aZ d c∧c=G)):dc O p1 p2 G:=by
 refine qA 31 [2,1,0] func86 λK J=>?_;refine gR 3 I<|gFP 5 I I I I<|gR 6 I ?_;obtain⟨d,y,h⟩:=h;refine qC y [0,1,2,3,4] ?_;refine qHX ⟨11,(CKr.y d 9)⟩<|gR 7 I ?_;obtain⟨k,p,h⟩:=h;refine gV 12 (qi ((k:Nat):Int)) I (bd p) I ?_;obtain⟨a,n,h⟩:=h;refine gY (aI (ay n) ai rfl rfl rfl rfl) rfl rfl<|gR 19 rfl<|qBeZ 17 18 rfl rfl rfl rfl h ?_ ?_<;>intro h;refine gR 4 I ?_;obtain⟨l,e,q,h⟩:=h;refine qC q [0,1,2,9,10] ?_;refine qHX ⟨18,(CKr.z e [(11,.var 35<|ao a)] 15)⟩<|gR 3 rfl<|qBi 21 rfl rfl rfl h ?_ ?_<;>intro h;refine gR 3 I ?_;obtain⟨f,r,h⟩:=h;refine qC r [0,1,2,15,16] (hs:=(.cons .rfl<|.cons .rfl<|.cons (.nil 1) .nil)) ?_;refine qHX ⟨23,(CKr.z f [(11,.var 35<|ao a)] 21)⟩<|gR 5 I ?_;obtain⟨g,s,h⟩:=h;refine qC s [0,1,2,21,22] ?_;refine qHX ⟨28,(CKr.z g [(11,.var 35<|ao a)] 26)⟩<|gR 1 I ?_;subst h;exact gE J [] [] [0,1,2,26,27] [];refine gR 6 I ?_;obtain⟨i,t,h⟩:=h;refine qC t [0,1,2,15,16] ?_;refine qHX ⟨23,(CKr.z i [(11,.var 35<|ao a)] 21)⟩<|gR 1 I ?_;subst h;exact gE J [] [] [0,1,2,21,22] [];refine gR 7 rfl<|qBeZ 24 25 rfl rfl rfl rfl h ?_ ?_<;>intro h;refine gR 4 I ?_;obtain⟨j,v,h⟩:=h;refine qC v [0,1,2,9,10] ?_;refine qHX ⟨17,(CKr.z j [(11,.var 35<|ao a)] 15)⟩<|gR 5 I ?_;obtain⟨b,w,h⟩:=h;refine qC w [0,1,2,15,16] ?_;refine qHX ⟨22,(CKr.z b [(11,.var 35<|ao a)] 20)⟩<|gR 1 I ?_;subst h;exact gE J [] [] [0,1,2,20,21] [];refine gR 6 I ?_;obtain⟨c,x,h⟩:=h;refine qC x [0,1,2,9,10] ?_;refine qHX ⟨17,(CKr.z c [(11,.var 35<|ao a)] 15)⟩<|gR 1 I ?_;subst h;exact gE J [] [] [0,1,2,15,16] []
def eo(m:Nat)(G:CKr)(p1:Tree)(a:List az)(J:ah)(O:CKr):Prop:=z7 m [2,1,0] f190 (z6 (.agg<|ah.c J) ⟨6,(CKr.y O 3)⟩) (cL<|xE<|cB<|aj f190) [.blk 0,.seq<|xA<|aj f190] 29 [(0,.ptr 0 0),(4,.box (ao p1) 0),(6,.ptr 3 0),(7,.lk<|List.map az.c a)] ⟨6,(CKr.z G [(3,vA 0 0)] 4)⟩
theorem rS_typing_checker_variable(m:Nat)(p0:CKr)(p1:Tree)(p2:List az)(r0:ah)(q0:CKr)(h:eo m p0 p1 p2 r0 q0):iB p0 p1 p2 r0 q0:=by
 refine qA 29 [2,1,0] func190 λK hK=>?_;exact gR 3 I<|gFP 5 I I I I<|gR 11 I<|go_loop m<|qW hK h [0,1,2,6,3,4]
theorem ll(m:Nat)(G:CKr)(p1:Tree)(e:List az)(J:ah)(O:CKr)(h:((e=[])->∃b,aK G 1 [] b∧(ah.mk 0 0)=J∧b=O)∧(∀(a:az) (d:List az),e=a::d->y8 a.name p1.text (a.typ=J∧G=O) (eo m G p1 d J O))):eo (m+1) G p1 e J O:=by
 refine qj λK j1 Z g=>?_;refine gR 4 I ?_;rcases e with _|⟨a,d⟩
 replace h:=h.1 rfl;refine gS 7 (.nilp) I Kd I<|gS 9 (.nilp) I Kd I<|gY (RR underlying174 I) I I<|gR 5 I<|go_xloopE<|gR 5 I ?_;obtain⟨b,f,h⟩:=h;refine qC f [0,1,2,4,5] (hs:=(.cons .rfl<|.cons .rfl<|.cons (.nil 1) .nil)) ?_;refine qHX ⟨11,(CKr.z b [(3,vA 0 0)] 9)⟩<|gR 9 I ?_;obtain⟨rfl,rfl⟩:=h;exact gE Z [(5,.var 102<|ah.c<|ah.mk 0 0)] [(6,.ptr 5 0)] [0,1,2,9,10,3] [.cell 6 102];replace h:=h.2 a d rfl;refine gS 7 (.box [.str a.name,qi a.typ.simple,qi a.typ.lists,.lk<|List.map az.c d] 0) rfl (IM rfl) rfl<|gS 9 (.box [.str a.name,qi a.typ.simple,qi a.typ.lists,.lk<|List.map az.c d] 0) rfl (IM rfl) rfl<|gY (Rm underlying174 rfl) rfl rfl<|gR 8 rfl<|qDs [] 7 7<|qDr (qR 0 4 2<|qR 4 3 0 []) rfl rfl<|qDe<|gR 1 rfl<|qXe 21 rfl rfl rfl h ?_ ?_<;>intro hd h;refine gR 13 I<|go_xloopR<|gR 2 I ?_;obtain⟨rfl,rfl⟩:=h;exact gE Z [(5,.var 102<|ah.c a.typ)] [(6,.ptr 5 0)] [0,1,2,4,5,3] [.cell 6 102];exact gR 11 I<|go_xloop<|qW Z h [0,1,2,3,4,5]
theorem kU(m:Nat)(Z:CKr)(p1:Tree)(p2:Int)(p3:List az)(G:ah)(J:CKr)(h:∃d,cN Z p2 d∧∃i,p2=((i:Nat):Int)∧∃k,p1.kids[i]?=some k∧∃b a,gn d k p3 b a∧y8 a.module a.wanted_Module (∃j,oY a.path a.wanted_Path j∧y6 j (∃e,aZ ({a with result_simple:=b.simple,result_lists:=b.lists}) e∧b=G∧e=J) (∃f,aZ a f∧b=G∧f=J)) (∃g,aZ a g∧b=G∧g=J)):bp Z p1 p2 p3 G J:=by
 refine qA 50 [2,1,0] func128 λK O=>?_;refine gR 3 I<|gFP 5 I I I I<|gR 7 I ?_;obtain⟨d,s,h⟩:=h;refine qC s [0,1,2,3,4] ?_;refine qHX ⟨12,(CKr.z d [(6,vA 0 0)] 10)⟩<|gR 8 I ?_;obtain⟨i,n,h⟩:=h;refine gV 16 (qi ((i:Nat):Int)) I (bd n) I ?_;obtain⟨k,l,h⟩:=h;refine gY (aI (ay l) ai I I I I) I I<|gR 2 I ?_;obtain⟨b,a,t,h⟩:=h;refine qC t [0,1,2,10,11] ?_;refine qHX ⟨18,(CKr.z a [(6,vA 0 0)] 15)⟩<|gR 6 rfl<|qDs [0] 22 22<|qDr (qR 0 3 2<|(3,3)::(qR 4 7 0 [])) rfl rfl<|qBeZ 31 30 rfl rfl rfl rfl h ?_ ?_<;>intro h;refine qDr (qR 11 3 2<|(14,3)::(qR 15 5 0 [])) I I ?_;obtain⟨j,v,h⟩:=h;refine qDC 20 v [15] I ?_;refine qHX ⟨20,((18,.var 102<|ah.c b)::CKr.z a [(6,vA 0 0)] 15)⟩<|qDr [(21,0)] rfl rfl<|qDe<|gR 1 rfl<|qBi 42 rfl rfl rfl h ?_ ?_<;>intro h;refine gR 9 I<|go_sub (F':=(mkF 50 0 [(0,.ptr 0 0),(8,.ptr 3 0),(9,.ptr 4 0)])) (H':=⟨7,[(6,CKr.faults_o a),(5,CKr.path_o a),(4,.var 102<|ah.c b),(3,vA 0 0),(2,CKr.signatures_o a),(1,CKr.names_o a),(0,CKr.o {a with result_simple:=b.simple,result_lists:=b.lists} 1 2 5 6)]⟩) [0,1,2,6,18,15,16] [2,1,0] I O pq3 ⟨⟨_,I,I,I,(vI _ a.faults).symm⟩,⟨_,I,I,I,(vH _ a.path).symm⟩,pqo I I,pqo I I,⟨_,I,I,I,I,I⟩,⟨_,I,I,I,I,I⟩,(pqo1 I I)⟩ I<|gR 3 I ?_;obtain⟨e,p,h⟩:=h;refine qC p [0,1,2,5,6] ?_;refine qHX ⟨12,(CKr.z e [(4,.var 102<|ah.c b),(3,vA 0 0)] 10)⟩<|gR 9 I ?_;obtain⟨rfl,rfl⟩:=h;exact gE O [(5,.var 102<|ah.c b)] [(8,.ptr 5 0)] [0,1,2,10,11,3] [.cell 8 102];refine gR 6 I ?_;obtain⟨f,q,h⟩:=h;refine qC q [0,1,2,15,16] ?_;refine qHX ⟨25,(CKr.z f [(18,.var 102<|ah.c b),(6,vA 0 0)] 23)⟩<|gR 9 I ?_;obtain⟨rfl,rfl⟩:=h;exact gE O [(5,.var 102<|ah.c b)] [(8,.ptr 5 0)] [0,1,2,23,24,6] [.cell 8 102];refine qDr (qR 11 4 2<|qR 15 7 0 []) I I<|qDe<|gR 7 I ?_;obtain⟨g,r,h⟩:=h;refine qC r [0,1,2,15,16] ?_;refine qHX ⟨24,(CKr.z g [(18,.var 102<|ah.c b),(6,vA 0 0)] 22)⟩<|gR 9 I ?_;obtain⟨rfl,rfl⟩:=h;exact gE O [(5,.var 102<|ah.c b)] [(8,.ptr 5 0)] [0,1,2,22,23,6] [.cell 8 102]
def dH(m:Nat)(G:CKr)(p1:Tree)(p2:List az)(a:Bool)(J:ah)(O:CKr):Prop:=z8 [2,1,0] f167 (z6 (.agg<|ah.c J) ⟨6,(CKr.y O 3)⟩) (cB<|xC<|xE<|cB<|aj f167) [.blk 0,.seq<|xA<|aj f167] 72 [(0,.ptr 0 0),(2,.lk<|List.map az.c p2),(4,.box (ao p1) 0),(6,.ptr 3 0),(9,qi p1.kind),(16,.bool a)] ⟨6,(CKr.z G [(3,vA 0 0)] 4)⟩
theorem fW(m:Nat)(J:CKr)(p1:Tree)(p2:List az)(O:ah)(Z:CKr)(h:y8 p1.kind 10 ((ah.mk 5 0)=O∧J=Z)<|y8 p1.kind 11 ((ah.mk 6 0)=O∧J=Z)<|y8 p1.kind 13 (dH m J p1 p2 true O Z)<|dH m J p1 p2 (p1.kind==14) O Z):gn J p1 p2 O Z:=by
 refine qA 72 [2,1,0] func167 λK G=>?_;refine gR 3 rfl<|gFP 5 rfl rfl rfl rfl<|gR 17 rfl<|qBeZ 10 11 rfl rfl rfl rfl h ?_ ?_<;>intro h;refine gR 10 I ?_;obtain⟨rfl,rfl⟩:=h;exact gE G [(5,.var 102<|ah.c<|ah.mk 5 0)] [(6,.ptr 5 0)] [0,1,2,3,4,6] [.cell 6 102];refine gR 7 rfl<|qBeZ 13 14 rfl rfl rfl rfl h ?_ ?_<;>intro h;refine gR 10 I ?_;obtain⟨rfl,rfl⟩:=h;exact gE G [(5,.var 102<|ah.c<|ah.mk 6 0)] [(6,.ptr 5 0)] [0,1,2,3,4,6] [.cell 6 102];refine gR 8 rfl<|qBeZ 16 17 rfl rfl rfl rfl h ?_ ?_<;>intro h;exact gR 3 I<|qJ G (h K G) [0,1,2,6,3,4];exact gR 6 I<|qJ G (h K G) [0,1,2,6,3,4]
theorem bk(m:Nat)(G:CKr)(p1:Tree)(p2:List az)(v:Bool)(J:ah)(O:CKr)(h:y6 v ((ah.mk 7 0)=J∧G=O)<|y8 p1.kind 12 (∃p f,iB G p1 p2 p f∧p=J∧f=O)<|y8 p1.kind 16 (∃q g,la G p1 p2 q g∧q=J∧g=O)<|y8 p1.kind 18 (∃r i,pE G p1 p2 r i∧r=J∧i=O)<|y8 p1.kind 19 (∃s j,im G p1 p2 s j∧s=J∧j=O)<|y8 p1.kind 20 (∃t a,bp G p1 0 p2 t a∧∃k b,bp a p1 1 (az.mk p1.text t::p2) k b∧k=J∧b=O)<|y8 p1.kind 21 (∃l d,hJ G p1 p2 l d∧l=J∧d=O)<|y8 p1.kind 22 (∃n e,bp G p1 0 p2 n e∧n=J∧e=O)<|(ah.mk 0 0)=J∧G=O):dH (m+1) G p1 p2 v J O:=by
 intro K Z;refine qBi 16 rfl rfl rfl h ?_ ?_<;>intro h;refine gR 10 I ?_;obtain⟨rfl,rfl⟩:=h;exact gE Z [(5,.var 102 (ah.c (ah.mk 7 0)))] [(6,.ptr 5 0)] [0,1,2,4,5,3] [.cell 6 102];refine gR 7 rfl<|qBeZ 20 21 rfl rfl rfl rfl h ?_ ?_<;>intro h;refine gR 6 I ?_;obtain⟨p,f,w,h⟩:=h;refine qC w [0,1,2,4,5] ?_;refine qHX ⟨12,(CKr.z f [(3,vA 0 0)] 9)⟩<|gR 6 I ?_;obtain⟨rfl,rfl⟩:=h;exact gE Z [(5,.var 102 (ah.c p))] [(6,.ptr 5 0)] [0,1,2,9,10,3] [.cell 6 102];refine gR 7 rfl<|qBeZ 26 27 rfl rfl rfl rfl h ?_ ?_<;>intro h;refine gR 6 I ?_;obtain⟨q,g,x,h⟩:=h;refine qC x [0,1,2,4,5] ?_;refine qHX ⟨12,(CKr.z g [(3,vA 0 0)] 9)⟩<|gR 6 I ?_;obtain⟨rfl,rfl⟩:=h;exact gE Z [(5,.var 102 (ah.c q))] [(6,.ptr 5 0)] [0,1,2,9,10,3] [.cell 6 102];refine gR 7 rfl<|qBeZ 32 33 rfl rfl rfl rfl h ?_ ?_<;>intro h;refine gR 6 I ?_;obtain⟨r,i,y,h⟩:=h;refine qC y [0,1,2,4,5] ?_;refine qHX ⟨12,(CKr.z i [(3,vA 0 0)] 9)⟩<|gR 6 I ?_;obtain⟨rfl,rfl⟩:=h;exact gE Z [(5,.var 102 (ah.c r))] [(6,.ptr 5 0)] [0,1,2,9,10,3] [.cell 6 102];refine gR 7 rfl<|qBeZ 38 39 rfl rfl rfl rfl h ?_ ?_<;>intro h;refine gR 6 I ?_;obtain⟨s,j,z,h⟩:=h;refine qC z [0,1,2,4,5] ?_;refine qHX ⟨12,(CKr.z j [(3,vA 0 0)] 9)⟩<|gR 6 I ?_;obtain⟨rfl,rfl⟩:=h;exact gE Z [(5,.var 102 (ah.c s))] [(6,.ptr 5 0)] [0,1,2,9,10,3] [.cell 6 102];refine gR 7 rfl<|qBeZ 44 45 rfl rfl rfl rfl h ?_ ?_<;>intro h;refine gR 6 I ?_;obtain⟨t,a,α,h⟩:=h;refine qC α [0,1,2,4,5] ?_;refine qHX ⟨12,(CKr.z a [(3,vA 0 0)] 9)⟩<|gR 14 I<|gFP 13 I I I I ?_;obtain⟨k,b,β,h⟩:=h;refine qC β [0,1,2,9,10] (hs:=(.cons .rfl (.cons .rfl (.cons .rfl (.cons (lkC I) .nil))))) ?_;refine qHX ⟨20,(CKr.z b [(12,.var 102 (ah.c t)),(3,vA 0 0)] 17)⟩<|gR 6 I ?_;obtain⟨rfl,rfl⟩:=h;exact gE Z [(5,.var 102 (ah.c k))] [(6,.ptr 5 0)] [0,1,2,17,18,3] [.cell 6 102];refine gR 7 rfl<|qBeZ 59 60 rfl rfl rfl rfl h ?_ ?_<;>intro h;refine gR 6 I ?_;obtain⟨l,d,γ,h⟩:=h;refine qC γ [0,1,2,4,5] ?_;refine qHX ⟨12,(CKr.z d [(3,vA 0 0)] 9)⟩<|gR 6 I ?_;obtain⟨rfl,rfl⟩:=h;exact gE Z [(5,.var 102 (ah.c l))] [(6,.ptr 5 0)] [0,1,2,9,10,3] [.cell 6 102];refine gR 7 rfl<|qBeZ 65 66 rfl rfl rfl rfl h ?_ ?_<;>intro h;refine gR 6 I ?_;obtain⟨n,e,δ,h⟩:=h;refine qC δ [0,1,2,4,5] ?_;refine qHX ⟨12,(CKr.z e [(3,vA 0 0)] 9)⟩<|gR 6 I ?_;obtain⟨rfl,rfl⟩:=h;exact gE Z [(5,.var 102 (ah.c n))] [(6,.ptr 5 0)] [0,1,2,9,10,3] [.cell 6 102];refine gR 11 I ?_;obtain⟨rfl,rfl⟩:=h;exact gE Z [(5,.var 102 (ah.c (ah.mk 0 0)))] [(6,.ptr 5 0)] [0,1,2,4,5,3] [.cell 6 102]
def gD:KeyT prog 204 (Int×YB) (λx=>V.agg [(V.int .i64 x.1),(V.str x.2)]):=SI (λx=>x.1) (λx=>x.2) (λx y h1 h2=>Prod.ext h1 h2) underlying204 (by kernel_rfl) (by decide) (by decide) rfl rfl underlying3 underlying9
def dh:KeyT prog 139 (Int×Int) (λx=>V.agg [(V.int .i64 x.1),(V.int .i64 x.2)]):=Ol (λx=>x.1) (λx=>x.2) (λx y h1 h2=>Prod.ext h1 h2) underlying139 (by kernel_rfl) (by decide) (by decide) rfl rfl underlying3 underlying3
def lW(G:YT)(J:CKr):Prop:=bv [] prog 53 [.row 4<|kidsV G] ⟨0,[]⟩<|z6 (.ptr 0 0) ⟨5,(CKr.y J 3)⟩
def iN(m:Nat)(G:CKr)(p1:Int)(a:Tree)(b d e:Int)(f:Bool)(J:ah)(O:CKr):Prop:=y4 [2,1,0] f126 (z6 (.agg<|ah.c J) ⟨6,(CKr.y O 3)⟩) [.seq<|xA<|xH<|aj f126] 79 [(0,.ptr 0 0),(1,qi p1),(6,.ptr 3 0),(7,.ptr 4 0),(8,qi b),(9,.ptr 5 0),(10,.ptr 6 0),(11,.bool f)] ⟨9,(CKr.z G [(6,vA d e),(5,.var 204 [qi p1,.str a.text]),(4,.var 35<|ao a),(3,vA 0 0)] 7)⟩
def mU(m:Nat)(G:CKr)(p1:Int)(a:Tree)(b d e:Int)(f:Tree)(g:Int)(J:ah)(O:CKr):Prop:=y4 [2,1,0] f126 (z6 (.agg<|ah.c J) ⟨6,(CKr.y O 3)⟩) [.seq<|cB<|xK<|cA<|xA<|xH<|aj f126,.seq<|xJ<|xA<|aj f126] 79 [(0,.ptr 0 0),(6,.ptr 3 0),(8,qi b),(9,.ptr 4 0),(10,.ptr 5 0),(12,.ptr 6 0),(13,qi g)] ⟨9,(CKr.z G [(6,.var 35<|ao f),(5,vA d e),(4,.var 204 [qi p1,.str a.text]),(3,vA 0 0)] 7)⟩
theorem iH(m:Nat)(G:CKr)(p1:Int)(p2:Tree)(O:ah)(Z:CKr)(h:∃a b,kD p2 a b∧y9 a.kind 9 ((ah.mk a.kind b)=O∧G=Z) (((aL (p1,a.text) G.names=none)->iN m G p1 a b 0 0 false O Z)∧(∀(d:ah),aL (p1,a.text) G.names=some d->iN m G p1 a b d.simple d.lists true O Z))):fI G p1 p2 O Z:=by
 refine qA 79 [2,1,0] func126 λK J=>?_;refine gR 3 I<|gFP 5 I I I I<|gR 6 I ?_;obtain⟨a,b,e,h⟩:=h;refine qC0 e rfl<|gR 16 rfl<|qBh 23 rfl rfl rfl h cz bH ?_ ?_<;>intro h;refine gR 12 I ?_;obtain⟨rfl,rfl⟩:=h;exact gE J [(5,.var 102<|ah.c<|ah.mk a.kind b)] [(6,.ptr 5 0)] [0,1,2,3,4,6] [.cell 6 102];refine gR 14 I<|qDs [0,8] 10 12<|qDr (qR 0 3 2 [(3,3),(4,3)]) I I ?_;rcases c:aL (p1,a.text) G.names with _|d
 replace h:=h.1 c;apply bf (i:=5) (j:=9) (by kernel_rfl) rfl rfl rfl rfl;exact(pD (.nop) (tN gD (encV:=ah.w) (k:=(p1,a.text)) (l:=G.names) (zv:=.agg [qi 0,qi 0]) c underlying99 zeroValue102 (by kernel_rfl) I I I I) trivial<|by kernel_rfl);exact(aG ai I I);exact qDr (qR 6 3 2 [(9,0),(10,1),(11,1)]) I I<|qDe<|qJ J (h K J) [0,1,2,6,7,8,9,3,4];refine bo 5 (.nop) I (by kernel_rfl) (tN gD (encV:=ah.w) (k:=(p1,a.text)) (l:=G.names) (zv:=.agg [qi 0,qi 0]) c underlying99 zeroValue102 (by kernel_rfl) I I I I) trivial I (by kernel_rfl) I I ?_;exact qDr [(6,0),(7,2),(8,2),(10,1),(11,1)] I I<|qDe<|qJ J (h K J) [0,1,2,6,7,8,9,3,4];replace h:=h.2 d c;apply bf (i:=5) (j:=9) (by kernel_rfl) rfl rfl rfl rfl;exact(pD (.nop) (tV gD (encV:=ah.w) (k:=(p1,a.text)) (l:=G.names) (zv:=.agg [qi 0,qi 0]) c underlying99 zeroValue102 (by kernel_rfl) I I I I) trivial<|by kernel_rfl);exact(aG ai I I);exact qDr (qR 6 3 2 [(9,0),(10,1),(11,1)]) I I<|qDe<|qJ J (h K J) [0,1,2,6,7,8,9,3,4];refine bo 5 (.nop) I (by kernel_rfl) (tV gD (encV:=ah.w) (k:=(p1,a.text)) (l:=G.names) (zv:=.agg [qi 0,qi 0]) c underlying99 zeroValue102 (by kernel_rfl) I I I I) trivial I (by kernel_rfl) I I ?_;exact qDr [(6,0),(7,2),(8,2),(10,1),(11,1)] I I<|qDe<|qJ J (h K J) [0,1,2,6,7,8,9,3,4]
theorem mw(m:Nat)(J:CKr)(p1:Int)(d:Tree)(c a b:Int)(e:Bool)(O:ah)(Z:CKr)(h:y7 e (∃f g,rI J.p p1 d f g∧mU m J p1 d c a b f g O Z)<|y9 a 0 (InI (b+c)∧(ah.mk a<|b+c)=O∧J=Z)<|(ah.mk a b)=O∧J=Z):iN (m+1) J p1 d c a b e O Z:=by
 intro K G;refine gR 8 rfl<|qBh 42 rfl rfl rfl h cv cu ?_ ?_<;>intro h;refine gR 2 I<|qDs [0,4] 11 13<|qDr (qR 0 3 2 [(3,3),(4,2),(5,3)]) I I ?_;obtain⟨f,g,k,h⟩:=h;apply bf (i:=6) (j:=10) (by kernel_rfl) rfl rfl rfl rfl;exact(cb (L':=[0,4]) (by kernel_rfl) I I (iT k .rfl [0,4] I) (.inl I));exact(aG ai I I);exact qDr (qR 7 3 2 [(10,0),(11,1),(12,1)]) I I<|qDe<|qJ G (h K G) [0,1,2,3,5,6,9,7,8];refine bg 6 k (by kernel_rfl) I (by kernel_rfl) I I .rfl I I ?_;exact qDr [(7,0),(8,2),(9,2),(11,1),(12,1)] I I<|qDe<|qJ G (h K G) [0,1,2,3,5,6,9,7,8];refine gR 11 rfl<|qBh 72 rfl rfl rfl h cz bH ?_ ?_<;>intro h;refine gR 5 I ?_;obtain⟨hb,h⟩:=h;refine gR 1 I<|gV 76 (qi (b+c)) I (am hb I) I<|gR 11 I ?_;obtain⟨rfl,rfl⟩:=h;exact gE G [(5,.var 102 (ah.c (ah.mk a (b+c))))] [(6,.ptr 5 0)] [0,1,2,7,8,3] [.cell 6 102];refine gR 10 I ?_;obtain⟨rfl,rfl⟩:=h;exact gE G [(5,.var 102 (ah.c (ah.mk a b)))] [(6,.ptr 5 0)] [0,1,2,7,8,3] [.cell 6 102]
theorem tf(m:Nat)(G:CKr)(p1:Int)(f:Tree)(g c e:Int)(j:Tree)(i:Int)(J:ah)(O:CKr)(h:y8 i 0 (∃a b,kD j a b∧y9 a.kind 0 (InI (b+g)∧(ah.mk a.kind<|b+g)=J∧{G with names:=(bS (p1,f.text) (ah.mk a.kind b) G.names)}=O) ((ah.mk a.kind b)=J∧{G with names:=(bS (p1,f.text) (ah.mk a.kind b) G.names)}=O)) (y9 c 0 (InI (e+g)∧(ah.mk c<|e+g)=J∧{G with names:=(bS (p1,f.text) (ah.mk c e) G.names)}=O) ((ah.mk c e)=J∧{G with names:=(bS (p1,f.text) (ah.mk c e) G.names)}=O))):mU (m+1) G p1 f g c e j i J O:=by
 intro K Z;refine gR 8 rfl<|qBe 54 rfl rfl rfl h ?_ ?_<;>intro h;refine gR 4 I ?_;obtain⟨a,b,n,h⟩:=h;refine qC0 n rfl<|gR 16 rfl<|qDs [0,4,5] 6 7<|qDr (qR 0 3 2 [(3,3),(4,3),(5,0)]) rfl rfl<|bo 6 (.set 1 (.mp 204 102 (List.map (λp=>(λx=>V.agg [(V.int .i64 x.1),(V.str x.2)]) p.1) (bS (p1,f.text) (ah.mk a.kind b) G.names)) (List.map (λp=>ah.w p.2)<|bS (p1,f.text) (ah.mk a.kind b) G.names))) rfl (by kernel_rfl) (yA gD (encV:=ah.w) (k:=(p1,f.text)) (d:=(ah.mk a.kind b)) (l:=G.names) underlying99 rfl rfl rfl rfl rfl rfl rfl rfl) (okM rfl) rfl (by kernel_rfl) rfl rfl<|qDe<|gR 9 rfl<|qBh 72 rfl rfl rfl h cz bH ?_ ?_<;>intro h;refine gR 5 I ?_;obtain⟨hb,h⟩:=h;refine gR 1 I<|gV 76 (qi<|b+g) I (am hb I) I<|gR 11 I ?_;obtain⟨rfl,rfl⟩:=h;exact gE Z [(5,.var 102<|ah.c<|ah.mk a.kind<|b+g)] [(6,.ptr 5 0)] [0,1,2,7,8,3] [.cell 6 102];refine gR 10 I ?_;obtain⟨rfl,rfl⟩:=h;exact gE Z [(5,.var 102<|ah.c<|ah.mk a.kind b)] [(6,.ptr 5 0)] [0,1,2,7,8,3] [.cell 6 102];refine gR 3 rfl<|qDs [0,4,5] 6 7<|qDr (qR 0 3 2 [(3,3),(4,3),(5,0)]) rfl rfl<|bo 6 (.set 1<|.mp 204 102 (List.map (λp=>(λx=>V.agg [(V.int .i64 x.1),(V.str x.2)]) p.1)<|bS (p1,f.text) (ah.mk c e) G.names)<|List.map (λp=>ah.w p.2)<|bS (p1,f.text) (ah.mk c e) G.names) rfl (by kernel_rfl) (yA gD (encV:=ah.w) (k:=(p1,f.text)) (d:=(ah.mk c e)) (l:=G.names) underlying99 rfl rfl rfl rfl rfl rfl rfl rfl) (okM rfl) rfl (by kernel_rfl) rfl rfl<|qDe<|gR 9 rfl<|qBh 72 rfl rfl rfl h cz bH ?_ ?_<;>intro h;refine gR 5 I ?_;obtain⟨hb,h⟩:=h;refine gR 1 I<|gV 76 (qi<|e+g) I (am hb I) I<|gR 11 I ?_;obtain⟨rfl,rfl⟩:=h;exact gE Z [(5,.var 102<|ah.c<|ah.mk c<|e+g)] [(6,.ptr 5 0)] [0,1,2,7,8,3] [.cell 6 102];refine gR 10 I ?_;obtain⟨rfl,rfl⟩:=h;exact gE Z [(5,.var 102<|ah.c<|ah.mk c e)] [(6,.ptr 5 0)] [0,1,2,7,8,3] [.cell 6 102]
def gk(m:Nat)(p1:Int)(p2:Tree)(b:Nat)(a:CKr)(d:List ah)(e:Nat)(G:al)(J:CKr):Prop:=z7 m [2,1,0] f81 (z6 (.agg<|al.c G) ⟨6,(CKr.y J 3)⟩) (xI<|cB<|aj f81) [.blk 0,.seq<|xJ<|aj f81] 47 [(0,.ptr 0 0),(1,qi p1),(5,.box (ao p2) 0),(6,.ptr 3 0),(7,.ptr 4 0),(8,qi<|(p2.kids.length:Int)-2),(18,.row 4<|kidsV<|p2.kids.take b),(19,qi (((p2.kids.take b).length:Nat):Int)),(20,qi (e:Int))] ⟨8,((7,.row 102 2<|List.map ah.w d)::CKr.z a [(4,.var 136 [.sl 7,qi 0,qi 0]),(3,.var 136 [.nils,qi 0,qi 0])] 5)⟩
theorem vr(m:Nat)(p0:CKr)(p1:Int)(p2:Tree)(r0:al)(q0:CKr)(h:∃a,((p2.kids.length:Int)-2)=((a:Nat):Int)∧a<=p2.kids.length∧gk m p1 p2 a p0 ([]:List ah) 0 r0 q0):kC p0 p1 p2 r0 q0:=by
 refine qA 47 [2,1,0] func81 λK hK=>?_;refine gR 3 I<|gFP 5 I I I I<|gR 13 I<|gV 13 (qi (p2.kids.length:Int)) I (aP<|aJ _) I<|gLB 12 I (aJ _) λc=>gR 1 I<|gV 14 (qi<|(p2.kids.length:Int)-2) I (am (by have :=c;omega) I) I<|gR 9 I ?_;obtain⟨a,b,h⟩:=h;refine gV 17 (qi ((a:Nat):Int)) I (bd b) I ?_;obtain⟨hb',h⟩:=h;exact gY (Kh (aJ p2.kids) ai I I BO (yr I) (aar _) hb'<|((Rq _ _ _).trans<|congrArg _<|An _ _)) I I<|gR 1 I<|gV 19 (qi (((p2.kids.take a).length:Nat):Int)) I (aP<|aJ _) I<|gLB 18 I (aJ _) λd=>gR 4 I<|go_loop m<|gNC 7 0 102 2 I I I I<|qW hK h [0,1,2,6,7,3,4,8]
theorem ny(m:Nat)(p1:Int)(p2:Tree)(g:Nat)(k:CKr)(a:List ah)(d:Nat)(G:al)(J:CKr)(h:y5 (d<((p2.kids.take g).length)) (∃i,(p2.kids.take g)[d]?=some i∧∃l,i.kids[0]?=some l∧∃e b,fI k p1 l e b∧(a++[e]).length<=1000000000∧d+1<=9223372036854775807∧gk m p1 p2 g b (a++[e]) (d+1) G J) (∃j,((p2.kids.length:Int)-2)=((j:Nat):Int)∧∃n,p2.kids[j]?=some n∧∃f c,fI k p1 n f c∧(al.mk a f)=G∧c=J)):gk (m+1) p1 p2 g k a d G J:=by
 refine qj λK Z O x=>?_;refine gR 6 rfl<|qXh 21 rfl rfl rfl h cg ch ?_ ?_<;>intro hd h;refine gR 7 I ?_;obtain⟨i,p,h⟩:=h;refine gY (aI (ay p) ai I I I I) I I<|gR 5 I<|qDs [4,8] 12 13<|qDr [(0,2),(1,3),(2,2),(3,2),(4,0),(5,0)] I I ?_;obtain⟨l,q,h⟩:=h;refine cw 6 I (by kernel_rfl) (aI (ay q) ai I I I I) I I ?_;refine qDr [(7,0)] I I ?_;obtain⟨e,b,t,h⟩:=h;refine qDC 8 t [0,1,2,5,6] I ?_;refine qHX ⟨15,(CKr.z b [(8,.var 35<|ao i),(7,.row 102 2<|List.map ah.w a),(4,.var 136 [.sl 7,qi 0,qi 0]),(3,.var 136 [.nils,qi 0,qi 0])] 12)⟩<|qDr [(9,0)] I I ?_;obtain⟨hb,h⟩:=h;refine bo 10 (.repl 7<|.row 102 2<|List.map ah.w<|a++[e]) I (by kernel_rfl) (bI ai I I I I I (apM ah.w a e) (by rw[aQ];exact hb)) (okR I) I (by kernel_rfl) I I ?_;refine qDr [(11,0),(12,1)] I I<|qDe<|gR 3 I ?_;obtain⟨hb,h⟩:=h;exact gR 1 I<|gV 36 (qi ((d+1:Nat):Int)) I (am (by omega)<|by omega) I<|gR 2 I<|go_xloop<|qW O h [0,1,2,3,4,12,13,16];refine gR 3 I<|go_xloopE<|gR 9 I ?_;obtain⟨j,s,h⟩:=h;refine gV 41 (qi ((j:Nat):Int)) I (bd s) I ?_;obtain⟨n,r,h⟩:=h;refine gY (aI (ay r) ai I I I I) I I<|gR 1 I ?_;obtain⟨f,c,v,h⟩:=h;refine qC v [0,1,2,5,6] ?_;refine qHX ⟨14,(CKr.z c [(7,.row 102 2<|List.map ah.w a),(4,.var 136 [.sl 7,qi 0,qi 0]),(3,.var 136 [.nils,qi 0,qi 0])] 11)⟩<|gR 11 I<|gFR 7 I (iV _ (λ_=>I) _) I I ?_;obtain⟨rfl,rfl⟩:=h;exact gE O [(5,.var 136 [.row 2<|List.map ah.w<|(al.mk a f).params,qi<|((al.mk a f).result).simple,qi<|((al.mk a f).result).lists])] [(6,.ptr 5 0)] [0,1,2,11,12,3] [.cell 6 136]
def fq(m:Nat)(G:YT)(b:Nat)(a J:CKr):Prop:=z7 m [] f53 (z6 (.ptr 0 0) ⟨5,(CKr.y J 3)⟩) (xI<|aj f53) [.blk 0,.seq<|xH<|aj f53] 47 [(3,.ptr 0 0),(15,.row 4<|kidsV G),(16,qi (G.length:Int)),(17,qi (b:Int))] ⟨5,(CKr.y a 3)⟩
def ft(m:Nat)(G:YT)(b:Tree)(e:Nat)(a:CKr)(c d:Nat)(Z:CKr):Prop:=∀(K:Ctx) (J O:Nat),aw K []->m<=J->m<=O->qLG K f53 (z6 (.ptr 0 0) ⟨5,(CKr.y Z 3)⟩) (cL<|cK<|xA<|xL<|xA<|xI<|aj f53) [.loop (cL<|cK<|xA<|xL<|xA<|xI<|aj f53) J,.blk 2,.blk 1,.seq<|xH<|xI<|aj f53,.loop (xI<|aj f53) O,.blk 0,.seq<|xH<|aj f53] 47 (mkF 47 0 [(3,.ptr 0 0),(4,qi (c:Int)),(15,.row 4<|kidsV G),(16,qi (G.length:Int)),(17,qi (d:Int)),(23,.row 4<|kidsV b.kids),(24,qi (b.kids.length:Int)),(25,qi (e:Int))]) ⟨5,(CKr.y a 3)⟩
def rb(m:Nat)(G:YT)(b:Tree)(a:CKr)(c d e:Nat)(Z:CKr):Prop:=∀(K:Ctx) (J O:Nat),aw K []->m<=J->m<=O->Go prog K (bodyPost prog f53<|SP K<|z6 (.ptr 0 0) ⟨5,(CKr.y Z 3)⟩) (.ex .normal) [.blk 3,.seq<|xH<|cL<|cK<|xA<|xL<|xA<|xI<|aj f53,.loop (cL<|cK<|xA<|xL<|xA<|xI<|aj f53) J,.blk 2,.blk 1,.seq<|xH<|xI<|aj f53,.loop (xI<|aj f53) O,.blk 0,.seq<|xH<|aj f53] 47 (mkF 47 0 [(3,.ptr 0 0),(4,qi (c:Int)),(15,.row 4<|kidsV G),(16,qi (G.length:Int)),(17,qi (d:Int)),(23,.row 4<|kidsV b.kids),(24,qi (b.kids.length:Int)),(25,qi (e:Int))]) ⟨5,(CKr.y a 3)⟩
theorem xg(m:Nat)(p0:YT)(r0:CKr)(h:∃a,ld p0 a∧fq m p0 0 (CKr.mk p0 a ([]:(List<|(Int×YB)×ah)) ([]:(List<|(Int×Int)×al)) 0 ([]:YI) ([]:List ak) 0 [] 0 0) r0):lW p0 r0:=by
 refine qA 47 [] func53 λK hK=>?_;refine gR 9 I ?_;obtain⟨a,b,h⟩:=h;refine qC0 b I<|gDo (.new<|.mp 204 102 [] []) (dMM 204 102) trivial I I I<|gHM 0 (List.map (λp=>(λx=>V.agg [(V.int .i64 x.1),(V.str x.2)]) p.1) ([]:(List<|(Int×YB)×ah))) (List.map (λp=>ah.w p.2) ([]:(List<|(Int×YB)×ah))) I I I I<|gDo (.new<|.mp 139 136 [] []) (dMM 139 136) trivial I I I<|gHM 1 (List.map (λp=>(λx=>V.agg [(V.int .i64 x.1),(V.int .i64 x.2)]) p.1) ([]:(List<|(Int×Int)×al))) (List.map (λp=>al.w p.2) ([]:(List<|(Int×Int)×al))) I I I I<|gR 10 I<|gV 16 (qi (p0.length:Int)) I (aP<|aJ _) I ?_;exact gLB 15 I (aJ _) λc=>gR 4 I<|go_loop m<|gNC 2 5 3 1 I I I I<|gNC 2 6 98 3 I I I I<|qJH hK (h K _ hK<|by omega) [2,0,1,3,4] ⟨⟨_,I,⟨I,I,I⟩⟩,⟨⟨_,I,⟨I,I,I⟩⟩,⟨⟨_,I,⟨I,I,I,I⟩⟩,⟨⟨_,I,⟨I,I,I,I⟩⟩,⟨⟨_,I,⟨I,(.cons .rfl<|.cons .rfl<|.cons .rfl<|.cons .rfl<|.cons .rfl<|.cons .rfl<|.cons .rfl<|.cons .rfl<|.cons (.nil 1)<|.cons .rfl<|.cons .rfl .nil)⟩⟩,trivial⟩⟩⟩⟩⟩
theorem po(m:Nat)(p0:YT)(a:Nat)(b r0:CKr)(h:y5 (a<p0.length) (∃c,p0[a]?=some c∧ft m p0 c 0 b a a r0)<|b=r0):fq (m+1) p0 a b r0:=by
 refine qj λK j1 hK f=>?_;refine gR 6 rfl<|qXh 18 rfl rfl rfl h cg ch ?_ ?_<;>intro hd h;refine gR 8 I ?_;obtain⟨c,d,h⟩:=h;exact gY (aI (ay d) ai I I I I) I I<|gR 11 I<|gV 24 (qi (c.kids.length:Int)) I (aP<|aJ _) I<|gLB 23 I (aJ _) λe=>gR 4 I<|go_loop m<|qJ hK (h K _ _ hK (by omega)<|by omega) [0,1,2,3,4];refine gR 3 I<|go_xloopE<|gR 9 I ?_;subst h;exact gE hK [] [(2,.ptr 0 0)] [0,1,2,3,4] [.tmp 2]
theorem lc(m:Nat)(J:YT)(q:Tree)(c:Nat)(e:CKr)(b n:Nat)(O:CKr)(h:y5 (c<q.kids.length) (∃g,q.kids[c]?=some g∧y8 g.kind 2 (∃f a,kC e (b:Int) g f a∧rb m J q ({a with signatures:=(bS ((b:Int),(c:Int)) f a.signatures)}) b n c O) (c+1<=9223372036854775807∧ft m J q (c+1) e b n O))<|n+1<=9223372036854775807∧fq m J (n+1) e O):ft (m+1) J q c e b n O:=by
 intro K Z j2 G v y;obtain⟨Z,rfl⟩:∃j,Z=j+1:=⟨Z-1,by omega⟩;obtain⟨j2,rfl⟩:∃j,j2=j+1:=⟨j2-1,by omega⟩;refine gR 6 rfl<|qXh 26 rfl rfl rfl h cg ch ?_ ?_<;>intro hd h;refine gR 8 I ?_;obtain⟨g,r,h⟩:=h;refine gY (aI (ay r) ai rfl rfl rfl rfl) rfl rfl<|gR 13 rfl<|qXe 32 rfl rfl rfl h ?_ ?_<;>intro hd h;refine gR 1 I<|qDs [] 12 12<|qDr (qR 0 3 2 (qR 4 5 2 [])) I I ?_;apply bf (i:=3) (j:=9) (by kernel_rfl) rfl rfl rfl rfl;exact(aG ai I I);exact(aG ai I I);refine qDr [(9,0)] I I ?_;obtain⟨f,a,t,h⟩:=h;refine qDC 10 t [0,1,2,3,4] I ?_;refine qHX ⟨12,(CKr.z a [(5,.var 35 (ao g))] 9)⟩<|bo 11 (.set 2 (.mp 139 136 (List.map (λp=>(λx=>V.agg [(V.int .i64 x.1),(V.int .i64 x.2)]) p.1) (bS ((b:Int),(c:Int)) f a.signatures)) (List.map (λp=>al.w p.2)<|bS ((b:Int),(c:Int)) f a.signatures))) I (by kernel_rfl) (yA dh (encV:=al.w) (k:=((b:Int),(c:Int))) (d:=f) (l:=a.signatures) underlying100 I I I I I I I I) (okM I) I (by kernel_rfl) I I ?_;exact qDe<|qJ G (h K _ _ G (by omega)<|by omega) [0,1,2,9,10];obtain⟨f,a,s,h⟩:=h;apply bf (i:=3) (j:=10) (by kernel_rfl) rfl rfl rfl rfl;exact(aG ai I I);exact(cb (L':=[]) (by kernel_rfl) I I (pS (H:=⟨6,((5,.var 35<|ao g)::CKr.y e 3)⟩) s [0,1,2,3,4] .rfl ⟨⟨_,I,⟨I,I,(vI _ e.faults).symm⟩⟩,⟨⟨_,I,⟨I,I,(vH _ e.path).symm⟩⟩,⟨⟨_,I,⟨I,I,I,I⟩⟩,⟨⟨_,I,⟨I,I,I,I⟩⟩,⟨⟨_,I,⟨I,aD.rfl⟩⟩,trivial⟩⟩⟩⟩⟩ I [] I)<|.inl I);refine qDC 10 s [0,1,2,3,4] I ?_;refine qHX ⟨12,(CKr.z a [(5,.var 35<|ao g)] 9)⟩<|bo 11 (.set 2<|.mp 139 136 (List.map (λp=>(λx=>V.agg [(V.int .i64 x.1),(V.int .i64 x.2)]) p.1)<|bS ((b:Int),(c:Int)) f a.signatures)<|List.map (λp=>al.w p.2)<|bS ((b:Int),(c:Int)) f a.signatures) I (by kernel_rfl) (yA dh (encV:=al.w) (k:=((b:Int),(c:Int))) (d:=f) (l:=a.signatures) underlying100 I I I I I I I I) (okM I) I (by kernel_rfl) I I ?_;exact qDe<|qJ G (h K _ _ G (by omega)<|by omega) [0,1,2,9,10];refine qHX ⟨12,(CKr.z a [(5,.var 35<|ao g)] 9)⟩<|qDr [(3,0)] I I<|bo 11 (.set 2<|.mp 139 136 (List.map (λp=>(λx=>V.agg [(V.int .i64 x.1),(V.int .i64 x.2)]) p.1)<|bS ((b:Int),(c:Int)) f a.signatures)<|List.map (λp=>al.w p.2)<|bS ((b:Int),(c:Int)) f a.signatures) I (by kernel_rfl) (yA dh (encV:=al.w) (k:=((b:Int),(c:Int))) (d:=f) (l:=a.signatures) underlying100 I I I I I I I I) (okM I) I (by kernel_rfl) I I ?_;exact qDe<|qJ G (h K _ _ G (by omega)<|by omega) [0,1,2,9,10];refine gR 5 I ?_;obtain⟨hb,h⟩:=h;exact gR 1 I<|gV 44 (qi ((c+1:Nat):Int)) I (am (by omega)<|by omega) I<|gR 2 I<|go_xloop<|qJ G (h K _ _ G (by omega)<|by omega) [0,1,2,3,4];refine gR 3 I<|go_xloopE<|gR 4 I ?_;obtain⟨hb,h⟩:=h;exact gR 1 I<|gV 45 (qi ((n+1:Nat):Int)) I (am (by omega)<|by omega) I<|gR 2 I<|go_xloop<|qW G h [0,1,2,3,4]
theorem wc(m:Nat)(O:YT)(b:Tree)(c:CKr)(d e a:Nat)(Z:CKr)(h:a+1<=9223372036854775807∧ft m O b (a+1) c d e Z):rb (m+1) O b c d e a Z:=by
 intro K G J hK f g;obtain⟨G,rfl⟩:∃j,G=j+1:=⟨G-1,by omega⟩;obtain⟨J,rfl⟩:∃j,J=j+1:=⟨J-1,by omega⟩;refine gR 3 I ?_;obtain⟨hb,h⟩:=h;exact gR 1 I<|gV 44 (qi ((a+1:Nat):Int)) I (am (by omega) (by omega)) I<|gR 2 I<|go_xloop<|qJ hK (h K _ _ hK (by omega) (by omega)) [0,1,2,3,4]
def L0_typing_checker_call(m:Nat)(p1:Tree)(p2:List az)(a:CKr)(b:List ah)(d e:Int)(f:Nat)(G:ah)(J:CKr):Prop:=z7 m [2,1,0] f191 (z6 (.agg<|ah.c G) ⟨6,(CKr.y J 3)⟩) (xI<|xA<|aj f191) [.blk 0,.seq<|xA<|xH<|aj f191] 75 [(0,.ptr 0 0),(2,.lk<|List.map az.c p2),(6,.ptr 3 0),(8,.ptr 4 0),(38,.row 4<|kidsV p1.kids),(39,qi (p1.kids.length:Int)),(40,qi (f:Int))] ⟨7,(CKr.z a [(4,.var 136 [.row 2<|List.map ah.w b,qi d,qi e]),(3,vA 0 0)] 5)⟩
theorem vx(m:Nat)(p0:CKr)(p1:Tree)(p2:List az)(r0:ah)(q0:CKr)(h:∃b a,ia p0 b a∧y6 b.Free (∃e,aK a 1 [] e∧L0_typing_checker_call m p1 p2 e [] 0 0 0 r0 q0) (((aL (b.Module,b.Def) a.signatures=none)->y9 0 (p1.kids.length:Int) (∃f,aK a 3 [] f∧L0_typing_checker_call m p1 p2 f [] 0 0 0 r0 q0) (L0_typing_checker_call m p1 p2 a [] 0 0 0 r0 q0))∧(∀(d:al),aL (b.Module,b.Def) a.signatures=some d->y9 d.params.length p1.kids.length (∃g,aK a 3 [] g∧L0_typing_checker_call m p1 p2 g d.params d.result.simple d.result.lists 0 r0 q0) (L0_typing_checker_call m p1 p2 a d.params d.result.simple d.result.lists 0 r0 q0)))):la p0 p1 p2 r0 q0:=by
 refine qA 75 [2,1,0] func191 λK hK=>?_;refine gR 3 I<|gFP 5 I I I I<|gR 6 I ?_;obtain⟨b,a,j,h⟩:=h;refine qC j [0,1,2,3,4] ?_;refine qHX ⟨13,(CKr.z a [(6,vA 0 0)] 10)⟩<|gR 16 rfl<|qXi 15 rfl rfl rfl h ?_ ?_<;>intro hd h;refine gR 3 I ?_;obtain⟨e,n,h⟩:=h;refine qC n [0,1,2,10,11] (hs:=(.cons .rfl<|.cons .rfl<|.cons (.nil 1) .nil)) ?_;exact qHX ⟨20,(CKr.z e [(14,.var 136 [.nils,qi 0,qi 0]),(13,.var 117<|ar.c b),(6,vA 0 0)] 18)⟩<|gR 8 I<|gV 39 (qi (p1.kids.length:Int)) I (aP<|aJ _) I<|gLB 38 I (aJ _) λr=>gR 4 I<|go_loop m<|qJH hK (h K _ hK<|by omega) [0,1,2,6,14,18,19] ⟨⟨_,I,⟨I,I,(vI _ e.faults).symm⟩⟩,⟨⟨_,I,⟨I,I,(vH _ e.path).symm⟩⟩,⟨⟨_,I,⟨I,(.cons (.nil 2)<|.cons .rfl<|.cons .rfl .nil)⟩⟩,⟨⟨_,I,⟨I,aD.rfl⟩⟩,⟨⟨_,I,⟨I,I,I,I⟩⟩,⟨⟨_,I,⟨I,I,I,I⟩⟩,⟨⟨_,I,⟨I,aD.rfl⟩⟩,trivial⟩⟩⟩⟩⟩⟩⟩;refine gR 2 I<|qDs [0,13] 10 11<|qDr (qR 0 3 2<|(3,3)::(4,2)::(5,3)::(qR 6 3 0 [])) I I ?_;rcases i:aL (b.Module,b.Def) a.signatures with _|d
 replace h:=h.1 i;refine bo (v:=some<|.agg [.nils,qi 0,qi 0]) 9 (.nop) I (by kernel_rfl) (tN dh (encV:=al.w) (k:=(b.Module,b.Def)) (l:=a.signatures) (zv:=.agg [.nils,qi 0,qi 0]) i underlying100 zeroValue136 (by kernel_rfl) I I I I) trivial I (by kernel_rfl) I I ?_;refine qDr [(10,1)] rfl rfl<|qDe<|gR 9 rfl<|gV 33 (qi (p1.kids.length:Int)) rfl (aP<|aJ _) rfl<|gLB 32 rfl (aJ _) λs=>gR 3 rfl<|qXh 34 rfl rfl rfl h cz bH ?_ ?_<;>intro hd h;refine gR 3 I ?_;obtain⟨f,p,h⟩:=h;refine qC p [0,1,2,10,11] (hs:=(.cons .rfl<|.cons .rfl<|.cons (.nil 1) .nil)) ?_;exact qHX ⟨20,(CKr.z f [(14,.var 136 [.nils,qi 0,qi 0]),(13,.var 117<|ar.c b),(6,vA 0 0)] 18)⟩<|gR 8 I<|gV 39 (qi (p1.kids.length:Int)) I (aP<|aJ _) I<|gR 4 I<|go_loop m<|qJH hK (h K _ hK<|by omega) [0,1,2,6,14,18,19] ⟨⟨_,I,⟨I,I,(vI _ f.faults).symm⟩⟩,⟨⟨_,I,⟨I,I,(vH _ f.path).symm⟩⟩,⟨⟨_,I,⟨I,(.cons (.nil 2)<|.cons .rfl<|.cons .rfl .nil)⟩⟩,⟨⟨_,I,⟨I,aD.rfl⟩⟩,⟨⟨_,I,⟨I,I,I,I⟩⟩,⟨⟨_,I,⟨I,I,I,I⟩⟩,⟨⟨_,I,⟨I,aD.rfl⟩⟩,trivial⟩⟩⟩⟩⟩⟩⟩;exact gR 9 I<|gV 39 (qi (p1.kids.length:Int)) I (aP<|aJ _) I<|gR 4 I<|go_loop m<|qJH hK (h K _ hK<|by omega) [0,1,2,6,14,10,11] ⟨⟨_,I,⟨I,I,(vI _ a.faults).symm⟩⟩,⟨⟨_,I,⟨I,I,(vH _ a.path).symm⟩⟩,⟨⟨_,I,⟨I,(.cons (.nil 2)<|.cons .rfl<|.cons .rfl .nil)⟩⟩,⟨⟨_,I,⟨I,aD.rfl⟩⟩,⟨⟨_,I,⟨I,I,I,I⟩⟩,⟨⟨_,I,⟨I,I,I,I⟩⟩,⟨⟨_,I,⟨I,aD.rfl⟩⟩,trivial⟩⟩⟩⟩⟩⟩⟩;replace h:=h.2 d i;refine bo (v:=some<|.agg<|al.c d) 9 (.nop) I (by kernel_rfl) (tV dh (encV:=al.w) (k:=(b.Module,b.Def)) (l:=a.signatures) (zv:=.agg [.nils,qi 0,qi 0]) i underlying100 zeroValue136 (by kernel_rfl) I I I I) trivial I (by kernel_rfl) I I ?_;refine qDr [(10,1)] rfl rfl<|qDe<|gR 6 rfl<|gV 30 (qi (d.params.length:Int)) rfl (aP<|aQ ah.w _) rfl<|gLB 29 rfl (aQ ah.w _) λt=>gR 3 rfl<|gV 33 (qi (p1.kids.length:Int)) rfl (aP<|aJ _) rfl<|gLB 32 rfl (aJ _) λx=>gR 3 rfl<|qXh 34 rfl rfl rfl h JL Ix ?_ ?_<;>intro hd h;refine gR 3 I ?_;obtain⟨g,q,h⟩:=h;refine qC q [0,1,2,10,11] (hs:=(.cons .rfl<|.cons .rfl<|.cons (.nil 1) .nil)) ?_;exact qHX ⟨20,(CKr.z g [(14,.var 136<|al.c d),(13,.var 117<|ar.c b),(6,vA 0 0)] 18)⟩<|gR 8 I<|gV 39 (qi (p1.kids.length:Int)) I (aP<|aJ _) I<|gR 4 I<|go_loop m<|qW hK h [0,1,2,6,14,18,19];exact gR 9 I<|gV 39 (qi (p1.kids.length:Int)) I (aP<|aJ _) I<|gR 4 I<|go_loop m<|qW hK h [0,1,2,6,14,10,11]
theorem nE(m:Nat)(p1:Tree)(p2:List az)(q:CKr)(b:List ah)(d e:Int)(a:Nat)(G:ah)(J:CKr)(h:y5 (a<p1.kids.length) (∃l,p1.kids[a]?=some l∧∃i,cN q (a:Int) i∧∃n j,bp i l 0 p2 n j∧∃g,aZ j g∧y5 (a<b.length) (∃r,b[a]?=some r∧∃p,ci n r p∧y6 p (∃k,aK g 4 [(a:Int),0] k∧L0_typing_checker_call m p1 p2 k b d e (a+1) G J) (L0_typing_checker_call m p1 p2 g b d e (a+1) G J)) (a+1<=9223372036854775807∧L0_typing_checker_call m p1 p2 g b d e (a+1) G J))<|(ah.mk d e)=G∧q=J):L0_typing_checker_call (m+1) p1 p2 q b d e a G J:=by
 refine qj λK j1 O γ=>?_;refine gR 6 rfl<|qXh 41 rfl rfl rfl h cg ch ?_ ?_<;>intro Z h;refine gR 8 I ?_;obtain⟨l,s,h⟩:=h;refine gY (aI (ay s) ai I I I I) I I<|gR 10 I ?_;obtain⟨i,x,h⟩:=h;refine qC x [0,1,2,5,6] ?_;refine qHX ⟨13,(CKr.z i [(7,.var 35<|ao l),(4,.var 136 [.row 2<|List.map ah.w b,qi d,qi e]),(3,vA 0 0)] 11)⟩<|gR 7 I ?_;obtain⟨n,j,y,h⟩:=h;refine qC y [0,1,2,11,12] ?_;refine qHX ⟨19,(CKr.z j [(7,.var 35<|ao l),(4,.var 136 [.row 2<|List.map ah.w b,qi d,qi e]),(3,vA 0 0)] 16)⟩<|gR 7 I ?_;obtain⟨g,z,h⟩:=h;refine qC z [0,1,2,16,17] ?_;refine qHX ⟨25,(CKr.z g [(19,.var 102<|ah.c n),(7,.var 35<|ao l),(4,.var 136 [.row 2<|List.map ah.w b,qi d,qi e]),(3,vA 0 0)] 23)⟩<|gR 3 rfl<|qDs [4,19] 14 14<|qDr ((0,2)::(qR 1 3 0 [])) rfl rfl<|gV 57 (qi (b.length:Int)) rfl (aP<|aQ ah.w _) rfl<|gLB 56 rfl (aQ ah.w _) λv=>qDr [(4,0),(5,0)] rfl rfl<|qXhZ 59 58 rfl rfl rfl rfl h cg ch ?_ ?_<;>intro Z h;refine qDr [(6,3),(7,2),(8,3),(9,0)] I I ?_;obtain⟨r,t,h⟩:=h;refine cw 10 I (by kernel_rfl) (aI (aB (f:=ah.w) t) ai I I I I) I I ?_;refine qDr [(11,0)] I I ?_;obtain⟨p,α,h⟩:=h;refine bg 12 α (by kernel_rfl) I (by kernel_rfl) I I .rfl I I ?_;refine qDr [(13,0)] rfl rfl<|qDe<|gR 1 rfl<|qXi 67 rfl rfl rfl h ?_ ?_<;>intro Z h;refine gR 5 I<|gFR 25 I I I I ?_;obtain⟨k,β,h⟩:=h;refine qC β [0,1,2,23,24] ?_;exact qHX ⟨31,(CKr.z k [(19,.var 102<|ah.c n),(7,.var 35<|ao l),(4,.var 136 [.row 2<|List.map ah.w b,qi d,qi e]),(3,vA 0 0)] 29)⟩<|gR 5 I<|gV 72 (qi ((a+1:Nat):Int)) I (am (by have :=v;omega)<|by omega) I<|gR 2 I<|go_xloop<|qW O h [0,1,2,3,4,29,30];exact gR 6 I<|gV 72 (qi ((a+1:Nat):Int)) I (am (by have :=v;omega)<|by omega) I<|gR 2 I<|go_xloop<|qW O h [0,1,2,3,4,23,24];refine qDr (qR 6 3 2<|qR 9 5 0 []) I I<|qDe<|gR 6 I ?_;obtain⟨hb,h⟩:=h;exact gR 1 I<|gV 72 (qi ((a+1:Nat):Int)) I (am (by omega)<|by omega) I<|gR 2 I<|go_xloop<|qW O h [0,1,2,3,4,23,24];refine gR 3 I<|go_xloopE<|gR 10 I ?_;obtain⟨rfl,rfl⟩:=h;exact gE O [(5,.var 102<|ah.c<|ah.mk d e)] [(6,.ptr 5 0)] [0,1,2,5,6,3] [.cell 6 102]
def L0_typing_checker_list(m:Nat)(p1:Tree)(p2:List az)(a:CKr)(b d:Int)(e:Nat)(G:ah)(J:CKr):Prop:=z7 m [2,1,0] f192 (z6 (.agg<|ah.c G) ⟨6,(CKr.y J 3)⟩) (xI<|aj f192) [.blk 0,.seq<|xH<|aj f192] 41 [(0,.ptr 0 0),(2,.lk<|List.map az.c p2),(4,.box (ao p1) 0),(6,.ptr 3 0),(7,.ptr 4 0),(12,qi (p1.kids.length:Int)),(13,qi (e:Int))] ⟨7,(CKr.z a [(4,vA b d),(3,vA 0 0)] 5)⟩
theorem vd(m:Nat)(p0:CKr)(p1:Tree)(p2:List az)(r0:ah)(q0:CKr)(h:L0_typing_checker_list m p1 p2 p0 0 0 0 r0 q0):pE p0 p1 p2 r0 q0:=by
 refine qA 41 [2,1,0] func192 λK hK=>?_;exact gR 3 I<|gFP 5 I I I I<|gR 14 I<|gV 12 (qi (p1.kids.length:Int)) I (aP<|aJ _) I<|gLB 11 I (aJ _) λa=>gR 4 I<|go_loop m<|qW hK h [0,1,2,6,7,3,4]
theorem nB(m:Nat)(p1:Tree)(p2:List az)(j:CKr)(b d:Int)(a:Nat)(G:ah)(J:CKr)(h:y5 (a<p1.kids.length) (∃e f,bp j p1 (a:Int) p2 e f∧y8 b 0 (∃k,ci e e k∧y6 k (∃g,aK f 6 [(a:Int)] g∧a+1<=9223372036854775807∧L0_typing_checker_list m p1 p2 g e.simple e.lists (a+1) G J) (a+1<=9223372036854775807∧L0_typing_checker_list m p1 p2 f e.simple e.lists (a+1) G J)) (∃l,ci e (ah.mk b d) l∧y6 l (∃i,aK f 6 [(a:Int)] i∧a+1<=9223372036854775807∧L0_typing_checker_list m p1 p2 i b d (a+1) G J) (a+1<=9223372036854775807∧L0_typing_checker_list m p1 p2 f b d (a+1) G J)))<|y9 b 0 (InI (d+1)∧(ah.mk b<|d+1)=G∧j=J)<|(ah.mk b d)=G∧j=J):L0_typing_checker_list (m+1) p1 p2 j b d a G J:=by
 refine qj λK j1 O t=>?_;refine gR 6 rfl<|qXh 14 rfl rfl rfl h cg ch ?_ ?_<;>intro Z h;refine gR 17 I ?_;obtain⟨e,f,n,h⟩:=h;refine qC n [0,1,2,5,6] ?_;refine qHX ⟨13,(CKr.z f [(4,vA b d),(3,vA 0 0)] 10)⟩<|gR 12 rfl<|qXe 23 rfl rfl rfl h ?_ ?_<;>intro Z h;refine gR 10 I ?_;obtain⟨k,p,h⟩:=h;refine qC0 p rfl<|gR 2 rfl<|qXi 27 rfl rfl rfl h ?_ ?_<;>intro Z h;refine gR 5 I<|gFR 14 I I I I ?_;obtain⟨g,q,h⟩:=h;refine qC q [0,1,2,10,11] ?_;refine qHX ⟨20,(CKr.z g [(13,.var 102<|ah.c e),(4,.var 102<|ah.c e),(3,vA 0 0)] 18)⟩<|gR 4 I ?_;obtain⟨hb,h⟩:=h;exact gR 1 I<|gV 32 (qi ((a+1:Nat):Int)) I (am (by omega)<|by omega) I<|gR 2 I<|go_xloop<|qW O h [0,1,2,3,4,18,19];refine gR 5 I ?_;obtain⟨hb,h⟩:=h;exact gR 1 I<|gV 32 (qi ((a+1:Nat):Int)) I (am (by omega)<|by omega) I<|gR 2 I<|go_xloop<|qW O h [0,1,2,3,4,10,11];refine gR 7 I ?_;obtain⟨l,r,h⟩:=h;refine qC0 r rfl<|gR 2 rfl<|qXi 27 rfl rfl rfl h ?_ ?_<;>intro Z h;refine gR 5 I<|gFR 14 I I I I ?_;obtain⟨i,s,h⟩:=h;refine qC s [0,1,2,10,11] ?_;refine qHX ⟨20,(CKr.z i [(13,.var 102<|ah.c e),(4,vA b d),(3,vA 0 0)] 18)⟩<|gR 4 I ?_;obtain⟨hb,h⟩:=h;exact gR 1 I<|gV 32 (qi ((a+1:Nat):Int)) I (am (by omega)<|by omega) I<|gR 2 I<|go_xloop<|qW O h [0,1,2,3,4,18,19];refine gR 5 I ?_;obtain⟨hb,h⟩:=h;exact gR 1 I<|gV 32 (qi ((a+1:Nat):Int)) I (am (by omega)<|by omega) I<|gR 2 I<|go_xloop<|qW O h [0,1,2,3,4,10,11];refine gR 3 rfl<|go_xloopE<|gR 10 rfl<|qXh 35 rfl rfl rfl h cz bH ?_ ?_<;>intro Z h;refine gR 4 I ?_;obtain⟨hb,h⟩:=h;refine gR 1 I<|gV 38 (qi<|d+1) I (am hb I) I<|gR 11 I ?_;obtain⟨rfl,rfl⟩:=h;exact gE O [(5,.var 102<|ah.c<|ah.mk b<|d+1)] [(6,.ptr 5 0)] [0,1,2,5,6,3] [.cell 6 102];refine gR 10 I ?_;obtain⟨rfl,rfl⟩:=h;exact gE O [(5,.var 102<|ah.c<|ah.mk b d)] [(6,.ptr 5 0)] [0,1,2,5,6,3] [.cell 6 102]
def ej(m:Nat)(p1:Tree)(p2:List az)(a:CKr)(G:ah)(J:CKr):Prop:=z8 [2,1,0] f193 (z6 (.agg<|ah.c G) ⟨6,(CKr.y J 3)⟩) (xA<|aj f193) [] 37 [(0,.ptr 0 0),(2,.lk<|List.map az.c p2),(4,.box (ao p1) 0),(6,.ptr 3 0)] ⟨6,(CKr.z a [(3,vA 0 0)] 4)⟩
theorem sT(m:Nat)(Z:CKr)(p1:Tree)(p2:List az)(J:ah)(O:CKr)(h:∃d a,bp Z p1 0 p2 d a∧∃c,ci d (ah.mk 7 0) c∧y6 c (∃b,aK a 4 [0] b∧ej m p1 p2 b J O) (ej m p1 p2 a J O)):im Z p1 p2 J O:=by
 refine qA 37 [2,1,0] func193 λK G=>?_;refine gR 3 I<|gFP 5 I I I I<|gR 5 I<|qDs [] 6 6<|qDr (qR 0 3 2 [(4,2)]) I I ?_;obtain⟨d,a,e,h⟩:=h;refine qDC 3 e [0,1,2,3,4] I ?_;refine qHX ⟨13,(CKr.z a [(6,vA 0 0)] 10)⟩ ?_;obtain⟨c,f,h⟩:=h;refine bg 5 f (by kernel_rfl) I (by kernel_rfl) I I .rfl I I ?_;refine qDe<|gR 1 rfl<|qBi 14 rfl rfl rfl h ?_ ?_<;>intro h;refine gR 4 I<|gFR 13 I I I I ?_;obtain⟨b,g,h⟩:=h;refine qC g [0,1,2,10,11] ?_;exact qHX ⟨19,(CKr.z b [(6,vA 0 0)] 17)⟩<|gR 2 I<|qJ G (h K G) [0,1,2,6,17,18];exact gR 3 I<|qJ G (h K G) [0,1,2,6,10,11]
theorem su(m:Nat)(p1:Tree)(p2:List az)(i:CKr)(G:ah)(J:CKr)(h:∃a f,bp i p1 1 p2 a f∧∃b d,bp f p1 2 p2 b d∧∃g,ci a b g∧y6 g (∃e,aK d 6 [2] e∧y8 a.simple 0 (b=G∧e=J) (a=G∧e=J)) (y8 a.simple 0 (b=G∧d=J)<|a=G∧d=J)):ej (m+1) p1 p2 i G J:=by
 intro K O;refine gR 5 I ?_;obtain⟨a,f,j,h⟩:=h;refine qC j [0,1,2,4,5] ?_;refine qHX ⟨12,(CKr.z f [(3,vA 0 0)] 9)⟩<|gR 9 I ?_;obtain⟨b,d,k,h⟩:=h;refine qC k [0,1,2,9,10] ?_;refine qHX ⟨19,(CKr.z d [(12,.var 102 (ah.c a)),(3,vA 0 0)] 16)⟩<|gR 9 I ?_;obtain⟨g,l,h⟩:=h;refine qC0 l rfl<|gR 2 rfl<|qBi 28 rfl rfl rfl h ?_ ?_<;>intro h;refine gR 4 I<|gFR 20 I I I I ?_;obtain⟨e,n,h⟩:=h;refine qC n [0,1,2,16,17] ?_;refine qHX ⟨26,(CKr.z e [(19,.var 102 (ah.c b)),(12,.var 102 (ah.c a)),(3,vA 0 0)] 24)⟩<|gR 10 rfl<|qBe 34 rfl rfl rfl h ?_ ?_<;>intro h;refine gR 9 I ?_;obtain⟨rfl,rfl⟩:=h;exact gE O [(5,.var 102 (ah.c b))] [(6,.ptr 5 0)] [0,1,2,24,25,3] [.cell 6 102];refine gR 10 I ?_;obtain⟨rfl,rfl⟩:=h;exact gE O [(5,.var 102 (ah.c a))] [(6,.ptr 5 0)] [0,1,2,24,25,3] [.cell 6 102];refine gR 11 rfl<|qBe 34 rfl rfl rfl h ?_ ?_<;>intro h;refine gR 9 I ?_;obtain⟨rfl,rfl⟩:=h;exact gE O [(5,.var 102 (ah.c b))] [(6,.ptr 5 0)] [0,1,2,16,17,3] [.cell 6 102];refine gR 10 I ?_;obtain⟨rfl,rfl⟩:=h;exact gE O [(5,.var 102 (ah.c a))] [(6,.ptr 5 0)] [0,1,2,16,17,3] [.cell 6 102]
def gw(m:Nat)(p1:Tree)(b d:ah)(a:CKr)(G:ah)(J:CKr):Prop:=y4 [2,1,0] f194 (z6 (.agg<|ah.c G) ⟨6,(CKr.y J 3)⟩) [.seq<|xA<|aj f194] 55 [(0,.ptr 0 0),(4,.box (ao p1) 0),(6,.ptr 3 0),(7,.ptr 4 0)] ⟨7,(CKr.z a [(4,.var 237 [qi b.simple,qi b.lists,qi d.simple,qi d.lists]),(3,vA 0 0)] 5)⟩
def lf(m:Nat)(p1:Tree)(b d:ah)(a:CKr)(G:ah)(J:CKr):Prop:=z8 [2,1,0] f194 (z6 (.agg<|ah.c G) ⟨6,(CKr.y J 3)⟩) (xI<|xA<|aj f194) [.loop (xI<|xA<|aj f194) 3,.blk 0,.seq<|xA<|xH<|aj f194] 55 [(0,.ptr 0 0),(4,.box (ao p1) 0),(6,.ptr 3 0),(37,.agg [qi b.simple,qi b.lists,qi d.simple,qi d.lists]),(38,qi 0)] ⟨6,(CKr.z a [(3,vA 0 0)] 4)⟩
def dU(m:Nat)(p1:Tree)(b d:ah)(a:CKr)(G:ah)(J:CKr):Prop:=z8 [2,1,0] f194 (z6 (.agg<|ah.c G) ⟨6,(CKr.y J 3)⟩) (xI<|xA<|aj f194) [.loop (xI<|xA<|aj f194) 2,.blk 0,.seq<|xA<|xH<|aj f194] 55 [(0,.ptr 0 0),(4,.box (ao p1) 0),(6,.ptr 3 0),(37,.agg [qi b.simple,qi b.lists,qi d.simple,qi d.lists]),(38,qi 1)] ⟨6,(CKr.z a [(3,vA 0 0)] 4)⟩
def dV(m:Nat)(p1:Tree)(b d:ah)(a:CKr)(G:ah)(J:CKr):Prop:=z8 [2,1,0] f194 (z6 (.agg<|ah.c G) ⟨6,(CKr.y J 3)⟩) (xI<|xA<|aj f194) [.loop (xI<|xA<|aj f194) 1,.blk 0,.seq<|xA<|xH<|aj f194] 55 [(0,.ptr 0 0),(4,.box (ao p1) 0),(6,.ptr 3 0),(37,.agg [qi b.simple,qi b.lists,qi d.simple,qi d.lists]),(38,qi 2)] ⟨6,(CKr.z a [(3,vA 0 0)] 4)⟩
theorem sH(m:Nat)(J:CKr)(p1:Tree)(p2:List az)(O:ah)(Z:CKr)(h:∃d a,bp J p1 0 p2 d a∧∃c b,bp a p1 1 p2 c b∧gw m p1 d c b O Z):hJ J p1 p2 O Z:=by
 refine qA 55 [2,1,0] func194 λK G=>?_;refine gR 3 I<|gFP 5 I I I I<|gR 4 I<|qDs [] 10 11<|qDr (qR 0 3 2<|qR 4 3 2 []) I I ?_;obtain⟨d,a,e,h⟩:=h;apply bf (i:=3) (j:=9) (by kernel_rfl) rfl rfl rfl rfl;exact(cb (L':=[]) (by kernel_rfl) I I (pS (H:=⟨7,((6,vA 0 0)::CKr.y J 3)⟩) e [0,1,2,3,4] .rfl ⟨⟨_,I,⟨I,I,(vI _ J.faults).symm⟩⟩,⟨⟨_,I,⟨I,I,(vH _ J.path).symm⟩⟩,⟨⟨_,I,⟨I,I,I,I⟩⟩,⟨⟨_,I,⟨I,I,I,I⟩⟩,⟨⟨_,I,⟨I,aD.rfl⟩⟩,trivial⟩⟩⟩⟩⟩ I [] I)<|.inl I);exact(aG ai I I);refine qHX ⟨13,(CKr.z a [(6,vA 0 0)] 10)⟩ ?_;obtain⟨c,b,f,h⟩:=h;apply bf (i:=7) (j:=9) (by kernel_rfl) rfl rfl rfl rfl;exact(cb (L':=[]) (by kernel_rfl) I I (pS (H:=⟨13,(CKr.z a [(6,vA 0 0)] 10)⟩) f [0,1,2,10,11] .rfl ⟨⟨_,I,⟨I,I,(vI _ a.faults).symm⟩⟩,⟨⟨_,I,⟨I,I,(vH _ a.path).symm⟩⟩,⟨⟨_,I,⟨I,I,I,I⟩⟩,⟨⟨_,I,⟨I,I,I,I⟩⟩,⟨⟨_,I,⟨I,aD.rfl⟩⟩,trivial⟩⟩⟩⟩⟩ I [] I)<|.inl I);exact(aG ai I I);exact qHX ⟨19,(CKr.z b [(6,vA 0 0)] 16)⟩<|qDr [(8,2),(9,0),(10,1)] I I<|qDe<|qJ G (h K G) [0,1,2,6,19,16,17];refine qDC 7 f [0,1,2,10,11] I ?_;exact qHX ⟨20,(CKr.z b [(13,.var 237 [qi 0,qi 0,qi 0,qi 0]),(6,vA 0 0)] 17)⟩<|qDr [(8,0),(10,1)] I I<|qDe<|qJ G (h K G) [0,1,2,6,13,17,18];refine qDC 3 e [0,1,2,3,4] I ?_;refine qHX ⟨14,(CKr.z a [(7,.var 237 [qi 0,qi 0,qi 0,qi 0]),(6,vA 0 0)] 11)⟩ ?_;obtain⟨c,b,g,h⟩:=h;refine qDC 7 g [0,1,2,11,12] I ?_;exact qHX ⟨20,(CKr.z b [(7,.var 237 [qi 0,qi 0,qi 0,qi 0]),(6,vA 0 0)] 17)⟩<|qDr [(8,0),(10,1)] I I<|qDe<|qJ G (h K G) [0,1,2,6,7,17,18]
theorem rG(m:Nat)(p1:Tree)(a b:ah)(f:CKr)(r0:ah)(q0:CKr)(h:y8 p1.text [43] (∃g c,lH f (a,b) g c∧g=r0∧c=q0)<|y8 p1.text [61,61] (∃i,ci a b i∧y6 i (∃d,aK f 6 [1] d∧(ah.mk 7 0)=r0∧d=q0) ((ah.mk 7 0)=r0∧f=q0))<|lf m p1 a b f r0 q0):gw (m+1) p1 a b f r0 q0:=by
 intro K hK;refine gR 9 rfl<|qBe 21 rfl rfl rfl h ?_ ?_<;>intro h;refine gR 5 I ?_;obtain⟨g,c,j,h⟩:=h;refine qC j [0,1,2,5,6] ?_;refine qHX ⟨13,(CKr.z c [(4,.var 237 [qi a.simple,qi a.lists,qi b.simple,qi b.lists]),(3,vA 0 0)] 10)⟩<|gR 5 I ?_;obtain⟨rfl,rfl⟩:=h;exact gE hK [(5,.var 102 (ah.c g))] [(6,.ptr 5 0)] [0,1,2,10,11,3] [.cell 6 102];refine gR 11 rfl<|qBe 27 rfl rfl rfl h ?_ ?_<;>intro h;refine gR 4 I<|gY (yIP (len:=2) (e:=102) (sz:=2) ai I I I I I I I I) I I<|gR 1 I<|gY (yIP (len:=2) (e:=102) (sz:=2) ai I I I I I I I I) I I<|gR 1 I ?_;obtain⟨i,k,h⟩:=h;refine qC0 k rfl<|gR 2 rfl<|qBi 32 rfl rfl rfl h ?_ ?_<;>intro h;refine gR 4 I<|gFR 7 I I I I ?_;obtain⟨d,l,h⟩:=h;refine qC l [0,1,2,5,6] ?_;refine qHX ⟨13,(CKr.z d [(4,.var 237 [qi a.simple,qi a.lists,qi b.simple,qi b.lists]),(3,vA 0 0)] 11)⟩<|gR 10 I ?_;obtain⟨rfl,rfl⟩:=h;exact gE hK [(5,.var 102 (ah.c (ah.mk 7 0)))] [(6,.ptr 5 0)] [0,1,2,11,12,3] [.cell 6 102];refine gR 11 I ?_;obtain⟨rfl,rfl⟩:=h;exact gE hK [(5,.var 102 (ah.c (ah.mk 7 0)))] [(6,.ptr 5 0)] [0,1,2,5,6,3] [.cell 6 102];exact gR 11 I<|go_loop 3<|qJ hK (h K hK) [0,1,2,3,5,6]
theorem rD(m:Nat)(p1:Tree)(b f:ah)(g:CKr)(J:ah)(O:CKr)(h:∃d,ci b (ah.mk 5 0) d∧y6 d (∃a,aK g 4 [0] a∧dU m p1 b f a J O) (dU m p1 b f g J O)):lf (m+1) p1 b f g J O:=by
 intro K G;refine gR 14 rfl<|gY (Io (len:=2) (e:=102) (sz:=2) (k:=0) ai rfl rfl (by kernel_rfl) rfl rfl (by decide) rfl) rfl rfl<|gR 9 rfl ?_;obtain⟨d,i,h⟩:=h;refine qC0 i rfl<|gR 2 rfl<|qXi 44 rfl rfl rfl h ?_ ?_<;>intro Z h;refine gR 5 I<|gFR 7 I I I I ?_;obtain⟨a,j,h⟩:=h;refine qC j [0,1,2,4,5] ?_;exact qHX ⟨13,(CKr.z a [(6,.var 102 (ah.c b)),(3,vA 0 0)] 11)⟩<|gR 5 I<|gV 49 (qi 1) I (am (by omega) (by omega)) I<|gR 2 I<|go_xloop<|qJ G (h K G) [0,1,2,3,11,12];exact gR 6 I<|gV 49 (qi 1) I (am (by omega) (by omega)) I<|gR 2 I<|go_xloop<|qJ G (h K G) [0,1,2,3,4,5]
theorem rL2_typing_checker_operation(m:Nat)(p1:Tree)(f b:ah)(g:CKr)(J:ah)(O:CKr)(h:∃d,ci b (ah.mk 5 0) d∧y6 d (∃a,aK g 4 [1] a∧dV m p1 f b a J O) (dV m p1 f b g J O)):dU (m+1) p1 f b g J O:=by
 intro K G;refine gR 14 rfl<|gY (Io (len:=2) (e:=102) (sz:=2) (k:=1) ai rfl rfl (by kernel_rfl) rfl rfl (by decide) rfl) rfl rfl<|gR 9 rfl ?_;obtain⟨d,i,h⟩:=h;refine qC0 i rfl<|gR 2 rfl<|qXi 44 rfl rfl rfl h ?_ ?_<;>intro Z h;refine gR 5 I<|gFR 7 I I I I ?_;obtain⟨a,j,h⟩:=h;refine qC j [0,1,2,4,5] ?_;exact qHX ⟨13,(CKr.z a [(6,.var 102 (ah.c b)),(3,vA 0 0)] 11)⟩<|gR 5 I<|gV 49 (qi 2) I (am (by omega) (by omega)) I<|gR 2 I<|go_xloop<|qJ G (h K G) [0,1,2,3,11,12];exact gR 6 I<|gV 49 (qi 2) I (am (by omega) (by omega)) I<|gR 2 I<|go_xloop<|qJ G (h K G) [0,1,2,3,4,5]
theorem rL3_typing_checker_operation(m:Nat)(p1:Tree)(b c:ah)(a:CKr)(G:ah)(J:CKr)(h:y8 p1.text [60] ((ah.mk 7 0)=G∧a=J)<|(ah.mk 5 0)=G∧a=J):dV (m+1) p1 b c a G J:=by
 intro K O;refine gR 9 rfl<|go_xloopE<|gR 10 rfl<|qBe 52 rfl rfl rfl h ?_ ?_<;>intro h;refine gR 9 I ?_;obtain⟨rfl,rfl⟩:=h;exact gE O [(5,.var 102 (ah.c (ah.mk 7 0)))] [(6,.ptr 5 0)] [0,1,2,4,5,3] [.cell 6 102];refine gR 10 I ?_;obtain⟨rfl,rfl⟩:=h;exact gE O [(5,.var 102 (ah.c (ah.mk 5 0)))] [(6,.ptr 5 0)] [0,1,2,4,5,3] [.cell 6 102]
def pK(m:Nat)(G:CKr)(p1:(ah×ah))(J:ah)(O:CKr):Prop:=z8 [2,1,0] f211 (z6 (.agg<|ah.c J) ⟨6,(CKr.y O 3)⟩) (xI<|cB<|aj f211) [.loop (xI<|cB<|aj f211) 3,.blk 0,.seq<|xJ<|aj f211] 49 [(0,.ptr 0 0),(3,.box [qi p1.1.simple,qi p1.1.lists,qi p1.2.simple,qi p1.2.lists] 0),(4,.ptr 3 0),(5,.bool false),(6,.ptr 4 0),(9,.agg [qi p1.1.simple,qi p1.1.lists,qi p1.2.simple,qi p1.2.lists]),(10,qi 0)] ⟨7,(CKr.z G [(4,vA 0 0),(3,vA 0 0)] 5)⟩
def gI(m:Nat)(G:CKr)(p1:(ah×ah))(a:Bool)(J:ah)(O:CKr):Prop:=z8 [2,1,0] f211 (z6 (.agg<|ah.c J) ⟨6,(CKr.y O 3)⟩) (cB<|xD<|xL<|xA<|xI<|cB<|aj f211) [.blk 2,.blk 1,.seq<|xH<|xI<|cB<|aj f211,.loop (xI<|cB<|aj f211) 3,.blk 0,.seq<|xJ<|aj f211] 49 [(0,.ptr 0 0),(3,.box [qi p1.1.simple,qi p1.1.lists,qi p1.2.simple,qi p1.2.lists] 0),(4,.ptr 3 0),(5,.bool false),(6,.ptr 4 0),(7,qi 0),(8,.ptr 5 0),(9,.agg [qi p1.1.simple,qi p1.1.lists,qi p1.2.simple,qi p1.2.lists]),(10,qi 0),(14,.bool a)] ⟨8,(CKr.z G [(5,.var 102<|ah.c p1.1),(4,vA 0 0),(3,vA 0 0)] 6)⟩
def eS(m:Nat)(p1:(ah×ah))(a:CKr)(b:Bool)(d e:Int)(G:ah)(J:CKr):Prop:=z8 [2,1,0] f211 (z6 (.agg<|ah.c G) ⟨6,(CKr.y J 3)⟩) (xI<|cB<|aj f211) [.loop (xI<|cB<|aj f211) 2,.blk 0,.seq<|xJ<|aj f211] 49 [(0,.ptr 0 0),(3,.box [qi p1.1.simple,qi p1.1.lists,qi p1.2.simple,qi p1.2.lists] 0),(4,.ptr 3 0),(5,.bool b),(6,.ptr 4 0),(9,.agg [qi p1.1.simple,qi p1.1.lists,qi p1.2.simple,qi p1.2.lists]),(10,qi 1)] ⟨7,(CKr.z a [(4,vA d e),(3,vA 0 0)] 5)⟩
def gK(m:Nat)(p1:(ah×ah))(a:CKr)(b:Bool)(d e:Int)(f:Bool)(G:ah)(J:CKr):Prop:=z8 [2,1,0] f211 (z6 (.agg<|ah.c G) ⟨6,(CKr.y J 3)⟩) (cB<|xD<|xL<|xA<|xI<|cB<|aj f211) [.blk 2,.blk 1,.seq<|xH<|xI<|cB<|aj f211,.loop (xI<|cB<|aj f211) 2,.blk 0,.seq<|xJ<|aj f211] 49 [(0,.ptr 0 0),(3,.box [qi p1.1.simple,qi p1.1.lists,qi p1.2.simple,qi p1.2.lists] 0),(4,.ptr 3 0),(5,.bool b),(6,.ptr 4 0),(7,qi 1),(8,.ptr 5 0),(9,.agg [qi p1.1.simple,qi p1.1.lists,qi p1.2.simple,qi p1.2.lists]),(10,qi 1),(14,.bool f)] ⟨8,(CKr.z a [(5,.var 102<|ah.c p1.2),(4,vA d e),(3,vA 0 0)] 6)⟩
def du(m:Nat)(p1:(ah×ah))(b d:Int)(a:CKr)(e:Bool)(G:ah)(J:CKr):Prop:=z8 [2,1,0] f211 (z6 (.agg<|ah.c G) ⟨6,(CKr.y J 3)⟩) (xI<|cB<|aj f211) [.loop (xI<|cB<|aj f211) 1,.blk 0,.seq<|xJ<|aj f211] 49 [(0,.ptr 0 0),(3,.box [qi p1.1.simple,qi p1.1.lists,qi p1.2.simple,qi p1.2.lists] 0),(4,.ptr 3 0),(5,.bool e),(6,.ptr 4 0),(9,.agg [qi p1.1.simple,qi p1.1.lists,qi p1.2.simple,qi p1.2.lists]),(10,qi 2)] ⟨7,(CKr.z a [(4,vA b d),(3,vA 0 0)] 5)⟩
theorem vS(m:Nat)(p0:CKr)(p1:(ah×ah))(r0:ah)(q0:CKr)(h:pK m p0 p1 r0 q0):lH p0 p1 r0 q0:=by
 refine qA 49 [2,1,0] func211 λK hK=>?_;exact gR 3 I<|gFP 5 I I I I<|gR 21 I<|go_loop 3<|qJ hK (h K hK) [0,1,2,6,7,3,4]
theorem vh(m:Nat)(J:CKr)(p1:(ah×ah))(O:ah)(Z:CKr)(h:y5 (p1.1.simple=5∧p1.1.lists=0) (gI m J p1 true O Z)<|gI m J p1 (p1.1.simple==6&&p1.1.lists==0) O Z):pK (m+1) J p1 O Z:=by
 intro K G;refine gR 14 rfl<|gY (Io (len:=2) (e:=102) (sz:=2) (k:=0) ai rfl rfl (by kernel_rfl) rfl rfl (by decide) rfl) rfl rfl<|gR 10 rfl<|gY (v:=.bool (p1.1.simple==5&&p1.1.lists==0)) (Cb (neg:=false) underlying102 (by kernel_rfl) (by kernel_rfl) (by decide) (by decide) rfl rfl (by kernel_rfl) (by kernel_rfl) rfl rfl qI qI qI qI (eI underlying3) (eI underlying3)) rfl rfl<|gR 1 rfl<|qBhZ 18 17 rfl rfl rfl rfl h MD Mz ?_ ?_<;>intro h;exact gR 7 I<|qJ G (h K G) [0,1,2,3,4,7,5,6];exact gR 2 rfl<|gY (v:=.bool (p1.1.simple==6&&p1.1.lists==0)) (Cb (neg:=false) underlying102 (by kernel_rfl) (by kernel_rfl) (by decide) (by decide) rfl rfl (by kernel_rfl) (by kernel_rfl) rfl rfl qI qI qI qI (eI underlying3) (eI underlying3)) rfl rfl<|gR 4 rfl<|qJ G (h K G) [0,1,2,3,4,7,5,6]
theorem vu(m:Nat)(J:CKr)(p1:(ah×ah))(b:Bool)(O:ah)(Z:CKr)(h:y6 b (eS m p1 J false p1.1.simple p1.1.lists O Z)<|y9 p1.1.simple 0 (∃a,aK J 4 [0] a∧eS m p1 a true 0 0 O Z) (eS m p1 J false 0 0 O Z)):gI (m+1) J p1 b O Z:=by
 intro K G;refine qXi 14 rfl rfl rfl h ?_ ?_<;>intro hd h;exact gR 18 I<|gV 35 (qi 1) I (am (by omega) (by omega)) I<|gR 2 I<|go_xloop<|qJ G (h K G) [0,1,2,3,4,6,7];refine gR 9 rfl<|qXhZ 27 30 rfl rfl rfl rfl h cz bH ?_ ?_<;>intro hd h;refine gR 10 I<|gFR 8 I I I I ?_;obtain⟨a,d,h⟩:=h;refine qC d [0,1,2,6,7] ?_;exact qHX ⟨14,(CKr.z a [(5,.var 102 (ah.c p1.1)),(4,vA 0 0),(3,vA 0 0)] 12)⟩<|gR 6 I<|gV 35 (qi 1) I (am (by omega) (by omega)) I<|gR 2 I<|go_xloop<|qJ G (h K G) [0,1,2,3,4,12,13];exact gR 7 I<|gV 35 (qi 1) I (am (by omega) (by omega)) I<|gR 2 I<|go_xloop<|qJ G (h K G) [0,1,2,3,4,6,7]
theorem rL2_typing_checker_sum(m:Nat)(p1:(ah×ah))(a:CKr)(b:Bool)(c d:Int)(J:ah)(O:CKr)(h:y5 (p1.2.simple=5∧p1.2.lists=0) (gK m p1 a b c d true J O)<|gK m p1 a b c d (p1.2.simple==6&&p1.2.lists==0) J O):eS (m+1) p1 a b c d J O:=by
 intro K G;refine gR 14 rfl<|gY (Io (len:=2) (e:=102) (sz:=2) (k:=1) ai rfl rfl (by kernel_rfl) rfl rfl (by decide) rfl) rfl rfl<|gR 10 rfl<|gY (v:=.bool (p1.2.simple==5&&p1.2.lists==0)) (Cb (neg:=false) underlying102 (by kernel_rfl) (by kernel_rfl) (by decide) (by decide) rfl rfl (by kernel_rfl) (by kernel_rfl) rfl rfl qI qI qI qI (eI underlying3) (eI underlying3)) rfl rfl<|gR 1 rfl<|qBhZ 18 17 rfl rfl rfl rfl h MD Mz ?_ ?_<;>intro h;exact gR 7 I<|qJ G (h K G) [0,1,2,3,4,7,5,6];exact gR 2 rfl<|gY (v:=.bool (p1.2.simple==6&&p1.2.lists==0)) (Cb (neg:=false) underlying102 (by kernel_rfl) (by kernel_rfl) (by decide) (by decide) rfl rfl (by kernel_rfl) (by kernel_rfl) rfl rfl qI qI qI qI (eI underlying3) (eI underlying3)) rfl rfl<|gR 4 rfl<|qJ G (h K G) [0,1,2,3,4,7,5,6]
theorem vb(m:Nat)(p1:(ah×ah))(d:CKr)(f:Bool)(b e:Int)(g:Bool)(J:ah)(O:CKr)(h:y6 g (y8 b 0 (du m p1 p1.2.simple p1.2.lists d f J O)<|du m p1 b e d f J O)<|y9 p1.2.simple 0 (∃a,aK d 4 [1] a∧du m p1 b e a true J O) (du m p1 b e d f J O)):gK (m+1) p1 d f b e g J O:=by
 intro K G;refine qXi 14 rfl rfl rfl h ?_ ?_<;>intro Z h;refine gR 8 rfl<|qXe 25 rfl rfl rfl h ?_ ?_<;>intro Z h;exact gR 10 I<|gV 35 (qi 2) I (am (by omega) (by omega)) I<|gR 2 I<|go_xloop<|qJ G (h K G) [0,1,2,3,4,6,7];exact gR 7 I<|gV 35 (qi 2) I (am (by omega) (by omega)) I<|gR 2 I<|go_xloop<|qJ G (h K G) [0,1,2,3,4,6,7];refine gR 9 rfl<|qXhZ 27 30 rfl rfl rfl rfl h cz bH ?_ ?_<;>intro Z h;refine gR 10 I<|gFR 8 I I I I ?_;obtain⟨a,i,h⟩:=h;refine qC i [0,1,2,6,7] ?_;exact qHX ⟨14,(CKr.z a [(5,.var 102 (ah.c p1.2)),(4,vA b e),(3,vA 0 0)] 12)⟩<|gR 6 I<|gV 35 (qi 2) I (am (by omega) (by omega)) I<|gR 2 I<|go_xloop<|qJ G (h K G) [0,1,2,3,4,12,13];exact gR 7 I<|gV 35 (qi 2) I (am (by omega) (by omega)) I<|gR 2 I<|go_xloop<|qJ G (h K G) [0,1,2,3,4,6,7]
theorem vw(m:Nat)(p1:(ah×ah))(a b:Int)(d:CKr)(g:Bool)(G:ah)(J:CKr)(h:y7 g (∃f,ci p1.1 p1.2 f∧y6 f (∃c,aK d 6 [1] c∧(ah.mk a b)=G∧c=J) ((ah.mk a b)=G∧d=J))<|(ah.mk a b)=G∧d=J):du (m+1) p1 a b d g G J:=by
 intro K O;refine gR 9 rfl<|go_xloopE<|gR 8 rfl<|qBhZ 38 37 rfl rfl rfl rfl h cv cu ?_ ?_<;>intro h;refine gY (yIA (len:=2) (e:=102) (sz:=2) ai rfl rfl rfl rfl rfl rfl (by decide) rfl (Nat.le_of_ble_eq_true rfl)) rfl rfl<|gR 1 rfl<|gY (yIA (len:=2) (e:=102) (sz:=2) ai rfl rfl rfl rfl rfl rfl (by decide) rfl (Nat.le_of_ble_eq_true rfl)) rfl rfl<|gR 1 rfl ?_;obtain⟨f,i,h⟩:=h;refine qC0 i rfl<|gR 3 rfl<|qBi 44 rfl rfl rfl h ?_ ?_<;>intro h;refine gR 4 I<|gFR 7 I I I I ?_;obtain⟨c,j,h⟩:=h;refine qC j [0,1,2,5,6] ?_;refine qHX ⟨13,(CKr.z c [(4,vA a b),(3,vA 0 0)] 11)⟩<|gR 9 I ?_;obtain⟨rfl,rfl⟩:=h;exact gE O [(5,.var 102 (ah.c (ah.mk a b)))] [(4,.ptr 5 0)] [0,1,2,11,12,3] [.cell 4 102];refine gR 10 I ?_;obtain⟨rfl,rfl⟩:=h;exact gE O [(5,.var 102 (ah.c (ah.mk a b)))] [(4,.ptr 5 0)] [0,1,2,5,6,3] [.cell 4 102];refine gR 18 I ?_;obtain⟨rfl,rfl⟩:=h;exact gE O [(5,.var 102 (ah.c (ah.mk a b)))] [(4,.ptr 5 0)] [0,1,2,5,6,3] [.cell 4 102]
open Go.RowKit Go.Shelf Lx Sx
def zp:Go.Shelf.Ren:=⟨fun|4=>169|n=>n,fun|22=>29|25=>3|3=>3|4=>4|9=>9|0=>0|20=>20|n=>n,fun|n=>n⟩
theorem Nn:Go.Proofs.Lays8.n4 prog zp:={
 mixed:=by kernel_rfl
 f4:=⟨ "slices.Grow[[]int,int]",by decide,func169.trans (congrArg some (by kernel_rfl))⟩
 t0:=underlying0
 a0:=isAgg0
 z0:=sizeOf0
 v0:=zeroValue0
 t3:=underlying3
 a3:=isAgg3
 z3:=sizeOf3
 v3:=zeroValue3
 t4:=underlying4
 a4:=isAgg4
 z4:=sizeOf4
 v4:=zeroValue4
 t9:=underlying9
 a9:=isAgg9
 z9:=sizeOf9
 v9:=zeroValue9
 t20:=underlying20
 a20:=isAgg20
 z20:=sizeOf20
 v20:=zeroValue20
 t22:=underlying29
 a22:=isAgg29
 z22:=sizeOf29
 v22:=zeroValue29}
theorem OH{w:World}{g n c:Nat}{e:TypeId}{C xs:List Value}(h:Blk w g e C)(G:C.length=c)(J:n<=c)(O:c<=maxLen)(hx:C.take n=xs):w.ownsRow 0 e 1 (.slice (some ⟨g,0,none⟩) n c) n xs:=by refine⟨by rw[<-hx,aak];omega,.inr ⟨g,c,C.toArray,rfl,aar _,h,J,O,by simp[G],by simpa using hx⟩⟩
theorem Mq(w:World)(n:Nat)(hn:n<=1000000000):Calls prog 169 #[.slice none 0 0,.int .i64 (n:Int)] w λe w'=>∃v,e=.returned v∧w'.ownsRow 0 3 1 v 0 []∧Chg [] w w'∧∀b,v.ownBlock=some b->w.heap.size<=b:=by
 have L:=Nn;by_cases h0:n=0
 ·subst h0;refine(Any8.slices_Grow_room L none 0 0 0 w (by omega) (by omega) (by omega)<|by omega).mono ?_;rintro e w' ⟨rfl,rfl⟩;exact⟨_,rfl,⟨rfl,.inl ⟨rfl,rfl⟩⟩,Chg.refl _ _,λb hb=>by cases hb⟩
 ·have hi:(prog.info? 3).map (λi=>(i.zero,i.size,i.bytes))=some (some<|.int .i64 0,1,8):=by kernel_rfl
  obtain⟨i0,h1,Z⟩:=Option.map_eq_some_iff.1 hi;simp only[Prod.mk.injEq]at Z;obtain⟨h2,h3,h4⟩:=Z;refine(Any8.slices_Grow_grow L i0 (.int .i64 0) h1 h2 (by omega) none 0 0 n [] w (by omega) (by omega) (by rw[h4];omega) (by omega) (by simp) (λ_=>rfl) λa h=>by cases h).mono ?_;rintro e w' ⟨rfl,rfl⟩;have J:=grownCap_ge w (0+n) 0<|zp.t 25;have O:=grownCap_le_maxLen w (0+n) 0 (zp.t 25) (by simp only[maxLen];omega);obtain⟨G,hG⟩:∃G,G=grownCap w (0+n) 0 (zp.t 25):=⟨_,rfl⟩;rw[<-hG]at J O⊢;obtain⟨C,hC⟩:∃C:List Value,C=(Builtin.zeroCells (Value.int .i64 0).cells<|0+n-0).toList++(Builtin.zeroCells (Value.int .i64 0).cells<|G-(0+n)).toList:=⟨_,rfl⟩;have e:(([]:List Value).toArray++Builtin.zeroCells (Value.int .i64 0).cells (0+n-0)++Builtin.zeroCells (Value.int .i64 0).cells (G-(0+n)))=C.toArray:=by rw[hC];apply Array.ext';simp
  rw[e];have hz:∀k,(Builtin.zeroCells (Value.int .i64 0).cells k).toList.length=k*1:=λk=>size_zeroCells _ _;have hl:C.length=G:=by rw[hC,aab,hz,hz];omega
  refine⟨_,rfl,OH (Blk.new w.drew _ C) hl (aar _) O (by simp),(Chg.drew w).trans (Chg.alloc _ _) (by simp),λb hb=>?_⟩;simp only[Value.ownBlock,aad]at hb;omega
theorem PP(n:Nat)(hn:n<=1000000000):xY (n:Int) []:=λS w ρ xs hr hx=>by
 simp only[LRel,VRel]at hx;obtain⟨x,ys,rfl,rfl,y,zs,rfl,rfl,rfl⟩:=hx;refine(Mq w n hn).mono λe w' hR=>?_;obtain⟨v,rfl,O,g3,g4⟩:=hR;have hf:(⟨0,[]⟩:Hp).get 0=.free:=rfl;have J:=eff_new (x:=v) (o:=.row 3 1 (([]:YI).map (V.int .i64))) hr hf g3 ⟨v,[],bb _ _ _,O,by simp[CRel]⟩ (λb hb=>by obtain⟨q,Z,e2⟩:=hb;rw[bb]at Z;cases Z;exact g4 b e2)
 have G:bQ (⟨0,[]⟩:Hp).get 0 (.row 3 1<|([]:YI).map<|V.int .i64)=(⟨1,[(0,.row 3 1<|([]:YI).map<|V.int .i64)]⟩:Hp).get:=by
  funext j
  match j with
  |0=>rfl
  |n+1=>rfl
 rw[G]at J;have hi:Inv ⟨w,S,λb=>∃id,own ρ id ((⟨0,[]⟩:Hp).get id) b,xm [] (⟨0,[]⟩:Hp).get ρ⟩ S w ρ (⟨0,[]⟩:Hp).get:=⟨ChgP.refl _ _,λ_ h=>h,λ_ h=>.inl h,λid b hb=>.inl ⟨id,hb⟩,λid x h=>by
  simp only[xm]at h;split at h
  ·exact h
  ·cases h⟩
 exact⟨v,S,dS ρ 0 v,_,_,rfl,⟨rfl,rfl⟩,J.hr,hi.eff J,by simp only[VRel];exact⟨bb _ _ _,Cd O⟩⟩
variable{p:YT}
theorem sn{M:Int}{w:YB}(h:(inK p M w).2.2=true):∃(i d:Nat) (t u:Tree),M=(i:Int)∧(inK p M w).1=(i:Int)∧(inK p M w).2.1=(d:Int)∧p[i]?=some t∧t.kids[d]?=some u∧u.text=w∧∀j v,j<d->t.kids[j]?=some v->v.text≠w:=by
 unfold inK at h⊢;by_cases hM:M<0
 ·rw[if_pos hM]at h;cases h
 ·rw[if_neg hM]at h⊢;cases ht:p[M.toNat]? with
  |none=>rw[ht]at h;cases h
  | some t=>
   rw[ht]at h;simp only at h⊢;rcases qM w t.kids 0 with e|⟨k,u,e1,e2,e3,e4⟩
   ·simp[e]at h
   ·have hn:¬jA w t.kids 0<0:=by omega
    rw[if_neg hn];exact⟨M.toNat,k,t,u,by omega,by simp only[];omega,by simp only[];omega,ht,e2,e3,e4⟩
theorem MR{M:Int}{w:YB}(h:(aC p M w).2.2=true):∃(i d:Nat) (t u:Tree),(aC p M w).1=(i:Int)∧(aC p M w).2.1=(d:Int)∧p[i]?=some t∧t.kids[d]?=some u:=by
 unfold aC at h⊢;split at h
 ·rename_i G;rw[if_pos G];obtain⟨i,d,t,u,_,a1,J,O,Z,_⟩:=sn h;exact⟨i,d,t,u,a1,J,O,Z⟩
 ·rename_i G;rw[if_neg G];obtain⟨i,d,t,u,_,a1,J,O,Z,_⟩:=sn h;exact⟨i,d,t,u,a1,J,O,Z⟩
variable{k:Nat}
theorem CP{w:YB}(h:bi w=k)(J:0<k∧k<5):(bO w).2.1=w.length∧(bO w).1=k:=by
 unfold bi at h;split at h
 ·omega
 ·split at h
  ·rename_i G;have e:tokenT w=bO w:=by
    unfold tokenT at h⊢;simp only[]at h⊢
    repeat' split at h
    all_goals simp_all
    all_goals omega
   rw[e]at G h;exact⟨G.2,h⟩
  ·omega
theorem DL{w:YB}(h:bi w=k)(Z:k=1∨k=2):spanN bc w=w.length∧(k=1↔cR (w.getD 0 0)=true):=by
 obtain⟨h1,h2⟩:=CP h (by omega);unfold bO at h1 h2;split at h1
 ·rename_i J;rw[if_pos J]at h2;unfold dx at h2
  repeat' split at h2
  all_goals simp only at h2
  all_goals omega
 ·rename_i J;rw[if_neg J]at h2;unfold bM at h1 h2;split at h2
  ·simp only at h2;omega
  ·rename_i a1;rw[if_neg a1]at h1;split at h2
   ·simp only at h2;omega
   ·rename_i O;rw[if_neg O]at h1;split at h2
    ·rename_i G;rw[if_pos G]at h1;simp only at h1 h2;exact⟨h1,λ_=>G,λ_=>h2.symm⟩
    ·rename_i G;rw[if_neg G]at h1;simp only at h1 h2;exact⟨h1,λh=>by omega,λh=>absurd h G⟩
theorem IY{w:YB}(h:bi w=k)(Z:k=3∨k=4):spanN bc w<w.length∧w.getD (spanN bc w) 0=46∧(k=3↔cR (w.getD (spanN bc w+1) 0)=true):=by
 obtain⟨h1,h2⟩:=CP h (by omega);unfold bO at h1 h2;split at h1
 ·rename_i J;rw[if_pos J]at h2;have G:=J;simp only[dF,aaa,aaj,aap]at G;refine⟨by omega,?_,?_⟩
  ·have :=G.1.2;exact UInt8.toNat_inj.1 (by rw[this];rfl)
  ·unfold dx at h2
   repeat' split at h2
   all_goals simp only at h2
   all_goals first
    |omega
    |(rename_i O;exact⟨λ_=>O,λ_=>h2.symm⟩)
    |(rename_i O;exact⟨λh=>by omega,λh=>absurd h O⟩)
 ·rename_i J;rw[if_neg J]at h2;unfold bM at h2
  repeat' split at h2
  all_goals simp only at h2
  all_goals omega
theorem Bm(c:UInt8)(r:YB):spanN bc (c::r)=if bc c=true then spanN bc r+1 else 0:=by unfold spanN;rw[List.takeWhile_cons];split<;>simp
theorem Av:∀(w:YB) (i:Nat),spanN bc w=w.length->fo w i=-1
 |[],i,h=>rfl
 | c::r,i,h=>by
  rw[Bm]at h;split at h
  ·rename_i hc;have :c≠46:=λe=>by subst e;revert hc;decide
   rw[fo,if_neg this];exact Av r (i+1) (by simpa using h)
  ·simp at h
theorem Le:∀(w:YB) (i:Nat),spanN bc w<w.length->w.getD (spanN bc w) 0=46->fo w i=((i+spanN bc w:Nat):Int)
 |[],i,h,_=>by simp at h
 | c::r,i,h,h2=>by
  rw[Bm]at h h2⊢;split at h
  ·rename_i hc;rw[if_pos hc]at h2⊢;have :c≠46:=λe=>by subst e;revert hc;decide
   rw[fo,if_neg this,Le r (i+1) (by simpa using h)<|by simpa using h2]
   congr 1;omega
  ·rename_i hc;rw[if_neg hc]at h2⊢;have :c=46:=by simpa using h2
   rw[fo,if_pos this];rfl
theorem cf{k n:Int}:∀{l:YT} {i j:Nat} {u:Tree},shapeKs k n i l=true->l[j]?=some u->fi k n ((i+j:Nat):Int) u.kind=true∧shapeK u=true
 |[],i,j,u,_,h=>by simp at h
 |t::r,i,0,u,h,G=>by simp only[shapeKs,aaa]at h;simp only[List.getElem?_cons_zero,aad]at G;subst G;exact⟨by simpa using h.1.1,h.1.2⟩
 |t::r,i,j+1,u,h,G=>by simp only[shapeKs,aaa]at h;have :=cf (i:=i+1) (j:=j) h.2 (by simpa using G);exact⟨by rw[show i+(j+1)=i+1+j by omega];exact this.1,this.2⟩
theorem dk:∀{p:YT} {i:Nat} {t:Tree},bn p=true->p[i]?=some t->t.kind=1∧shapeK t=true
 |[],i,t,_,h=>by simp at h
 |v::r,0,t,h,hi=>by simp only[bn,aaa,aap]at h;simp only[List.getElem?_cons_zero,aad]at hi;subst hi;exact h.1
 |v::r,i+1,t,h,hi=>by simp only[bn,aaa]at h;exact dk h.2 (by simpa using hi)
abbrev Kn:=ah
abbrev Env:=List az
structure Cx where
 p:List Tree
 nm:List ((Int×List UInt8)×ah)
 sg:List ((Int×Int)×al)
 mo:Int
 pa:List Int
 wm:Int
 wp:List Int
structure Sv where
 tg:List ar
 fa:List ak
 rs:Int
 rl:Int
def Cx.go(x:Cx)(i:Int):Cx:={x with pa:=x.pa++[i]}
def faP(x:Cx)(k:Int)(b:YI)(s:Sv):Sv:={s with fa:=s.fa++[⟨⟨x.mo,x.pa++b⟩,k⟩]}
def bZ(a b:Kn):Bool:=a.simple !=0&&b.simple !=0&&!(a.simple==b.simple&&a.lists==b.lists)
def ji(w:YB):Env->Option Kn
 |[]=>none
 |b::r=>if b.name=w then some b.typ else ji w r
abbrev Ev:=Cx->Tree->Env->Sv->Kn×Sv
def knS(x:Cx)(i:Nat)(k:Kn)(s:Sv):Sv:=if x.mo=x.wm∧x.pa++[(i:Int)]=x.wp then{s with rs:=k.simple,rl:=k.lists}else s
def Mp(x:Cx)(i:Nat):Kn×Sv->Kn×Sv
 |(k,s)=>(k,knS x i k s)
def bh(E:Ev)(x:Cx)(t:Tree)(i:Nat)(env:Env)(s:Sv):Kn×Sv:=Mp x i<|E (x.go i) (aM t i) env s
def noT:ar:=⟨⟨0,[]⟩,0,0,true⟩
def cS(s:Sv):Sv:={s with tg:=s.tg.drop 1}
def mv(x:Cx)(g:ar):al:=if g.Free then⟨[],⟨0,0⟩⟩else(aL (g.Module,g.Def) x.sg).getD ⟨[],⟨0,0⟩⟩
def wN(x:Cx)(t:Tree)(g:ar)(q:al)(s:Sv):Sv:=if g.Free then faP x 1 [] s else if q.params.length=t.kids.length then s else faP x 3 [] s
def sL(x:Cx)(ps:List Kn)(i:Nat):Kn×Sv->Sv
 |(k,s)=>match ps[i]? with
  |some q=>if bZ k q then faP x 4 [(i:Int),0] s else s
  |none=>s
def fj(E:Ev)(x:Cx)(ps:List Kn)(env:Env):YT->Nat->Sv->Sv
 |[],_,s=>s
 |a::r,i,s=>fj E x ps env r (i+1)<|sL x ps i<|bh E (x.go i) a 0 env s
def se(E:Ev)(x:Cx)(t:Tree)(env:Env)(s:Sv):Kn×Sv:=((mv x<|s.tg.headD noT).result,fj E x (mv x<|s.tg.headD noT).params env t.kids 0<|wN x t (s.tg.headD noT) (mv x<|s.tg.headD noT)<|cS s)
def Fz(x:Cx)(i:Nat)(f:Kn):Kn×Sv->Kn×Sv
 |(k,s)=>(if f.simple=0 then k else f,if bZ k (if f.simple=0 then k else f)then faP x 6 [(i:Int)] s else s)
def fc(E:Ev)(x:Cx)(t:Tree)(env:Env):Nat->Nat->Kn×Sv->Kn×Sv
 |0,_,r=>r
 |n+1,i,(f,s)=>fc E x t env n (i+1)<|Fz x i f<|bh E x t i env s
def lI:Kn×Sv->Kn×Sv
 |(f,s)=>(if f.simple=0 then f else⟨f.simple,f.lists+1⟩,s)
def ifQ(x:Cx)(a:Kn):Kn×Sv->Kn×Sv
 |(b,s)=>(if a.simple=0 then b else a,if bZ a b then faP x 6 [2] s else s)
def ifR(E:Ev)(x:Cx)(t:Tree)(env:Env):Kn×Sv->Kn×Sv
 |(a,s)=>ifQ x a<|bh E x t 2 env s
def ifS(x:Cx):Kn×Sv->Sv
 |(c,s)=>if bZ c ⟨7,0⟩then faP x 4 [0] s else s
def ifP(E:Ev)(x:Cx)(t:Tree)(env:Env)(s:Sv):Kn×Sv:=ifR E x t env<|bh E x t 1 env<|ifS x<|bh E x t 0 env s
def okB(k:Kn):Bool:=(k.simple==5&&k.lists==0)||(k.simple==6&&k.lists==0)
def bad(k:Kn):Bool:=!okB k&&k.simple !=0
def uR(a:Kn):Kn:=if okB a then a else⟨0,0⟩
def tH(a b:Kn):Kn:=if okB b then(if(uR a).simple=0 then b else uR a)else uR a
def nM(x:Cx)(a b:Kn)(s:Sv):Sv:=
 if bad a then(if bad b then faP x 4 [1] (faP x 4 [0] s)else faP x 4 [0] s)
 else if bad b then faP x 4 [1] s else if bZ a b then faP x 6 [1] s else s
def rK(x:Cx)(a b:Kn)(s:Sv):Sv:=if bZ b ⟨5,0⟩then faP x 4 [1] (if bZ a ⟨5,0⟩then faP x 4 [0] s else s)else(if bZ a ⟨5,0⟩then faP x 4 [0] s else s)
def opQ(x:Cx)(w:YB)(a:Kn):Kn×Sv->Kn×Sv
 |(b,s)=>if w=[43]then(tH a b,nM x a b s)else if w=[61,61]then(⟨7,0⟩,if bZ a b then faP x 6 [1] s else s)else(if w=[60]then⟨7,0⟩else⟨5,0⟩,rK x a b s)
def yI(E:Ev)(x:Cx)(t:Tree)(env:Env):Kn×Sv->Kn×Sv
 |(a,s)=>opQ x t.text a<|bh E x t 1 env s
def Jg(E:Ev)(x:Cx)(t:Tree)(env:Env):Kn×Sv->Kn×Sv
 |(a,s)=>bh E x t 1 (⟨t.text,a⟩::env) s
def vo(x:Cx)(s:Sv):Option Kn->Kn×Sv
 |some k=>(k,s)
 |none=>(⟨0,0⟩,faP x 1 [] s)
def bA(E:Ev):Ev:=λx t env s=>
 if t.kind=10 then(⟨5,0⟩,s)else if t.kind=11 then(⟨6,0⟩,s)else if t.kind=13 then(⟨7,0⟩,s)else if t.kind=14 then(⟨7,0⟩,s)
 else if t.kind=12 then vo x s (ji t.text env)else if t.kind=16 then se E x t env s
 else if t.kind=18 then lI (fc E x t env t.kids.length 0 (⟨0,0⟩,s))else if t.kind=19 then ifP E x t env s
 else if t.kind=20 then Jg E x t env (bh E x t 0 env s)else if t.kind=21 then yI E x t env (bh E x t 0 env s)
 else if t.kind=22 then bh E x t 0 env s else(⟨0,0⟩,s)
def ib:Nat->Ev
 |0=>λ_ _ _ s=>(⟨0,0⟩,s)
 |n+1=>bA<|ib n
def mkC(x:Cx)(s:Sv):CKr:=⟨x.p,s.tg,x.nm,x.sg,x.mo,x.pa,s.fa,x.wm,x.wp,s.rs,s.rl⟩
section
variable(x:Cx)(s:Sv)
abbrev ckF(k:Int)(b:YI)(s':Sv):Prop:=aK (mkC x s) k b (mkC x s')
abbrev ckE(t:Tree)(env:Env)(k:Kn)(s':Sv):Prop:=gn (mkC x s) t env k (mkC x s')
abbrev ckK(t:Tree)(i:Int)(env:Env)(k:Kn)(s':Sv):Prop:=bp (mkC x s) t i env k (mkC x s')
abbrev ckV(t:Tree)(env:Env)(k:Kn)(s':Sv):Prop:=iB (mkC x s) t env k (mkC x s')
abbrev ckC(t:Tree)(env:Env)(k:Kn)(s':Sv):Prop:=la (mkC x s) t env k (mkC x s')
abbrev ckB(t:Tree)(env:Env)(k:Kn)(s':Sv):Prop:=im (mkC x s) t env k (mkC x s')
abbrev ckO(t:Tree)(env:Env)(k:Kn)(s':Sv):Prop:=hJ (mkC x s) t env k (mkC x s')
abbrev ckS(ab:Kn×Kn)(k:Kn)(s':Sv):Prop:=lH (mkC x s) ab k (mkC x s')
abbrev ckN(i:Int):Prop:=cN (mkC x s) i (mkC (x.go i) s)
abbrev ckD(i:Int):Prop:=aZ (mkC (x.go i) s) (mkC x s)
end
theorem Nv(a b:YI)(h:a.length+b.length<=1000000000):qL [a,b] (a++b):=by
 refine zU 6 _ _<|?_;refine nT 5 _ _ _ _ (⟨λ_=>⟨a,rfl,by omega,λh=>absurd h (by omega),λ_=>⟨by omega,?_⟩⟩,λh=>absurd (show 0<2 by decide) h⟩);refine nT 4 _ _ _ _ (⟨λ_=>⟨b,rfl,by omega,λh=>absurd h (by omega),λ_=>⟨by omega,?_⟩⟩,λh=>absurd (show 1<2 by decide) h⟩);refine nT 3 _ _ _ _ (⟨λh=>absurd h (show¬2<2 by decide),λ_=>⟨[],PP _ (by omega),?_⟩⟩);refine nR 2 _ _ _ _ (⟨λ_=>⟨a,rfl,by simp;omega,by omega,?_⟩,λh=>absurd (show 0<2 by decide) h⟩);refine nR 1 _ _ _ _ (⟨λ_=>⟨b,rfl,by simp;omega,by omega,?_⟩,λh=>absurd (show 1<2 by decide) h⟩);exact nR 0 _ _ _ _ (⟨λh=>absurd h (show¬2<2 by decide),λ_=>rfl⟩)
variable{x:Cx}{s:Sv}
theorem dX(k:Int)(b:YI)(h1:x.pa.length+b.length<=1000000000)(h2:s.fa.length+1<=1000000000):ckF x s k b (faP x k b s):=
 rS_typing_checker_fault 0 _ _ _ _ (⟨_,Nv x.pa b h1,by simp[mkC];omega,rfl⟩)
theorem kP(i:Int)(h:x.pa.length+1<=1000000000):ckN x s i:=ug 0 _ _ _ (⟨by simp[mkC];omega,rfl⟩)
theorem jn(i:Int):ckD x s i:=ur 0 _ _ (⟨x.pa.length,by simp[mkC,Cx.go],by simp[mkC,Cx.go],by simp[mkC,Cx.go]⟩)
theorem NY(h:0<s.tg.length):ia (mkC x s) (s.tg.headD noT) (mkC x<|cS s):=by
 obtain⟨tg,fa,rs,rl⟩:=s;cases tg with
 |nil=>simp at h
 |cons g r=>exact vR 0 _ _ _ (⟨g,rfl,by simp[mkC],rfl,rfl⟩)
theorem jO(a b:Kn):ci a b (bZ a b):=Ah 0 _ _ _ (⟨λh1=>⟨λh2=>by simp[bZ,h1,h2],λh2=>by simp[bZ,h1,h2]⟩,λh1=>by simp[bZ,h1]⟩)
theorem SC(a b:YI)(ha:a.length<=1000000000):oY a b (decide<|a=b):=by
 by_cases hl:a.length=b.length
 ·have key:∀k i,a.length-i<=k->a.take i=b.take i->ku (k+1) a b i (decide<|a=b):=by
   intro k
   induction k with
   |zero=>
    intro i hi ht;refine sG 0 _ _ _ _ (⟨λh=>by omega,λ_=>?_⟩);rw[List.take_of_length_le (by omega),List.take_of_length_le<|by omega]at ht;simp[ht]
   | succ k ih=>
    intro i hi ht;refine sG (k+1) _ _ _ _ (⟨λh=>?_,λh=>?_⟩)
    ·have h':i<b.length:=by omega
     refine⟨a[i],List.getElem?_eq_getElem h,b[i],List.getElem?_eq_getElem h',λhn=>?_,λhe=>⟨by omega,ih (i+1) (by omega) ?_⟩⟩
     ·have :a≠b:=λe=>hn (by subst e;rfl);simp[this]
     ·rw[List.take_add_one,List.take_add_one,ht,List.getElem?_eq_getElem h,List.getElem?_eq_getElem h',he]
    ·rw[List.take_of_length_le (by omega),List.take_of_length_le<|by omega]at ht;simp[ht]
  exact tc (a.length+1) _ _ _ (⟨λh=>absurd hl h,λ_=>key a.length 0 (by omega) I⟩)
 ·exact tc 0 _ _ _ (⟨λ_=>by have :a≠b:=λe=>hl (by rw[e]);simp[this],λh=>absurd h hl⟩)
variable{t u:Tree}{i:Nat}{env:Env}
theorem QL{s':Sv}{k:Kn}(J:t.kids[i]?=some u)(O:x.pa.length+1<=1000000000)(h:ckE (x.go i) s u env k s'):ckK x s t i env k (knS x i k s'):=by
 have Z:(x.pa++[(i:Int)]).length<=1000000000:=by simp;omega
 have he:=SC (x.pa++[(i:Int)]) x.wp Z;unfold knS;by_cases h1:x.mo=x.wm
 ·by_cases h2:x.pa++[(i:Int)]=x.wp
  ·rw[if_pos ⟨h1,h2⟩];refine kU 0 _ _ _ _ _ _ (⟨_,kP (i:Int) O,i,I,u,J,_,_,h,λ_=>⟨_,he,λ_=>⟨_,jn (x:=x) (s:={s' with rs:=k.simple,rl:=k.lists}) i,I,I⟩,λhb=>?_⟩,λG=>absurd h1 G⟩);rw[decide_eq_true h2]at hb;cases hb
  ·rw[if_neg λh=>h2 h.2];refine kU 0 _ _ _ _ _ _<|⟨_,kP (i:Int) O,i,I,u,J,_,_,h,λ_=>⟨_,he,λhb=>?_,λ_=>⟨_,jn (x:=x) (s:=s') i,I,I⟩⟩,λG=>absurd h1 G⟩;rw[decide_eq_false h2]at hb;cases hb
 ·rw[if_neg λh=>h1 h.1];exact kU 0 _ _ _ _ _ _<|⟨_,kP (i:Int) O,i,I,u,J,_,_,h,λG=>absurd G h1,λ_=>⟨_,jn (x:=x) (s:=s') i,I,I⟩⟩
theorem Mf{x:Cx}{s:Sv}(t:Tree)(h1:x.pa.length<=1000000000)(h2:s.fa.length+1<=1000000000):∀env:Env,eo (env.length+1) (mkC x s) t env (vo x s<|ji t.text env).1 (mkC x (vo x s<|ji t.text env).2)
 |[]=>ll 0 _ _ _ _ _ (⟨λ_=>⟨_,dX (x:=x) (s:=s) 1 [] (by simpa using h1) h2,rfl,rfl⟩,λy r h=>(by cases h)⟩)
 | b::r=>by
  refine ll (r.length+1) _ _ _ _ _ (⟨λh=>(by cases h),λy r' h=>?_⟩);injection h with e1 e2;subst e1 e2
  refine⟨λhb=>?_,λhb=>?_⟩
  ·rw[show ji t.text (b::r)=some b.typ from if_pos hb];exact⟨I,I⟩
  ·rw[show ji t.text (b::r)=ji t.text r from if_neg hb];exact Mf t h1 h2 r
theorem Sn(t:Tree)(env:Env)(h1:x.pa.length<=1000000000)(h2:s.fa.length+1<=1000000000):ckV x s t env (vo x s<|ji t.text env).1 (vo x s<|ji t.text env).2:=
 rS_typing_checker_variable (env.length+1) _ _ _ _ _ (Mf t h1 h2 env)
theorem lh(h:i<t.kids.length):t.kids[i]?=some (aM t i):=by simp only[aM,List.getD_eq_getElem?_getD];rw[List.getElem?_eq_getElem h];rfl
theorem ce(h:t.kids[i]?=some u):aM t i=u:=by simp only[aM,List.getD_eq_getElem?_getD,h];rfl
def exT(t:Tree):Prop:=shapeK t=true∧fv t.kind=true
theorem qm{n:Int}{a b c:Nat}{z:Int}(h:0<=f0 n a b c z):(a:Int)<=n∧(0<=z->n<=z):=by
 unfold f0 at h;split at h
 ·omega
 ·split at h
  ·omega
  ·exact⟨by omega,λG=>by omega⟩
theorem pQ(h:exT t):(t.kind=22->t.kids.length=1)∧(t.kind=20->t.kids.length=2)∧(t.kind=19->t.kids.length=3)∧(t.kind=21->t.kids.length=2):=by
 obtain⟨hs,J⟩:=h;rw[aY]at hs;simp only[aaa,aaj]at hs;have G:=hs.1.1;refine⟨λe=>?_,λe=>?_,λe=>?_,λe=>?_⟩
 ·rw[e]at G;have :=qm<|show 0<=f0 t.kids.length 1 2 0 1 from G;omega
 ·rw[e]at G;have :=qm<|show 0<=f0 t.kids.length 2 4 0 2 from G;omega
 ·rw[e]at G;have :=qm<|show 0<=f0 t.kids.length 3 3 0 3 from G;omega
 ·rw[e]at G;have :=qm<|show 0<=f0 t.kids.length 2 1 0 2 from G;omega
theorem dj(h:exT t)(hu:t.kids[i]?=some u)(h16:t.kind≠16):exT u∧u.kind≠17:=by
  obtain⟨hs,hk⟩:=h;rw[aY]at hs;simp only[aaa,aaj]at hs;obtain⟨g1,g2⟩:=cf hs.2 hu;have hk':10<=t.kind∧t.kind<=22∧t.kind≠17:=by simpa[fv]using hk
  have e:fv u.kind=true:=by
    simp only[fi]at g1;rw[if_neg (by omega),if_neg (by omega),if_neg (by omega),if_neg h16]at g1;split at g1
    · simp only[Bool.or_eq_true,Bool.and_eq_true,beq_iff_eq,uI]at g1;rcases g1 with g|⟨_,g⟩
      ·exact g.1
      ·rw[g];rfl
    ·exact g1
  exact ⟨⟨g2, e⟩, by have :10<=u.kind∧u.kind<=22∧u.kind≠17:=by simpa[fv   ]using e
                     exact this.2.2⟩
theorem BI(h:exT t)(hu:t.kids[i]?=some u)(J:t.kind=16):u.kind=17∧u.kids.length=1∧exT (aM u 0):=by
 obtain⟨hs,hk⟩:=h;rw[aY]at hs;simp only[aaa,aaj]at hs;obtain⟨O,G⟩:=cf hs.2 hu;have e:u.kind=17:=by rw[J]at O;simpa[fi]using O
 rw[aY]at G;simp only[aaa,aaj]at G;have Z:=G.1.1;rw[e]at Z;have :=qm<|show 0<=f0 u.kids.length 1 0 0 1 from Z;have h1:u.kids.length=1:=by omega
 obtain⟨g3,g4⟩:=cf G.2 (lh (t:=u) (i:=0)<|by omega);rw[e]at g3;exact⟨e,h1,g4,by simpa[fi]using g3⟩
mutual
def uN:Tree->Nat
 |.node k w ls ks=>(if k=16∨k=9 then 1 else 0)+uNs ks
def uNs:YT->Nat
 |[]=>0
 |t::r=>uN t+uNs r
end
theorem di(t:Tree):uN t=(if t.kind=16∨t.kind=9 then 1 else 0)+uNs t.kids:=by cases t;simp only[uN];rfl
def KOk(L:Nat)(k:Kn):Prop:=0<=k.lists∧k.lists<=(L:Int)
variable{L:Nat}
theorem KOk.mono{M:Nat}{k:Kn}(h:KOk L k)(G:L<=M):KOk M k:=⟨h.1,by have :=h.2;omega⟩
theorem sN(z:Int):KOk L ⟨z,0⟩:=⟨Int.le_refl _,by simp⟩
structure Hyp (x:Cx) (env:Env) (s:Sv) (L B u:Nat):Prop where
 pa:x.pa.length+B<=100000000
 fa:s.fa.length+4*B<=900000000
 tg:u<=s.tg.length
 lb:L+B<=900000000
 env:∀b∈env,KOk L b.typ
 sg:∀k g,aL k x.sg=some g->KOk L g.result
structure Pst (L B u:Nat) (s:Sv) (r:Kn×Sv):Prop where
 k:KOk (L+B) r.1
 tg:r.2.tg=s.tg.drop u
 fa:r.2.fa.length+1<=s.fa.length+4*B
theorem Hyp.to{s1:Sv}{B u B' G:Nat}(h:Hyp x env s L B u)(J:B'<=B)(hf:s1.fa.length+4*B'<=s.fa.length+4*B)(ht:G<=s1.tg.length):Hyp x env s1 L B' G:=
 ⟨by have :=h.pa;omega,by have :=h.fa;omega,ht,by have :=h.lb;omega,h.env,h.sg⟩
def wH(E:Ev)(N:Nat):Prop:=∀t,tbulk t<=N->exT t->∀x env s L,Hyp x env s L (tbulk t) (uN t)->ckE x s t env (E x t env s).1 (E x t env s).2∧Pst L (tbulk t) (uN t) s (E x t env s)
theorem Lc(x:Cx)(i:Nat)(k:Kn)(s:Sv):(knS x i k s).tg=s.tg:=by unfold knS;split<;>rfl
theorem AS(x:Cx)(i:Nat)(k:Kn)(s:Sv):(knS x i k s).fa=s.fa:=by unfold knS;split<;>rfl
variable{E:Ev}{N:Nat}
theorem iG(J:wH E N)(G:t.kids[i]?=some u)(hb:tbulk u<=N)(hx:exT u)(hy:Hyp x env s L (tbulk u+1)<|uN u):
  ckK x s t i env (bh E x t i env s).1 (bh E x t i env s).2∧Pst L (tbulk u) (uN u) s (bh E x t i env s):=by
 have O:=hy.pa;obtain⟨h1,h2⟩:=J u hb hx (x.go i) env s L ⟨by simp[Cx.go];omega,by have :=hy.fa;omega,hy.tg,by have :=hy.lb;omega,hy.env,hy.sg⟩;have e:bh E x t i env s=Mp x i (E (x.go i) u env s):=by unfold bh;rw[ce G]
 rw[e];generalize E (x.go i) u env s=r at h1 h2⊢;obtain⟨k,s'⟩:=r;exact⟨QL G (by omega) h1,h2.k,(Lc _ _ _ _).trans h2.tg,by show(knS x i k s').fa.length+1<=_;rw[AS];exact h2.fa⟩
theorem bL(x:Cx)(k:Int)(b:YI)(s:Sv):(faP x k b s).fa.length=s.fa.length+1:=by simp[faP]
theorem SG(a b:Kn)(h1:x.pa.length+1<=1000000000)(h2:s.fa.length+3<=1000000000):ckS x s (a,b) (tH a b) (nM x a b s):=by
 have L4:∀s0:Sv,s0.fa.length+1<=1000000000->∀(w:Bool) (f:Kn),du 1 (a,b) f.simple f.lists (mkC x s0) w f (mkC x<|if w=false∧bZ a b=true then faP x 6 [1] s0 else s0):=λs0 h0 w f=>by
  refine vw 0 _ _ _ _ _ _ _<|⟨λZ=>⟨_,jO a b,λhd=>?_,λhd=>?_⟩,λZ=>?_⟩
  ·rw[if_pos ⟨Z,hd⟩];exact⟨_,dX (x:=x) (s:=s0) 6 [1] h1 h0,I,I⟩
  ·rw[if_neg (λh=>by rw[hd]at h;cases h.2)];exact⟨I,I⟩
  ·rw[if_neg (λh=>by rw[Z]at h;cases h.1)];exact⟨I,I⟩
 have L3:∀s0:Sv,s0.fa.length+2<=1000000000->∀(w:Bool) (f:Kn) (v:Bool),v=okB b->gK 2 (a,b) (mkC x s0) w f.simple f.lists v (if okB b then(if f.simple=0 then b else f)else f) (mkC x<|if bad b then faP x 4 [1] s0 else if w=false∧bZ a b=true then faP x 6 [1] s0 else s0):=λs0 h0 w f v hv=>by
  refine vb 1 _ _ _ _ _ _ _ _<|⟨λZ=>?_,λZ=>⟨λhn=>?_,λhn=>?_⟩⟩
  ·have G:okB b=true:=hv▸Z;have J:¬(bad b=true):=by simp[bad,G]
   rw[if_neg J,if_pos G];refine⟨λhz=>?_,λhz=>?_⟩
   ·rw[if_pos hz];exact L4 s0 (by omega) w b
   ·rw[if_neg hz];exact L4 s0 (by omega) w f
  ·have O:=hn;simp only at O;have G:okB b=false:=hv▸Z;have J:bad b=true:=by simp[bad,G,O]
   rw[if_pos J,if_neg (by rw[G];decide)];have :=L4 (faP x 4 [1] s0) (by rw[bL];omega) true f;rw[if_neg λh=>by cases h.1]at this;exact⟨_,dX (x:=x) (s:=s0) 4 [1] h1 (by omega),this⟩
  ·have O:=hn;simp only at O;have G:okB b=false:=hv▸Z;have J:¬(bad b=true):=by simp[bad,G,O]
   rw[if_neg J,if_neg (by rw[G];decide)];exact L4 s0 (by omega) w f
 have L2:∀s0:Sv,s0.fa.length+2<=1000000000->∀(w:Bool) (f:Kn),eS 3 (a,b) (mkC x s0) w f.simple f.lists (if okB b then(if f.simple=0 then b else f)else f) (mkC x<|if bad b then faP x 4 [1] s0 else if w=false∧bZ a b=true then faP x 6 [1] s0 else s0):=λs0 h0 w f=>
  rL2_typing_checker_sum 2 _ _ _ _ _ _ _ (⟨λh=>L3 s0 h0 w f true (by have h':b.simple=5∧b.lists=0:=h;simp[okB,h'.1,h'.2]),λh=>L3 s0 h0 w f _ (by
   by_cases e1:b.simple=5
   ·by_cases e2:b.lists=0
    ·exact absurd ⟨e1,e2⟩ h
    ·simp[okB,e1,e2]
   ·simp[okB,e1])⟩)
 have L1:∀v:Bool,v=okB a->gI 4 (mkC x s) (a,b) v (tH a b) (mkC x<|nM x a b s):=λv hv=>by
  refine vu 3 _ _ _ _ _<|⟨λZ=>?_,λZ=>⟨λhn=>?_,λhn=>?_⟩⟩
  ·have G:okB a=true:=hv▸Z;have J:¬(bad a=true):=by simp[bad,G]
   have :=L2 s (by omega) false a;simp only[true_and]at this;unfold tH nM uR;rw[if_neg J,if_pos G];exact this
  ·have O:=hn;simp only at O;have G:okB a=false:=hv▸Z;have J:bad a=true:=by simp[bad,G,O]
   have :=L2 (faP x 4 [0] s) (by rw[bL];omega) true ⟨0,0⟩;rw[show(if bad b then faP x 4 [1] (faP x 4 [0] s)else if true=false∧bZ a b=true then faP x 6 [1] (faP x 4 [0] s)else faP x 4 [0] s)=(if bad b then faP x 4 [1] (faP x 4 [0] s)else faP x 4 [0] s) by rw[if_neg (c:=true=false∧bZ a b=true) λh=>by cases h.1]]at this;unfold tH nM uR;rw[if_pos J,if_neg (c:=okB a=true) (by rw[G];decide)];exact⟨_,dX (x:=x) (s:=s) 4 [0] h1 (by omega),this⟩
  ·have O:=hn;simp only at O;have G:okB a=false:=hv▸Z;have J:¬(bad a=true):=by simp[bad,G,O]
   have :=L2 s (by omega) false ⟨0,0⟩;simp only[true_and]at this;unfold tH nM uR;rw[if_neg J,if_neg (c:=okB a=true) (by rw[G];decide)];exact this
 refine vS 5 _ _ _ _ (?_);exact vh 4 _ _ _ _ (⟨λh=>L1 true (by have h':a.simple=5∧a.lists=0:=h;simp[okB,h'.1,h'.2]),λh=>L1 _ (by
  by_cases e1:a.simple=5
  ·by_cases e2:a.lists=0
   ·exact absurd ⟨e1,e2⟩ h
   ·simp[okB,e1,e2]
  ·simp[okB,e1])⟩)
theorem SZ(t:Tree)(a b:Kn)(h1:x.pa.length+1<=1000000000)(h2:s.fa.length+3<=1000000000):gw 4 t a b (mkC x s) (opQ x t.text a (b,s)).1 (mkC x (opQ x t.text a (b,s)).2):=by
 have L3:∀s0:Sv,t.text≠[43]->t.text≠[61,61]->dV 1 t a b (mkC x s0) (if t.text=[60]then⟨7,0⟩else⟨5,0⟩) (mkC x s0):=λs0 _ _=>
  rL3_typing_checker_operation 0 _ _ _ _ _ _ (⟨λh=>by rw[if_pos h];exact⟨rfl,rfl⟩,λh=>by rw[if_neg h];exact⟨rfl,rfl⟩⟩)
 have L2:∀s0:Sv,s0.fa.length+1<=1000000000->t.text≠[43]->t.text≠[61,61]->dU 2 t a b (mkC x s0) (if t.text=[60]then⟨7,0⟩else⟨5,0⟩) (mkC x<|if bZ b ⟨5,0⟩then faP x 4 [1] s0 else s0):=λs0 O G J=>
  rL2_typing_checker_operation 1 _ _ _ _ _ _ (⟨_,jO b ⟨5,0⟩,λh=>by rw[if_pos h];exact⟨_,dX (x:=x) (s:=s0) 4 [1] h1 O,L3 _ G J⟩,λh=>by rw[if_neg (c:=bZ b ⟨5,0⟩=true) (by rw[h];decide)];exact L3 _ G J⟩)
 refine rG 3 _ _ _ _ _ _<|⟨λh=>?_,λG=>⟨λh=>?_,λJ=>?_⟩⟩
 ·rw[show opQ x t.text a (b,s)=(tH a b,nM x a b s)from if_pos h];exact⟨_,_,SG (x:=x) (s:=s) a b h1 h2,I,I⟩
 ·rw[show opQ x t.text a (b,s)=(⟨7,0⟩,if bZ a b then faP x 6 [1] s else s)from(if_neg G).trans (if_pos h)];refine⟨_,jO a b,λh=>?_,λh=>?_⟩
  ·rw[if_pos h];exact⟨_,dX (x:=x) (s:=s) 6 [1] h1 (by omega),rfl,rfl⟩
  ·rw[if_neg (by rw[h];decide)];exact⟨rfl,rfl⟩
 ·rw[show opQ x t.text a (b,s)=(if t.text=[60]then⟨7,0⟩else⟨5,0⟩,rK x a b s)from(if_neg G).trans (if_neg J)];refine rD 2 _ _ _ _ _ _ (⟨_,jO a ⟨5,0⟩,λh=>?_,λh=>?_⟩)
  ·have :=L2 (faP x 4 [0] s) (by rw[bL];omega) G J;unfold rK;rw[if_pos (c:=bZ a ⟨5,0⟩=true) h];exact⟨_,dX (x:=x) (s:=s) 4 [0] h1 (by omega),this⟩
  ·have :=L2 s (by omega) G J;unfold rK;rw[if_neg (c:=bZ a ⟨5,0⟩=true) (by rw[h];decide)];exact this
theorem Qz{a b:Kn}(G:KOk L a)(hb:KOk L b):KOk L (tH a b):=by
 have h1:KOk L (uR a):=by unfold uR;split;exact G;exact sN 0
 unfold tH;split
 ·split
  ·exact hb
  ·exact h1
 ·exact h1
theorem GN(x:Cx)(a b:Kn)(s:Sv):(nM x a b s).tg=s.tg∧(nM x a b s).fa.length<=s.fa.length+2:=by
 unfold nM
 repeat' split
 all_goals exact⟨rfl,by first|(simp only[bL];omega)|omega⟩
theorem Ic(x:Cx)(a b:Kn)(s:Sv):(rK x a b s).tg=s.tg∧(rK x a b s).fa.length<=s.fa.length+2:=by
 unfold rK
 repeat' split
 all_goals exact⟨rfl,by first|(simp only[bL];omega)|omega⟩
theorem Rj{w:YB}{a b:Kn}(G:KOk L a)(hb:KOk L b):KOk L (opQ x w a (b,s)).1∧(opQ x w a (b,s)).2.tg=s.tg∧(opQ x w a (b,s)).2.fa.length<=s.fa.length+2:=by
 by_cases h1:w=[43]
 ·rw[show opQ x w a (b,s)=(tH a b,nM x a b s)from if_pos h1];exact⟨Qz G hb,GN x a b s⟩
 ·by_cases h2:w=[61,61]
  ·rw[show opQ x w a (b,s)=(⟨7,0⟩,if bZ a b then faP x 6 [1] s else s)from(if_neg h1).trans (if_pos h2)];refine⟨sN _,?_⟩;simp only[];split
   ·exact⟨I,by rw[bL];omega⟩
   ·exact⟨I,by omega⟩
  ·rw[show opQ x w a (b,s)=(if w=[60]then⟨7,0⟩else⟨5,0⟩,rK x a b s)from(if_neg h1).trans (if_neg h2)];refine⟨?_,Ic x a b s⟩;simp only[];split<;>exact sN _
theorem DK(h:t.kids.length=2):∃a b,t.kids=[a,b]:=by
 match e:t.kids,h with
 |[a,b],_=>exact⟨a,b,rfl⟩
theorem NT(h:t.kids.length=3):∃a b c,t.kids=[a,b,c]:=by
 match e:t.kids,h with
 |[a,b,c],_=>exact⟨a,b,c,rfl⟩
theorem AP(h:t.kids.length=1):∃a,t.kids=[a]:=by
 match e:t.kids,h with
 |[a],_=>exact⟨a,rfl⟩
theorem zB{s1:Sv}{u G v:Nat}(h:s1.tg=s.tg.drop u)(J:u+G<=v)(hv:v<=s.tg.length):G<=s1.tg.length:=by rw[h,aal];omega
theorem Mt(J:wH E N)(hb:tbulk t<=N+1)(hx:exT t)(O:t.kind=21)(hy:Hyp x env s L (tbulk t)<|uN t):
  ckO x s t env (yI E x t env<|bh E x t 0 env s).1 (yI E x t env<|bh E x t 0 env s).2∧Pst L (tbulk t) (uN t) s (yI E x t env<|bh E x t 0 env s):=by
 obtain⟨a,b,e⟩:=DK<|(pQ hx).2.2.2 O;have Z:t.kids[0]?=some a:=by rw[e];rfl
 have G:t.kids[1]?=some b:=by rw[e];rfl
 have hB:=bm t;rw[e]at hB;simp only[kbulk]at hB;have hU:uN t=uN a+uN b:=by rw[di,e,O];simp[uNs]
 have p0:=hy.pa;have p1:=hy.fa;have p2:=hy.tg;have p3:=hy.lb;obtain⟨A1,A2⟩:=iG J (s:=s) (env:=env) (x:=x) (L:=L) Z (by omega) (dj hx Z<|by omega).1 (hy.to (by omega) (by omega)<|by omega);generalize bh E x t 0 env s=r at A1 A2⊢;obtain⟨k1,s1⟩:=r;have q1:=A2.fa;simp only at q1;obtain⟨B1,B2⟩:=iG J (s:=s1) (env:=env) (x:=x) (L:=L) G (by omega) (dj hx G<|by omega).1 (hy.to (by omega) (by omega)<|zB (v:=uN t) A2.tg (by omega) p2);show ckO x s t env (opQ x t.text k1<|bh E x t 1 env s1).1 (opQ x t.text k1<|bh E x t 1 env s1).2∧Pst L (tbulk t) (uN t) s (opQ x t.text k1<|bh E x t 1 env s1);generalize bh E x t 1 env s1=r at B1 B2⊢;obtain⟨k2,s2⟩:=r;have q2:=B2.fa;simp only at q2;refine⟨sH 4 _ _ _ _ _ (⟨_,_,A1,_,_,B1,SZ (x:=x) (s:=s2) t k1 k2 (by omega)<|by omega⟩),?_⟩;obtain⟨g1,g2,g3⟩:=Rj (x:=x) (w:=t.text) (s:=s2) (a:=k1) (b:=k2) (L:=L+tbulk t) (A2.k.mono<|by omega) (B2.k.mono<|by omega);exact⟨g1,by rw[g2,B2.tg,A2.tg,List.drop_drop,hU],by omega⟩
theorem Oo(hE:wH E N)(hb:tbulk t<=N+1)(hx:exT t)(hk:t.kind=19)(hy:Hyp x env s L (tbulk t)<|uN t):
  ckB x s t env (ifP E x t env s).1 (ifP E x t env s).2∧Pst L (tbulk t) (uN t) s (ifP E x t env s):=by
 obtain⟨a,b,c,e⟩:=NT<|(pQ hx).2.2.1 hk;have ha:t.kids[0]?=some a:=by rw[e];rfl
 have hb':t.kids[1]?=some b:=by rw[e];rfl
 have hc:t.kids[2]?=some c:=by rw[e];rfl
 have hB:=bm t;rw[e]at hB;simp only[kbulk]at hB;have hU:uN t=uN a+uN b+uN c:=by rw[di,e,hk];simp[uNs];omega
 have p0:=hy.pa;have p1:=hy.fa;have p2:=hy.tg;have p3:=hy.lb;obtain⟨A1,A2⟩:=iG hE (s:=s) (env:=env) (x:=x) (L:=L) ha (by omega) (dj hx ha<|by omega).1 (hy.to (by omega) (by omega)<|by omega);unfold ifP;generalize bh E x t 0 env s=r at A1 A2⊢;obtain⟨k1,s1⟩:=r;have q1:=A2.fa;simp only at q1;obtain⟨G,hs1⟩:∃G,G=ifS x (k1,s1):=⟨_,rfl⟩;have f1:G.tg=s1.tg∧G.fa.length<=s1.fa.length+1:=by
  rw[hs1];unfold ifS;simp only[];split
  ·exact⟨I,by rw[bL];omega⟩
  ·exact⟨I,by omega⟩
 rw[<-hs1];obtain⟨B1,B2⟩:=iG hE (s:=G) (env:=env) (x:=x) (L:=L) hb' (by omega) (dj hx hb'<|by omega).1 (hy.to (by omega) (by omega)<|zB (v:=uN t) (f1.1.trans A2.tg) (by omega) p2);generalize bh E x t 1 env G=r at B1 B2⊢;obtain⟨J,s2⟩:=r;have q2:=B2.fa;simp only at q2;have hd2:s2.tg=s.tg.drop (uN a+uN b):=by have :=B2.tg;simp only at this;rw[this,f1.1,A2.tg,List.drop_drop]
 obtain⟨C1,C2⟩:=iG hE (s:=s2) (env:=env) (x:=x) (L:=L) hc (by omega) (dj hx hc<|by omega).1 (hy.to (by omega) (by omega)<|zB (v:=uN t) hd2 (by omega) p2);show ckB x s t env (ifQ x J<|bh E x t 2 env s2).1 (ifQ x J<|bh E x t 2 env s2).2∧Pst L (tbulk t) (uN t) s (ifQ x J<|bh E x t 2 env s2);generalize bh E x t 2 env s2=r at C1 C2⊢;obtain⟨O,Z⟩:=r;have q3:=C2.fa;simp only at q3;have hd3:Z.tg=s.tg.drop (uN t):=by have :=C2.tg;simp only at this;rw[this,hd2,List.drop_drop,hU]
 have fin:ej 1 t env (mkC x G) (ifQ x J (O,Z)).1 (mkC x (ifQ x J (O,Z)).2):=by
  refine su 0 _ _ _ _ _<|⟨_,_,B1,_,_,C1,_,jO J O,λh=>?_,λh=>?_⟩
  ·rw[show ifQ x J (O,Z)=(if J.simple=0 then O else J,if bZ J O then faP x 6 [2] Z else Z)from rfl];rw[if_pos (c:=bZ J O=true) h];refine⟨_,dX (x:=x) (s:=Z) 6 [2] (by simp;omega) (by omega),λhz=>?_,λhz=>?_⟩
   ·rw[if_pos hz];exact⟨rfl,rfl⟩
   ·rw[if_neg hz];exact⟨rfl,rfl⟩
  ·rw[show ifQ x J (O,Z)=(if J.simple=0 then O else J,if bZ J O then faP x 6 [2] Z else Z)from rfl];rw[if_neg (c:=bZ J O=true) (by rw[h];decide)];refine⟨λhz=>?_,λhz=>?_⟩
   ·rw[if_pos hz];exact⟨rfl,rfl⟩
   ·rw[if_neg hz];exact⟨rfl,rfl⟩
 refine⟨sT 1 _ _ _ _ _<|⟨_,_,A1,_,jO k1 ⟨7,0⟩,λh=>?_,λh=>?_⟩,?_⟩
 ·have e1:G=faP x 4 [0] s1:=hs1.trans<|if_pos h;rw[e1]at fin;exact⟨_,dX (x:=x) (s:=s1) 4 [0] (by simp;omega) (by omega),fin⟩
 ·have e1:G=s1:=hs1.trans (if_neg (by rw[h];decide));rw[e1]at fin;exact fin
 ·refine⟨?_,?_,?_⟩<;>unfold ifQ<;>simp only[]
  ·split
   ·exact C2.k.mono (by omega)
   ·exact B2.k.mono (by omega)
  ·split<;>exact hd3
  ·split
   ·rw[bL];omega
   ·omega
theorem Jk{E:Ev}{N:Nat}(hE:wH E N){x:Cx}{env:Env}{L M:Nat}{t:Tree}(hkl:t.kids.length<=1000000000)(ht:∀(i:Nat) (u:Tree),t.kids[i]?=some u->tbulk u<=N∧tbulk u<=M∧exT u):∀(n i:Nat) (f:Kn) (s:Sv),n+i=t.kids.length->KOk (L+M) f->Hyp x env s L (kbulk (t.kids.drop i)+1) (uNs<|t.kids.drop i)->L+M<=900000000->
  L0_typing_checker_list (n+1) t env (mkC x s) f.simple f.lists i (lI<|fc E x t env n i (f,s)).1 (mkC x (lI<|fc E x t env n i (f,s)).2)∧
  KOk (L+M+1) (lI<|fc E x t env n i (f,s)).1∧(lI<|fc E x t env n i (f,s)).2.tg=s.tg.drop (uNs<|t.kids.drop i)∧(lI<|fc E x t env n i (f,s)).2.fa.length<=s.fa.length+4*kbulk (t.kids.drop i)
 | 0,i,f,s,hn,hf,hy,hl=>by
  have h0:=hf.1;have h1:=hf.2;have hd:t.kids.drop i=[]:=List.drop_of_length_le (by omega);rw[show fc E x t env 0 i (f,s)=(f,s)from rfl];refine⟨nB 0 _ _ _ _ _ _ _ _ (⟨λh=>absurd h (by omega),λ_=>⟨λhz=>?_,λhz=>?_⟩⟩),?_,?_,?_⟩
  ·rw[show lI (f,s)=(⟨f.simple,f.lists+1⟩,s) by unfold lI;simp only[if_neg hz]];exact⟨⟨by omega,by omega⟩,I,I⟩
  ·rw[show lI (f,s)=(f,s) by unfold lI;simp only[if_pos hz]];exact⟨I,I⟩
  ·show KOk (L+M+1) (if f.simple=0 then f else⟨f.simple,f.lists+1⟩);split
   ·exact hf.mono (by omega)
   ·exact⟨by simp only[];omega,by simp only[];omega⟩
  ·rw[hd];simp[uNs,lI]
  ·rw[hd];simp[lI]
 | n+1,i,f,s,hn,hf,hy,hl=>by
  have hlt:i<t.kids.length:=by omega
  obtain⟨u,hu⟩:∃u,t.kids[i]?=some u:=⟨_,lh hlt⟩;have hd:=aX hu;obtain⟨b1,b2,b3⟩:=ht i u hu;have p1:=hy.pa;have p2:=hy.fa;have p3:=hy.tg;have p4:=hy.lb;rw[hd]at p1 p2 p3 p4 hy⊢;simp only[kbulk,uNs]at p1 p2 p3 p4 hy⊢;obtain⟨A1,A2⟩:=iG hE (s:=s) (env:=env) (x:=x) (L:=L) hu b1 b3 (hy.to (by omega) (by omega)<|by omega);rw[show fc E x t env (n+1) i (f,s)=fc E x t env n (i+1) (Fz x i f<|bh E x t i env s)from rfl];generalize bh E x t i env s=r at A1 A2⊢;obtain⟨k,s1⟩:=r;have q1:=A2.fa;have q2:=A2.tg;have q3:=A2.k;simp only at q1 q2 q3;obtain⟨f1,hf1⟩:∃f1,f1=if f.simple=0 then k else f:=⟨_,rfl⟩
  have hk1:KOk (L+M) f1:=by
   rw[hf1];split
   ·exact q3.mono (by omega)
   ·exact hf
  have next:∀s2:Sv,s2.tg=s1.tg->s2.fa.length<=s1.fa.length+1->Hyp x env s2 L (kbulk (t.kids.drop<|i+1)+1) (uNs<|t.kids.drop<|i+1):=λs2 e1 e2=>
   hy.to (by omega) (by omega) (by rw[e1,q2,aal];omega)
  rw[show Fz x i f (k,s1)=(if f.simple=0 then k else f,if bZ k (if f.simple=0 then k else f)then faP x 6 [(i:Int)] s1 else s1)from rfl,<-hf1];have fin:∀s2:Sv,s2.tg=s1.tg->s2.fa.length<=s1.fa.length+1->KOk (L+M+1) (lI<|fc E x t env n (i+1) (f1,s2)).1∧(lI<|fc E x t env n (i+1) (f1,s2)).2.tg=s.tg.drop (uN u+uNs (t.kids.drop<|i+1))∧(lI<|fc E x t env n (i+1) (f1,s2)).2.fa.length<=s.fa.length+4*(tbulk u+kbulk (t.kids.drop<|i+1)):=λs2 e1 e2=>by obtain⟨_,g2,g3,g4⟩:=Jk hE hkl ht n (i+1) f1 s2 (by omega) hk1 (next s2 e1 e2) hl;exact⟨g2,by rw[g3,e1,q2,List.drop_drop],by omega⟩
  have run:∀s2:Sv,s2.tg=s1.tg->s2.fa.length<=s1.fa.length+1->_:=λs2 e1 e2=>(Jk hE hkl ht n (i+1) f1 s2 (by omega) hk1 (next s2 e1 e2) hl).1;refine⟨nB (n+1) _ _ _ _ _ _ _ _<|⟨λ_=>⟨_,_,A1,λhz=>⟨_,jO k k,λh=>?_,λh=>?_⟩,λhz=>⟨_,jO k f,λh=>?_,λh=>?_⟩⟩,λh=>absurd hlt h⟩,?_⟩
  ·have e:f1=k:=hf1.trans<|if_pos hz;rw[e]at run⊢;rw[if_pos (c:=bZ k k=true) h];exact⟨_,dX (x:=x) (s:=s1) 6 [(i:Int)] (by simp;omega) (by omega),by omega,run _ rfl (by rw[bL];omega)⟩
  ·have e:f1=k:=hf1.trans<|if_pos hz;rw[e]at run⊢;rw[if_neg (c:=bZ k k=true) (by rw[h];decide)];exact⟨by omega,run s1 I<|by omega⟩
  ·have e:f1=f:=hf1.trans<|if_neg hz;rw[e]at run⊢;rw[if_pos (c:=bZ k f=true) h];exact⟨_,dX (x:=x) (s:=s1) 6 [(i:Int)] (by simp;omega) (by omega),by omega,run _ rfl (by rw[bL];omega)⟩
  ·have e:f1=f:=hf1.trans<|if_neg hz;rw[e]at run⊢;rw[if_neg (c:=bZ k f=true) (by rw[h];decide)];exact⟨by omega,run s1 I<|by omega⟩
  ·split
   ·exact fin _ I (by rw[bL];omega)
   ·exact fin _ I (by omega)
theorem EL{E:Ev}{N:Nat}(hE:wH E N){x:Cx}{env:Env}{L:Nat}{t:Tree}(ps:List Kn)(z1 z2:Int)(hkl:t.kids.length<=1000000000)(ht:∀(i:Nat) (a:Tree),t.kids[i]?=some a->∃u,a.kids[0]?=some u∧tbulk u<tbulk a∧tbulk u<=N∧exT u∧uN a=uN u):∀(n i:Nat) (s:Sv),n+i=t.kids.length->x.pa.length+kbulk (t.kids.drop i)+1<=100000000->Hyp x env s L (kbulk<|t.kids.drop i) (uNs<|t.kids.drop i)->
  L0_typing_checker_call (n+1) t env (mkC x s) ps z1 z2 i ⟨z1,z2⟩ (mkC x<|fj E x ps env (t.kids.drop i) i s)∧
  (fj E x ps env (t.kids.drop i) i s).tg=s.tg.drop (uNs<|t.kids.drop i)∧(fj E x ps env (t.kids.drop i) i s).fa.length<=s.fa.length+4*kbulk (t.kids.drop i)
 |0,i,s,hn,hpa,hy=>by have hd:t.kids.drop i=[]:=List.drop_of_length_le (by omega);rw[hd];exact⟨nE 0 _ _ _ _ _ _ _ _ _ (⟨λh=>absurd h (by omega),λ_=>⟨rfl,rfl⟩⟩),by simp[uNs,fj],by simp[fj]⟩
 | n +1,i,s,hn,hpa,hy=>by
  have hlt:i<t.kids.length:=by omega
  obtain⟨a,ha⟩:∃a,t.kids[i]?=some a:=⟨_,lh hlt⟩;have hd:=aX ha;obtain⟨u,hu,b1,b2,b3,b4⟩:=ht i a ha;have p1:=hy.pa;have p2:=hy.fa;have p3:=hy.tg;have p4:=hy.lb;rw[hd]at p1 p2 p3 p4 hy hpa⊢;simp only[kbulk,uNs]at p1 p2 p3 p4 hy hpa⊢;obtain⟨A1,A2⟩:=iG hE (s:=s) (env:=env) (x:=x.go i) (L:=L) hu b2 b3 ⟨by simp[Cx.go];omega,by omega,by omega,by omega,hy.env,hy.sg⟩;rw[show fj E x ps env (a::t.kids.drop (i+1)) i s=fj E x ps env (t.kids.drop<|i+1) (i+1) (sL x ps i<|bh E (x.go i) a 0 env s)from rfl];generalize bh E (x.go i) a 0 env s=r at A1 A2⊢;obtain⟨k,s1⟩:=r;have q1:=A2.fa;have q2:=A2.tg;simp only at q1 q2;have next:∀s2:Sv,s2.tg=s1.tg->s2.fa.length<=s1.fa.length+1->Hyp x env s2 L (kbulk<|t.kids.drop<|i+1) (uNs<|t.kids.drop<|i+1):=λs2 e1 e2=>
   hy.to (by omega) (by omega) (by rw[e1,q2,aal];omega)
  have fin:∀s2:Sv,s2.tg=s1.tg->s2.fa.length<=s1.fa.length+1->(fj E x ps env (t.kids.drop<|i+1) (i+1) s2).tg=s.tg.drop (uN a+uNs (t.kids.drop<|i+1))∧(fj E x ps env (t.kids.drop<|i+1) (i+1) s2).fa.length<=s.fa.length+4*(tbulk a+kbulk (t.kids.drop<|i+1)):=λs2 e1 e2=>by
   obtain⟨_,g3,g4⟩:=EL hE ps z1 z2 hkl ht n (i+1) s2 (by omega) (by omega)<|next s2 e1 e2;exact⟨by rw[g3,e1,q2,List.drop_drop,b4],by omega⟩
  have run:∀s2:Sv,s2.tg=s1.tg->s2.fa.length<=s1.fa.length+1->_:=λs2 e1 e2=>(EL hE ps z1 z2 hkl ht n (i+1) s2 (by omega) (by omega)<|next s2 e1 e2).1;refine⟨nE (n+1) _ _ _ _ _ _ _ _ _ (⟨λ_=>⟨a,ha,_,kP (x:=x) (s:=s) (i:Int) (by omega),_,_,A1,_,jn (x:=x) (s:=s1) (i:Int),λhi=>?_,λhi=>⟨by omega,?_⟩⟩,λh=>absurd hlt h⟩),?_⟩
  ·obtain⟨q,hq⟩:∃q,ps[i]?=some q:=⟨ps[i],List.getElem?_eq_getElem hi⟩;rw[show sL x ps i (k,s1)=if bZ k q then faP x 4 [(i:Int),0] s1 else s1 by unfold sL;simp only[hq]];refine⟨q,hq,_,jO k q,λh=>?_,λh=>?_⟩
   ·rw[if_pos h];exact⟨_,dX (x:=x) (s:=s1) 4 [(i:Int),0] (by simp;omega) (by omega),run _ rfl (by rw[bL];omega)⟩
   ·rw[if_neg (by rw[h];decide)];exact run s1 I (by omega)
  ·have hq:ps[i]?=none:=List.getElem?_eq_none (by omega);rw[show sL x ps i (k,s1)=s1 by unfold sL;simp only[hq]];exact run s1 I (by omega)
  ·have e:∀r,sL x ps i (k,s1)=r->r.tg=s1.tg∧r.fa.length<=s1.fa.length+1:=λr hr=>by
    subst hr;unfold sL;simp only[];split
    ·split
     ·exact⟨I,by rw[bL];omega⟩
     ·exact⟨I,by omega⟩
    ·exact⟨I,by omega⟩
   exact fin _ (e _ I).1 (e _ I).2
theorem KL(hE:wH E N)(hb:tbulk t<=N+1)(hx:exT t)(hk:t.kind=16)(hy:Hyp x env s L (tbulk t)<|uN t):
  ckC x s t env (se E x t env s).1 (se E x t env s).2∧Pst L (tbulk t) (uN t) s (se E x t env s):=by
 have hB:=bm t;have hU:uN t=1+uNs t.kids:=by rw[di,hk];simp
 have p1:=hy.pa;have p2:=hy.fa;have p3:=hy.tg;have p4:=hy.lb;have hkl:=bw t;have ht:∀(i:Nat) (a:Tree),t.kids[i]?=some a->∃u,a.kids[0]?=some u∧tbulk u<tbulk a∧tbulk u<=N∧exT u∧uN a=uN u:=λi a ha=>by
  obtain⟨h1,h2,h3⟩:=BI hx ha hk;obtain⟨u,e⟩:=AP h2;have hu:a.kids[0]?=some u:=by rw[e];rfl
  have h4:=aF hu;have h5:=aF ha;rw[ce hu]at h3;exact⟨u,hu,h4,by omega,h3,by rw[di a,h1,e];simp[uNs]⟩
 obtain⟨g,hg⟩:∃g,g=s.tg.headD noT:=⟨_,rfl⟩;have O:=NY (x:=x) (s:=s) (by omega);rw[<-hg]at O;obtain⟨q,Z⟩:∃q,q=mv x g:=⟨_,rfl⟩;have hqr:KOk L q.result:=by
  rw[Z];unfold mv;split
  ·exact sN 0
  ·cases hm:aL (g.Module,g.Def) x.sg with
   |none=>exact sN 0
   |some d=>exact hy.sg _ d hm
 obtain⟨s1,J⟩:∃s1,s1=wN x t g q (cS s):=⟨_,rfl⟩;have f1:s1.tg=s.tg.drop 1∧s1.fa.length<=s.fa.length+1:=by
  rw[J];unfold wN;split
  ·exact⟨rfl,by rw[bL];simp[cS]⟩
  ·split
   ·exact⟨rfl,by simp[cS]⟩
   ·exact⟨rfl,by rw[bL];simp[cS]⟩
 have e0:se E x t env s=(q.result,fj E x q.params env t.kids 0 s1):=by rw[J,Z,hg];rfl
 obtain⟨A1,A2,A3⟩:=EL hE (x:=x) (env:=env) (L:=L) (t:=t) q.params q.result.simple q.result.lists (by omega) ht t.kids.length 0 s1 (by omega) (by simp;omega) (hy.to (by simp;omega) (by simp;omega) (by rw[f1.1,aal];simp;omega));simp only[List.drop_zero]at A1 A2 A3;rw[e0];refine⟨vx (t.kids.length+1) _ _ _ _ _<|⟨_,_,O,λh=>?_,λh=>⟨λhm=>⟨λhn=>?_,λhn=>?_⟩,λd hm=>⟨λhn=>?_,λhn=>?_⟩⟩⟩,?_⟩
 ·have eq:q=⟨[],⟨0,0⟩⟩:=Z.trans<|if_pos h;have es:s1=faP x 1 [] (cS s):=J.trans<|if_pos h;rw[es,eq]at A1;rw[es,eq];exact⟨_,dX (x:=x) (s:=cS s) 1 [] (by simp;omega) (by simp[cS];omega),A1⟩
 ·have eq:q=⟨[],⟨0,0⟩⟩:=Z.trans ((if_neg (by rw[h];decide)).trans (by have G:=hm;simp only[mkC]at G;rw[G];rfl));have es:s1=faP x 3 [] (cS s):=J.trans ((if_neg (by rw[h];decide)).trans<|if_neg (by rw[eq];intro e;have e':0=t.kids.length:=e;exact hn<|by omega));rw[es,eq]at A1;rw[es,eq];exact⟨_,dX (x:=x) (s:=cS s) 3 [] (by simp;omega) (by simp[cS];omega),A1⟩
 ·have eq:q=⟨[],⟨0,0⟩⟩:=Z.trans ((if_neg (by rw[h];decide)).trans (by have G:=hm;simp only[mkC]at G;rw[G];rfl));have es:s1=cS s:=J.trans ((if_neg (by rw[h];decide)).trans<|if_pos (by rw[eq];show 0=t.kids.length;omega));rw[es,eq]at A1;rw[es,eq];exact A1
 ·have eq:q=d:=Z.trans ((if_neg (by rw[h];decide)).trans (by have G:=hm;simp only[mkC]at G;rw[G];rfl));have es:s1=faP x 3 [] (cS s):=J.trans ((if_neg (by rw[h];decide)).trans<|if_neg (by rw[eq];exact hn));rw[es,eq]at A1;rw[es,eq];exact⟨_,dX (x:=x) (s:=cS s) 3 [] (by simp;omega) (by simp[cS];omega),A1⟩
 ·have eq:q=d:=Z.trans ((if_neg (by rw[h];decide)).trans (by have G:=hm;simp only[mkC]at G;rw[G];rfl));have es:s1=cS s:=J.trans ((if_neg (by rw[h];decide)).trans<|if_pos (by rw[eq];exact hn));rw[es,eq]at A1;rw[es,eq];exact A1
 ·exact⟨hqr.mono (by omega),by simp only[];rw[A2,f1.1,List.drop_drop,hU],by simp only[];omega⟩
theorem LK(hE:wH E N):wH (bA E) (N+1):=λt hb hx x env s L hy=>by
 have p1:=hy.pa;have p2:=hy.fa;have p3:=hy.tg;have p4:=hy.lb;have hB:=bm t;have leaf:∀z:Int,uN t=uN t->Pst L (tbulk t) 0 s (⟨z,0⟩,s):=λz _=>⟨sN _,by simp,by simp only[];omega⟩;have hkl:=bw t;have run:∀(b:Bool) (k:Kn) (s':Sv),dH 1 (mkC x s) t env b k (mkC x s')->t.kind≠10->t.kind≠11->(b=true↔t.kind=13∨t.kind=14)->ckE x s t env k s':=λb k s' h n1 n2 hb=>by
  refine fW 1 _ _ _ _ _<|⟨λh=>absurd h n1,λ_=>⟨λh=>absurd h n2,λ_=>⟨λh13=>?_,λh13=>?_⟩⟩⟩
  ·have :b=true:=hb.2 (.inl h13);subst this;exact h
  ·have :b=(t.kind==14):=by
    by_cases h14:t.kind=14
    ·rw[hb.2 (.inr h14)];simp[h14]
    ·have :b≠true:=λe=>(hb.1 e).elim h13 h14;simp[this,h14]
   subst this;exact h
 have hk:=hx.2;have hk':10<=t.kind∧t.kind<=22∧t.kind≠17:=by simpa[fv]using hk
 have leafU:10<=t.kind->t.kind<=15->uN t=0:=λh1 h2=>by
  have hs:=hx.1;rw[aY]at hs;simp only[aaa,aaj]at hs;have hl:=hs.1.1;have h0:(t.kids.length:Int)<=0:=by
   have :t.kind=10∨t.kind=11∨t.kind=12∨t.kind=13∨t.kind=14∨t.kind=15:=by omega
   rcases this with e|e|e|e|e|e<;>(rw[e]at hl;exact(qm (show 0<=f0 t.kids.length 0 1 0 0 from hl)).2 (by omega))
  have h3:t.kids=[]:=List.length_eq_zero_iff.1 (by omega);rw[di,h3,if_neg<|by omega];simp[uNs]
 have drp:∀k,KOk (L+tbulk t) k->bA E x t env s=(k,s)->uN t=0->Pst L (tbulk t) (uN t) s (bA E x t env s):=λk h1 h2 h3=>by rw[h2,h3];exact⟨h1,by simp,by simp only[];omega⟩
 by_cases h:t.kind=10
 ·have e:bA E x t env s=(⟨5,0⟩,s):=by simp[bA,h]
  refine⟨?_,drp _ (sN _) e<|leafU (by omega)<|by omega⟩;rw[e];exact fW 0 _ _ _ _ _<|⟨λ_=>⟨I,I⟩,λh'=>absurd h h'⟩
 by_cases h:t.kind=11
 ·have e:bA E x t env s=(⟨6,0⟩,s):=by simp[bA,h]
  refine⟨?_,drp _ (sN _) e<|leafU (by omega)<|by omega⟩;rw[e];exact fW 0 _ _ _ _ _ (⟨λh'=>absurd h' (by omega),λ_=>⟨λ_=>⟨I,I⟩,λh'=>absurd h h'⟩⟩)
 by_cases h:t.kind=13∨t.kind=14
 ·have e:bA E x t env s=(⟨7,0⟩,s):=by rcases h with h|h<;>simp[bA,h]
  refine⟨?_,drp _ (sN _) e<|leafU (by omega)<|by omega⟩;rw[e];exact run true _ _ (bk 0 _ _ _ _ _ _<|⟨λ_=>⟨rfl,rfl⟩,λh'=>(by cases h')⟩) (by omega) (by omega) ⟨λ_=>h,λ_=>rfl⟩
 by_cases h:t.kind=12
 ·have e:bA E x t env s=vo x s (ji t.text env):=by simp[bA,h]
  have h0:=leafU (by omega) (by omega);have v:=Sn (x:=x) (s:=s) t env (by omega) (by omega);rw[e];refine⟨run false _ _ (bk 0 _ _ _ _ _ _<|⟨λh'=>(by cases h'),λ_=>⟨λ_=>⟨_,_,v,rfl,rfl⟩,λh'=>absurd h h'⟩⟩) (by omega) (by omega) (by constructor<;>intro h'<;>first|(cases h';done)|omega),?_⟩;cases hv:ji t.text env with
  |none=>exact⟨sN _,by rw[h0];simp[vo,faP],by show(faP x 1 [] s).fa.length+1<=_;rw[bL];omega⟩
  | some k=>
   have :∀l:Env,ji t.text l=some k->∃b∈l,b.typ=k:=λl=>by
    induction l with
    |nil=>intro h;cases h
    |cons b r ih=>
     intro hh;unfold ji at hh;split at hh
     ·injection hh with hh;exact⟨b,List.mem_cons_self,hh⟩
     ·obtain⟨c,c1,c2⟩:=ih hh;exact⟨c,List.mem_cons_of_mem _ c1,c2⟩
   obtain⟨b,hb1,hb2⟩:=this env hv;exact⟨by show KOk _ k;rw[<-hb2];exact(hy.env b hb1).mono (by omega),by rw[h0];simp[vo],by simp only[vo];omega⟩
 by_cases h:t.kind=16
 ·have e:bA E x t env s=se E x t env s:=by simp[bA,h]
  obtain⟨c1,c2⟩:=KL hE hb hx h hy;rw[e];exact⟨run false _ _ (bk 0 _ _ _ _ _ _<|⟨λh'=>(by cases h'),λ_=>⟨λh'=>absurd h' (by omega),λ_=>⟨λ_=>⟨_,_,c1,rfl,rfl⟩,λh'=>absurd h h'⟩⟩⟩) (by omega) (by omega) (by constructor<;>intro h'<;>first|(cases h';done)|omega),c2⟩
 by_cases h:t.kind=18
 ·have e:bA E x t env s=lI (fc E x t env t.kids.length 0 (⟨0,0⟩,s)):=by simp[bA,h]
  have hU:uN t=uNs t.kids:=by rw[di,h];simp
  obtain⟨c1,c2,c3,c4⟩:=Jk hE (x:=x) (env:=env) (L:=L) (M:=kbulk t.kids) (t:=t) (by omega) (λi u hu=>by have h1:=aF hu;exact⟨by omega,bR hu,(dj hx hu (by omega)).1⟩) t.kids.length 0 ⟨0,0⟩ s (by omega) (sN _) (hy.to (by simp;omega) (by simp;omega) (by simp;omega)) (by omega)
  simp only[List.drop_zero]at c3 c4;rw[e];refine⟨run false _ _ (bk 0 _ _ _ _ _ _<|⟨λh'=>(by cases h'),λ_=>⟨λh'=>absurd h' (by omega),λ_=>⟨λh'=>absurd h' (by omega),λ_=>⟨λ_=>⟨_,_,vd (t.kids.length+1) _ _ _ _ _<|c1,rfl,rfl⟩,λh'=>absurd h h'⟩⟩⟩⟩) (by omega) (by omega) (by constructor<;>intro h'<;>first|(cases h';done)|omega),c2.mono (by omega),by rw[c3,hU],by omega⟩
 by_cases h:t.kind=19
 ·have e:bA E x t env s=ifP E x t env s:=by simp[bA,h]
  obtain⟨c1,c2⟩:=Oo hE hb hx h hy;rw[e];exact⟨run false _ _ (bk 0 _ _ _ _ _ _<|⟨λh'=>(by cases h'),λ_=>⟨λh'=>absurd h' (by omega),λ_=>⟨λh'=>absurd h' (by omega),λ_=>⟨λh'=>absurd h' (by omega),λ_=>⟨λ_=>⟨_,_,c1,rfl,rfl⟩,λh'=>absurd h h'⟩⟩⟩⟩⟩) (by omega) (by omega) (by constructor<;>intro h'<;>first|(cases h';done)|omega),c2⟩
 by_cases h:t.kind=20
 ·have e:bA E x t env s=Jg E x t env (bh E x t 0 env s):=by simp[bA,h]
  obtain⟨a,b,ek⟩:=DK<|(pQ hx).2.1 h;have ha:t.kids[0]?=some a:=by rw[ek];rfl
  have hb':t.kids[1]?=some b:=by rw[ek];rfl
  rw[ek]at hB;simp only[kbulk]at hB;have hU:uN t=uN a+uN b:=by rw[di,ek,h];simp[uNs]
  rw[e];obtain⟨A1,A2⟩:=iG hE (s:=s) (env:=env) (x:=x) (L:=L) ha (by omega) (dj hx ha (by omega)).1 (hy.to (by omega) (by omega) (by omega));generalize bh E x t 0 env s=r at A1 A2⊢;obtain⟨k1,s1⟩:=r;have q1:=A2.fa;have q2:=A2.k;simp only at q1 q2;show ckE x s t env (bh E x t 1 (⟨t.text,k1⟩::env) s1).1 (bh E x t 1 (⟨t.text,k1⟩::env) s1).2∧Pst L (tbulk t) (uN t) s (bh E x t 1 (⟨t.text,k1⟩::env) s1);obtain⟨B1,B2⟩:=iG hE (s:=s1) (env:=⟨t.text,k1⟩::env) (x:=x) (L:=L+tbulk a) hb' (by omega) (dj hx hb' (by omega)).1 ⟨by omega,by omega,zB (v:=uN t) A2.tg (by omega) p3,by omega,λc hc=>by
   rcases List.mem_cons.1 hc with rfl|hc
   ·exact q2
   ·exact(hy.env c hc).mono (by omega),λk g hg=>(hy.sg k g hg).mono (by omega)⟩
  refine⟨run false _ _ (bk 0 _ _ _ _ _ _<|⟨λh'=>(by cases h'),λ_=>⟨λh'=>absurd h' (by omega),λ_=>⟨λh'=>absurd h' (by omega),λ_=>⟨λh'=>absurd h' (by omega),λ_=>⟨λh'=>absurd h' (by omega),λ_=>⟨λ_=>⟨_,_,A1,_,_,B1,rfl,rfl⟩,λh'=>absurd h h'⟩⟩⟩⟩⟩⟩) (by omega) (by omega) (by constructor<;>intro h'<;>first|(cases h';done)|omega),B2.k.mono (by omega),by rw[B2.tg,A2.tg,List.drop_drop,hU],by have :=B2.fa;omega⟩
 by_cases h:t.kind=21
 ·have e:bA E x t env s=yI E x t env (bh E x t 0 env s):=by simp[bA,h]
  obtain⟨c1,c2⟩:=Mt hE hb hx h hy;rw[e];exact⟨run false _ _ (bk 0 _ _ _ _ _ _<|⟨λh'=>(by cases h'),λ_=>⟨λh'=>absurd h' (by omega),λ_=>⟨λh'=>absurd h' (by omega),λ_=>⟨λh'=>absurd h' (by omega),λ_=>⟨λh'=>absurd h' (by omega),λ_=>⟨λh'=>absurd h' (by omega),λ_=>⟨λ_=>⟨_,_,c1,rfl,rfl⟩,λh'=>absurd h h'⟩⟩⟩⟩⟩⟩⟩) (by omega) (by omega) (by constructor<;>intro h'<;>first|(cases h';done)|omega),c2⟩
 by_cases h:t.kind=22
 ·have e:bA E x t env s=bh E x t 0 env s:=by simp[bA,h]
  obtain⟨a,ek⟩:=AP<|(pQ hx).1 h;have ha:t.kids[0]?=some a:=by rw[ek];rfl
  rw[ek]at hB;simp only[kbulk]at hB;have hU:uN t=uN a:=by rw[di,ek,h];simp[uNs]
  obtain⟨A1,A2⟩:=iG hE (s:=s) (env:=env) (x:=x) (L:=L) ha (by omega) (dj hx ha<|by omega).1 (hy.to (by omega) (by omega)<|by omega);rw[e];exact⟨run false _ _ (bk 0 _ _ _ _ _ _<|⟨λh'=>(by cases h'),λ_=>⟨λh'=>absurd h' (by omega),λ_=>⟨λh'=>absurd h' (by omega),λ_=>⟨λh'=>absurd h' (by omega),λ_=>⟨λh'=>absurd h' (by omega),λ_=>⟨λh'=>absurd h' (by omega),λ_=>⟨λh'=>absurd h' (by omega),λ_=>⟨λ_=>⟨_,_,A1,rfl,rfl⟩,λh'=>absurd h h'⟩⟩⟩⟩⟩⟩⟩⟩) (by omega) (by omega) (by constructor<;>intro h'<;>first|(cases h';done)|omega),A2.k.mono (by omega),by rw[A2.tg,hU],by have :=A2.fa;omega⟩
 ·have e:bA E x t env s=(⟨0,0⟩,s):=by
   have :t.kind=15:=by omega
   simp[bA,this]
  refine⟨?_,drp _ (sN _) e<|leafU (by omega)<|by omega⟩;rw[e];exact run false _ _ (bk 0 _ _ _ _ _ _<|⟨λh'=>(by cases h'),λ_=>⟨λh'=>absurd h' (by omega),λ_=>⟨λh'=>absurd h' (by omega),λ_=>⟨λh'=>absurd h' (by omega),λ_=>⟨λh'=>absurd h' (by omega),λ_=>⟨λh'=>absurd h' (by omega),λ_=>⟨λh'=>absurd h' (by omega),λ_=>⟨λh'=>absurd h' (by omega),λ_=>⟨rfl,rfl⟩⟩⟩⟩⟩⟩⟩⟩⟩) (by omega) (by omega) (by constructor<;>intro h'<;>first|(cases h';done)|omega)
theorem Fg:∀n,wH (ib n) n
 |0=>λt hb=>by have :=bw t;omega
 |n+1=>LK<|Fg n
def lE(G J:CKr):Prop:=bv [] prog 54 [.ptr 0 0] ⟨5,(CKr.y G 3)⟩<|CKr.v J
def dg(m:Nat)(p1:Tree)(p2:al)(b:Nat)(a:CKr)(d:Nat)(G:CKr):Prop:=z7 m [2,1,0] f83 (CKr.v G) (xI<|aj f83) [.blk 0,.seq<|xH<|aj f83] 72 [(0,.ptr 0 0),(4,.box (ao p1) 0),(5,.box (al.c p2) 0),(6,qi<|(p1.kids.length:Int)-2),(18,.row 4<|kidsV<|p1.kids.take b),(19,qi (((p1.kids.take b).length:Nat):Int)),(20,qi (d:Int))] ⟨5,(CKr.y a 3)⟩
def cC(m:Nat)(p1:Tree)(p2:al)(a:CKr)(b:List az)(d:Int)(G:CKr):Prop:=z7 m [2,1,0] f83 (CKr.v G) (xI<|xH<|aj f83) [.blk 2,.seq<|xJ<|xA<|aj f83] 72 [(0,.ptr 0 0),(4,.box (ao p1) 0),(5,.box (al.c p2) 0),(6,qi<|(p1.kids.length:Int)-2),(9,.lk<|List.map az.c b),(10,qi d)] ⟨5,(CKr.y a 3)⟩
theorem sS(m:Nat)(p0:CKr)(p1:Tree)(p2:al)(q0:CKr)(h:∃a,((p1.kids.length:Int)-2)=((a:Nat):Int)∧a<=p1.kids.length∧dg m p1 p2 a p0 0 q0):eW p0 p1 p2 q0:=by
 refine qA 72 [2,1,0] func83 λK hK=>?_;refine gR 3 I<|gFP 5 I I I I<|gR 1 I<|gFP 6 I I I I<|gR 7 I<|gV 13 (qi (p1.kids.length:Int)) I (aP<|aJ _) I<|gLB 12 I (aJ _) λc=>gR 1 I<|gV 14 (qi<|(p1.kids.length:Int)-2) I (am (by have :=c;omega) I) I<|gR 9 I ?_;obtain⟨a,b,h⟩:=h;refine gV 17 (qi ((a:Nat):Int)) I (bd b) I ?_;obtain⟨hb',h⟩:=h;exact gY (Kh (aJ p1.kids) ai I I BO (yr I) (aar _) hb'<|((Rq _ _ _).trans<|congrArg _<|An _ _)) I I<|gR 1 I<|gV 19 (qi (((p1.kids.take a).length:Nat):Int)) I (aP<|aJ _) I<|gLB 18 I (aJ _) λd=>gR 4 I<|go_loop m<|qW hK h [0,1,2,3,4]
theorem lj(m:Nat)(p1:Tree)(p2:al)(g:Nat)(i:CKr)(a:Nat)(q0:CKr)(h:y5 (a<((p1.kids.take g).length)) (∃f,(p1.kids.take g)[a]?=some f∧∃b,cN i (a:Int) b∧∃c,dc b f 0 c∧∃d,aZ c d∧a+1<=9223372036854775807∧dg m p1 p2 g d (a+1) q0)<|∃e,dc i p1 ((p1.kids.length:Int)-2) e∧InI (((p1.kids.length:Int)-2)-1)∧cC m p1 p2 e [] (((p1.kids.length:Int)-2)-1) q0):dg (m+1) p1 p2 g i a q0:=by
 refine qj λK j1 hK q=>?_;refine gR 6 rfl<|qXh 21 rfl rfl rfl h cg ch ?_ ?_<;>intro hd h;refine gR 8 I ?_;obtain⟨f,j,h⟩:=h;refine gY (aI (ay j) ai I I I I) I I<|gR 10 I ?_;obtain⟨b,k,h⟩:=h;refine qC k [0,1,2,3,4] ?_;refine qHX ⟨11,(CKr.z b [(5,.var 35<|ao f)] 9)⟩<|gR 6 I ?_;obtain⟨c,l,h⟩:=h;refine qC l [0,1,2,9,10] ?_;refine qHX ⟨16,(CKr.z c [(5,.var 35<|ao f)] 14)⟩<|gR 4 I ?_;obtain⟨d,n,h⟩:=h;refine qC n [0,1,2,14,15] ?_;refine qHX ⟨21,(CKr.z d [(5,.var 35<|ao f)] 19)⟩<|gR 4 I ?_;obtain⟨hb,h⟩:=h;exact gR 1 I<|gV 33 (qi ((a+1:Nat):Int)) I (am (by omega)<|by omega) I<|gR 2 I<|go_xloop<|qW hK h [0,1,2,19,20];refine gR 3 I<|go_xloopE<|gR 7 I ?_;obtain⟨e,p,h⟩:=h;refine qC p [0,1,2,3,4] ?_;refine qHX ⟨10,(CKr.y e 8)⟩<|gR 11 I ?_;obtain⟨hb,h⟩:=h;exact gR 1 I<|gV 39 (qi<|((p1.kids.length:Int)-2)-1) I (am hb I) I<|gR 4 I<|go_loop m<|qJ hK (h K _ hK<|by omega) [0,1,2,8,9] ⟨⟨_,I,.rfl⟩,⟨_,I,.rfl⟩,⟨_,I,.rfl⟩,⟨_,I,.rfl⟩,⟨_,I,lkN⟩,⟨_,I,.rfl⟩,trivial⟩
theorem lm(m:Nat)(p1:Tree)(p2:al)(i:CKr)(j:List az)(b:Int)(G:CKr)(h:y5 (0<=b) (∃d,b=((d:Nat):Int)∧∃k,p1.kids[d]?=some k∧∃e,b=((e:Nat):Int)∧∃l,p2.params[e]?=some l∧InI (b-1)∧cC m p1 p2 i (az.mk k.text l::j) (b-1) G) (InI (((p1.kids.length:Int)-2)+1)∧∃n a,bp i p1 (((p1.kids.length:Int)-2)+1) j n a∧∃g,ci n p2.result g∧y6 g (InI (((p1.kids.length:Int)-2)+1)∧∃c,aK a 4 [(((p1.kids.length:Int)-2)+1)] c∧c=G) (a=G))):cC (m+1) p1 p2 i j b G:=by
 refine qj λK Z J y=>?_;refine gR 7 rfl<|qXd 41 rfl rfl rfl h ?_ ?_<;>intro O h;refine gR 5 I<|qDs [] 15 15<|qDr (qR 0 3 2 []) I I ?_;obtain⟨d,r,h⟩:=h;refine gV 46 (qi ((d:Nat):Int)) I (bd r) I ?_;obtain⟨k,p,h⟩:=h;refine gYd 3 I (by kernel_rfl) (aI (ay p) ai I I I I) I I<|qDr (qR 4 5 2 []) I I ?_;obtain⟨e,s,h⟩:=h;refine gV 52 (qi ((e:Nat):Int)) I (bd s) I ?_;obtain⟨l,q,h⟩:=h;refine gYd 9 I (by kernel_rfl) (aI (aB (f:=ah.w) q) ai I I I I) I I<|qDr ((10,2)::(qR 11 4 0 [])) I I<|qDe<|gR 4 I ?_;obtain⟨hb,h⟩:=h;exact gR 1 I<|gV 43 (qi<|b-1) I (am hb I) I<|gR 2 I<|go_xloop<|gFP 5 I I I I<|qJ J (h K _ J<|by omega) [0,1,2,3,4] ⟨⟨_,I,.rfl⟩,⟨_,I,.rfl⟩,⟨_,I,.rfl⟩,⟨_,I,.rfl⟩,⟨_,I,(lkC I)⟩,⟨_,I,.rfl⟩,trivial⟩;refine gR 3 I<|go_xloopE<|gR 3 I<|qDs [] 9 9<|qDr (qR 0 3 2 []) I I ?_;obtain⟨hb,h⟩:=h;refine qDr [(3,2)] I I<|gV 61 (qi<|((p1.kids.length:Int)-2)+1) I (am hb I) I<|qDr [(4,2),(6,2),(7,2)] I I ?_;obtain⟨n,a,t,h⟩:=h;refine qDC 5 t [0,1,2,3,4] I ?_;refine qHX ⟨11,(CKr.y a 8)⟩ ?_;obtain⟨g,v,h⟩:=h;refine bg 8 v (by kernel_rfl) I (by kernel_rfl) I I .rfl I I ?_;refine qDe<|gR 1 rfl<|qXi 66 rfl rfl rfl h ?_ ?_<;>intro O h;refine gR 4 I ?_;obtain⟨hb,h⟩:=h;refine gR 1 I<|gV 69 (qi<|((p1.kids.length:Int)-2)+1) I (am hb I) I<|gR 1 I<|gFR 11 I I I I ?_;obtain⟨c,x,h⟩:=h;refine qC x [0,1,2,8,9] ?_;refine qHX ⟨17,(CKr.y c 15)⟩<|gR 1 I ?_;subst h;exact gE J [] [] [0,1,2,15,16] [];refine gR 2 I ?_;subst h;exact gE J [] [] [0,1,2,8,9] []
def eL(m:Nat)(G a:CKr)(b:Nat)(J:CKr):Prop:=z7 m [2,1,0] f54 (CKr.v J) (cL<|xD<|aj f54) [.blk 0] 61 [(0,.ptr 0 0),(9,.row 4<|kidsV G.p),(10,qi (G.p.length:Int)),(11,qi (b:Int))] ⟨5,(CKr.y a 3)⟩
def cp(m:Nat)(G:CKr)(b:Tree)(a:CKr)(c d e:Nat)(Z:CKr):Prop:=∀(K:Ctx) (J O:Nat),aw K [2,1,0]->m<=J->m<=O->qLG K f54 (CKr.v Z) (cL<|cK<|xH<|xL<|xA<|cL<|xD<|aj f54) [.loop (cL<|cK<|xH<|xL<|xA<|cL<|xD<|aj f54) J,.blk 2,.blk 1,.seq<|xH<|cL<|xD<|aj f54,.loop (cL<|xD<|aj f54) O,.blk 0] 61 (mkF 61 0 [(0,.ptr 0 0),(2,qi (d:Int)),(9,.row 4<|kidsV G.p),(10,qi (G.p.length:Int)),(11,qi (e:Int)),(21,.row 4<|kidsV b.kids),(22,qi (b.kids.length:Int)),(23,qi (c:Int))]) ⟨5,(CKr.y a 3)⟩
def kM(m:Nat)(G:CKr)(b:Tree)(a:CKr)(c d e:Nat)(Z:CKr):Prop:=∀(K:Ctx) (J O:Nat),aw K [2,1,0]->m<=J->m<=O->Go prog K (bodyPost prog f54<|SP K<|CKr.v Z) (.ex .normal) [.seq<|xH<|xL<|xA<|cL<|cK<|xH<|xL<|xA<|cL<|xD<|aj f54,.blk 3,.seq<|xH<|cL<|cK<|xH<|xL<|xA<|cL<|xD<|aj f54,.loop (cL<|cK<|xH<|xL<|xA<|cL<|xD<|aj f54) J,.blk 2,.blk 1,.seq<|xH<|cL<|xD<|aj f54,.loop (cL<|xD<|aj f54) O,.blk 0] 61 (mkF 61 0 [(0,.ptr 0 0),(2,qi (c:Int)),(9,.row 4<|kidsV G.p),(10,qi (G.p.length:Int)),(11,qi (d:Int)),(21,.row 4<|kidsV b.kids),(22,qi (b.kids.length:Int)),(23,qi (e:Int))]) ⟨5,(CKr.y a 3)⟩
theorem ww(m:Nat)(p0 q0:CKr)(h:eL m p0 p0 0 q0):lE p0 q0:=by
 refine qA 61 [2,1,0] func54 λK hK=>?_;exact gR 7 I<|gV 10 (qi (p0.p.length:Int)) I (aP<|aJ _) I<|gLB 9 I (aJ _) λa=>gR 4 I<|go_loop m<|qW hK h [0,1,2,3,4]
theorem oy(m:Nat)(p0 c:CKr)(a:Nat)(q0:CKr)(h:y5 (a<p0.p.length) (∃b,p0.p[a]?=some b∧cp m p0 b ({c with module:=(a:Int)}) 0 a a q0)<|c=q0):eL (m+1) p0 c a q0:=by
 refine qj λK j1 hK f=>?_;refine gR 6 rfl<|qXh 12 rfl rfl rfl h cg ch ?_ ?_<;>intro hd h;refine gR 8 I ?_;obtain⟨b,d,h⟩:=h;exact gY (aI (ay d) ai I I I I) I I<|gR 20 I<|gV 22 (qi (b.kids.length:Int)) I (aP<|aJ _) I<|gLB 21 I (aJ _) λe=>gR 4 I<|go_loop m<|qJ hK (h K _ _ hK (by omega)<|by omega) [0,1,2,3,4];refine gR 3 I<|go_xloopE<|gR 1 I ?_;subst h;exact gE hK [] [] [0,1,2,3,4] []
theorem jV(m:Nat)(J:CKr)(r:Tree)(δ:CKr)(a g s:Nat)(O:CKr)(h:y5 (a<r.kids.length) (∃d,r.kids[a]?=some d∧∃b,cN δ (a:Int) b∧y8 d.kind 2 (((aL ((g:Int),(a:Int)) b.signatures=none)->∃e,eW b d (al.mk []<|ah.mk 0 0) e∧kM m J r e g s a O)∧(∀(z:al),aL ((g:Int),(a:Int)) b.signatures=some z->∃f,eW b d z f∧kM m J r f g s a O)) (∃β,lz b.p (g:Int) (a:Int) β∧y6 β (∃t,aK b 5 [] t∧∃x,dc t d 0 x∧∃y,aZ x y∧a+1<=9223372036854775807∧cp m J r y (a+1) g s O) (∃n,dc b d 0 n∧∃q,aZ n q∧a+1<=9223372036854775807∧cp m J r q (a+1) g s O)))<|s+1<=9223372036854775807∧eL m J δ (s+1) O):cp (m+1) J r δ a g s O:=by
 intro K Z j2 G χ ψ;obtain⟨Z,rfl⟩:∃j,Z=j+1:=⟨Z-1,by omega⟩;obtain⟨j2,rfl⟩:∃j,j2=j+1:=⟨j2-1,by omega⟩;refine gR 6 rfl<|qXh 24 rfl rfl rfl h cg ch ?_ ?_<;>intro hd h;refine gR 8 I ?_;obtain⟨d,ε,h⟩:=h;refine gY (aI (ay ε) ai I I I I) I I<|gR 10 I ?_;obtain⟨b,ζ,h⟩:=h;refine qC ζ [0,1,2,3,4] ?_;refine qHX ⟨11,(CKr.z b [(5,.var 35 (ao d))] 9)⟩<|gR 10 rfl<|qXe 33 rfl rfl rfl h ?_ ?_<;>intro hd h;refine gR 1 I<|qDs [] 11 11<|qDr ((0,2)::(qR 2 3 2 (qR 6 3 2 []))) I I ?_;apply bf (i:=1) (j:=5) (by kernel_rfl) rfl rfl rfl rfl;exact(aG ai I I);exact(aG ai I I);refine qDr [(5,0)] I I ?_;rcases γ:aL ((g:Int),(a:Int)) b.signatures with _|z
 replace h:=h.1 γ;refine bo (v:=some<|.agg [.nils,qi 0,qi 0]) 9 (.nop) I (by kernel_rfl) (tN dh (encV:=al.w) (k:=((g:Int),(a:Int))) (l:=b.signatures) (zv:=.agg [.nils,qi 0,qi 0]) γ underlying100 zeroValue136 (by kernel_rfl) I I I I) trivial I (by kernel_rfl) I I ?_;obtain⟨e,η,h⟩:=h;refine qDC 10 η [0,1,2,9,10] I (hs:=(.cons .rfl<|.cons .rfl<|.cons (.agg<|.cons (.nil 2)<|.cons .rfl<|.cons .rfl .nil) .nil)) ?_;exact qHX ⟨16,(CKr.z e [(5,.var 35<|ao d)] 14)⟩<|qDe<|qJ G (h K _ _ G (by omega)<|by omega) [0,1,2,14,15];replace h:=h.2 z γ;refine bo (v:=some<|.agg<|al.c z) 9 (.nop) I (by kernel_rfl) (tV dh (encV:=al.w) (k:=((g:Int),(a:Int))) (l:=b.signatures) (zv:=.agg [.nils,qi 0,qi 0]) γ underlying100 zeroValue136 (by kernel_rfl) I I I I) trivial I (by kernel_rfl) I I ?_;obtain⟨f,θ,h⟩:=h;refine qDC 10 θ [0,1,2,9,10] I ?_;exact qHX ⟨16,(CKr.z f [(5,.var 35<|ao d)] 14)⟩<|qDe<|qJ G (h K _ _ G (by omega)<|by omega) [0,1,2,14,15];rcases α:aL ((g:Int),(a:Int)) b.signatures with _|z
 replace h:=h.1 α;apply bf (i:=1) (j:=9) (by kernel_rfl) rfl rfl rfl rfl;exact(aG ai I I);exact(pD (.nop) (tN dh (encV:=al.w) (k:=((g:Int),(a:Int))) (l:=b.signatures) (zv:=.agg [.nils,qi 0,qi 0]) α underlying100 zeroValue136 (by kernel_rfl) I I I I) trivial<|by kernel_rfl);refine bo 9 (.nop) I (by kernel_rfl) (tN dh (encV:=al.w) (k:=((g:Int),(a:Int))) (l:=b.signatures) (zv:=.agg [.nils,qi 0,qi 0]) α underlying100 zeroValue136 (by kernel_rfl) I I I I) trivial I (by kernel_rfl) I I ?_;obtain⟨e,ι,h⟩:=h;refine qDC 10 ι [0,1,2,9,10] I (hs:=(.cons .rfl<|.cons .rfl<|.cons (.agg<|.cons (.nil 2)<|.cons .rfl<|.cons .rfl .nil) .nil)) ?_;exact qHX ⟨16,(CKr.z e [(5,.var 35<|ao d)] 14)⟩<|qDe<|qJ G (h K _ _ G (by omega)<|by omega) [0,1,2,14,15];refine qDr [(1,0)] I I ?_;obtain⟨e,κ,h⟩:=h;refine qDC 10 κ [0,1,2,9,10] I (hs:=(.cons .rfl<|.cons .rfl<|.cons (.agg<|.cons (.nil 2)<|.cons .rfl<|.cons .rfl .nil) .nil)) ?_;exact qHX ⟨16,(CKr.z e [(5,.var 35<|ao d)] 14)⟩<|qDe<|qJ G (h K _ _ G (by omega)<|by omega) [0,1,2,14,15];replace h:=h.2 z α;apply bf (i:=1) (j:=9) (by kernel_rfl) rfl rfl rfl rfl;exact(aG ai I I);exact(pD (.nop) (tV dh (encV:=al.w) (k:=((g:Int),(a:Int))) (l:=b.signatures) (zv:=.agg [.nils,qi 0,qi 0]) α underlying100 zeroValue136 (by kernel_rfl) I I I I) trivial<|by kernel_rfl);refine bo 9 (.nop) I (by kernel_rfl) (tV dh (encV:=al.w) (k:=((g:Int),(a:Int))) (l:=b.signatures) (zv:=.agg [.nils,qi 0,qi 0]) α underlying100 zeroValue136 (by kernel_rfl) I I I I) trivial I (by kernel_rfl) I I ?_;obtain⟨f,μ,h⟩:=h;refine qDC 10 μ [0,1,2,9,10] I ?_;exact qHX ⟨16,(CKr.z f [(5,.var 35<|ao d)] 14)⟩<|qDe<|qJ G (h K _ _ G (by omega)<|by omega) [0,1,2,14,15];refine qDr [(1,0)] I I ?_;obtain⟨f,ν,h⟩:=h;refine qDC 10 ν [0,1,2,9,10] I ?_;exact qHX ⟨16,(CKr.z f [(5,.var 35<|ao d)] 14)⟩<|qDe<|qJ G (h K _ _ G (by omega)<|by omega) [0,1,2,14,15];refine gR 10 I ?_;obtain⟨β,ξ,h⟩:=h;refine qC0 ξ rfl<|gR 2 rfl<|qXi 51 rfl rfl rfl h ?_ ?_<;>intro hd h;refine gR 3 I ?_;obtain⟨t,ο,h⟩:=h;refine qC ο [0,1,2,9,10] (hs:=(.cons .rfl<|.cons .rfl<|.cons (.nil 1) .nil)) ?_;refine qHX ⟨16,(CKr.z t [(5,.var 35<|ao d)] 14)⟩<|gR 5 I ?_;obtain⟨x,π,h⟩:=h;refine qC π [0,1,2,14,15] ?_;refine qHX ⟨21,(CKr.z x [(5,.var 35<|ao d)] 19)⟩<|gR 4 I ?_;obtain⟨y,τ,h⟩:=h;refine qC τ [0,1,2,19,20] ?_;refine qHX ⟨26,(CKr.z y [(5,.var 35<|ao d)] 24)⟩<|gR 4 I ?_;obtain⟨hb,h⟩:=h;exact gR 1 I<|gV 59 (qi ((a+1:Nat):Int)) I (am (by omega)<|by omega) I<|gR 2 I<|go_xloop<|qJ G (h K _ _ G (by omega)<|by omega) [0,1,2,24,25];refine gR 6 I ?_;obtain⟨n,υ,h⟩:=h;refine qC υ [0,1,2,9,10] ?_;refine qHX ⟨16,(CKr.z n [(5,.var 35<|ao d)] 14)⟩<|gR 4 I ?_;obtain⟨q,φ,h⟩:=h;refine qC φ [0,1,2,14,15] ?_;refine qHX ⟨21,(CKr.z q [(5,.var 35<|ao d)] 19)⟩<|gR 4 I ?_;obtain⟨hb,h⟩:=h;exact gR 1 I<|gV 59 (qi ((a+1:Nat):Int)) I (am (by omega)<|by omega) I<|gR 2 I<|go_xloop<|qJ G (h K _ _ G (by omega)<|by omega) [0,1,2,19,20];refine gR 3 I<|go_xloopE<|gR 4 I ?_;obtain⟨hb,h⟩:=h;exact gR 1 I<|gV 60 (qi ((s+1:Nat):Int)) I (am (by omega)<|by omega) I<|gR 2 I<|go_xloop<|qW G h [0,1,2,3,4]
theorem vk(m:Nat)(O:CKr)(c:Tree)(d:CKr)(e f b:Nat)(Z:CKr)(h:∃a,aZ d a∧b+1<=9223372036854775807∧cp m O c a (b+1) e f Z):kM (m+1) O c d e f b Z:=by
 intro K G J hK i k;obtain⟨G,rfl⟩:∃j,G=j+1:=⟨G-1,by omega⟩;obtain⟨J,rfl⟩:∃j,J=j+1:=⟨J-1,by omega⟩;refine gR 3 I ?_;obtain⟨a,g,h⟩:=h;refine qC g [0,1,2,3,4] ?_;refine qHX ⟨10,(CKr.y a 8)⟩<|gR 4 I ?_;obtain⟨hb,h⟩:=h;exact gR 1 I<|gV 59 (qi ((b+1:Nat):Int)) I (am (by omega) (by omega)) I<|gR 2 I<|go_xloop<|qJ hK (h K _ _ hK (by omega) (by omega)) [0,1,2,8,9]
mutual
def leafK:Tree->Tree
 |.node k s ls ks=>if k=8 then leafH (.node k s ls ks) ks else .node k s ls ks
def leafH(d:Tree):YT->Tree
 |[]=>d
 |t::_=>leafK t
end
mutual
def lisK:Tree->Nat
 |.node k s ls ks=>if k=8 then lisH ks+1 else 0
def lisH:YT->Nat
 |[]=>0
 |t::_=>lisK t
end
def en:Nat->Tree->Tree
 |0,t=>t
 |n+1,t=>.node 8 [] [] [en n t]
mutual
def bareK:Tree->Tree
 |.node k s _ ks=>.node k s []<|baresK ks
def baresK:YT->YT
 |[]=>[]
 |t::r=>bareK t::baresK r
end
theorem jo{r:YT}(G:t.kind=8)(J:t.kids=u::r):leafK t=leafK u∧lisK t=lisK u+1:=by
 cases t;simp only[Tree.kind,Tree.kids]at G J;subst G J;constructor
 ·rw[leafK,if_pos rfl,leafH]
 ·rw[lisK,if_pos rfl,lisH]
theorem ky(h:t.kind≠8):leafK t=t∧lisK t=0:=by
 cases t;simp only[Tree.kind]at h;constructor
 ·rw[leafK,if_neg h]
 ·rw[lisK,if_neg h]
theorem Aa(t:Tree):bareK t=.node t.kind t.text [] (baresK t.kids):=by cases t;simp only[bareK];rfl
def tyK(t:Tree):Prop:=shapeK t=true∧gN t.kind=true
theorem jk(h:tyK t):(t.kind=8∧t.text=[]∧∃u,t.kids=[u]∧tyK u)∨(t.kind≠8∧t.kids=[]∧(t.kind≠9->t.text=[])):=by
 obtain⟨hs,hk⟩:=h;rw[aY]at hs;simp only[aaa,aaj]at hs;have hk':5<=t.kind∧t.kind<=9:=by simpa[gN]using hk
 by_cases O:t.kind=8
 ·refine .inl ⟨O,?_,?_⟩
  ·have :=hs.1.2;rw[O]at this;simpa[iQ]using this
  ·have J:=hs.1.1;have e:dJ t.kind t.kids.length=f0 t.kids.length 1 2 0 1:=by rw[O];rfl
   rw[e]at J;have hn:t.kids.length=1:=by
    unfold f0 at J;split at J
    ·omega
    ·split at J
     ·omega
     ·omega
   obtain⟨u,Z⟩:∃u,t.kids=[u]:=by
    match hkk:t.kids,hn with
    |[u],_=>exact⟨u,rfl⟩
   refine⟨u,Z,?_⟩;have G:=hs.2;rw[Z]at G;simp only[shapeKs,aaa]at G;refine⟨G.1.2,?_⟩;have :=G.1.1;rw[O]at this;simpa[fi]using this
 ·refine .inr ⟨O,?_,λh9=>?_⟩
  ·have J:=hs.1.1;have e:dJ t.kind t.kids.length=f0 t.kids.length 0 1 0 0:=by
    have :t.kind=5∨t.kind=6∨t.kind=7∨t.kind=9:=by omega
    rcases this with e|e|e|e<;>rw[e]<;>rfl
   rw[e]at J;have :t.kids.length=0:=by
    unfold f0 at J;split at J
    ·omega
    ·omega
   exact List.length_eq_zero_iff.1 this
  ·have :t.kind=5∨t.kind=6∨t.kind=7:=by omega
   have hw:=hs.1.2;rcases this with e|e|e<;>(rw[e]at hw;simpa[iQ]using hw)
theorem py:∀t,tyK t->tyK (leafK t)∧(leafK t).kind≠8∧bareK t=en (lisK t) (.node (leafK t).kind (leafK t).text [] []):=da λt ih h=>by
 rcases jk h with⟨G,hx,u,J,O⟩|⟨G,hk,_⟩
 ·obtain⟨Z,e2⟩:=jo G J;obtain⟨g1,g2,g3⟩:=ih 0 u (by rw[J];rfl) O;rw[Z,e2];refine⟨g1,g2,?_⟩;rw[Aa,G,hx,J,en];simp only[baresK,g3]
 ·obtain⟨Z,e2⟩:=ky G;rw[Z,e2];refine⟨h,G,?_⟩;rw[Aa,hk,en,baresK]
theorem qd:∀t,tbulk (leafK t)<=tbulk t∧lisK t<=tbulk t:=da λt ih=>by
 by_cases G:t.kind=8
 ·cases J:t.kids with
  |nil=>
   have hp:=bU t;cases t;simp only[Tree.kind,Tree.kids]at G J;subst G J;rw[leafK,if_pos rfl,leafH,lisK,if_pos rfl,lisH];exact⟨aaf _,hp⟩
  |cons u r=>
   obtain⟨O,Z⟩:=jo G J;have h0:t.kids[0]?=some u:=by rw[J];rfl
   obtain⟨g1,g2⟩:=ih 0 u h0;have :=aF h0;rw[O,Z];omega
 ·obtain⟨O,Z⟩:=ky G;rw[O,Z];exact⟨aaf _,aar _⟩
variable{d:Nat}
theorem mz(ht:t.kind=1)(hs:shapeK t=true)(J:t.kids[d]?=some u):(u.kind=2∧bi u.text=1)∨(u.kind=3∧bi u.text=2):=by
 rw[aY]at hs;simp only[aaa]at hs;obtain⟨h1,h2⟩:=cf hs.2 J;rw[ht]at h1;simp[fi]at h1;rw[aY]at h2;simp only[aaa]at h2;have G:=h2.1.2;rcases h1 with e|e
 ·rw[e]at G;simp[iQ]at G;exact .inl ⟨e,by omega⟩
 ·rw[e]at G;simp[iQ]at G;exact .inr ⟨e,by omega⟩
theorem Hc{w:YB}(h:bi w=k)(G:k=3∨k=4):fo w 0=((spanN bc w:Nat):Int):=by obtain⟨h1,h2,_⟩:=IY h G;have :=Le w 0 h1 h2;simpa using this
theorem xT{m:Int}(hp:bn p=true)(h9:u.kind=9)(hu:shapeK u=true)(h:(aC p m u.text).2.2=true):∃(i d:Nat) (t a b:Tree),(aC p m u.text).1=(i:Int)∧(aC p m u.text).2.1=(d:Int)∧p[i]?=some t∧t.kids[d]?=some a∧a.kind=3∧a.kids=[b]∧tyK b:=by
 have O:bi u.text=2∨bi u.text=4:=by rw[aY,h9]at hu;simp only[aaa]at hu;have :=hu.1.2;simp only[iQ]at this;simp at this;omega
 have fin:∀(i d:Nat) (t a:Tree),p[i]?=some t->t.kids[d]?=some a->¬a.kind=2->a.kind=3∧∃b,a.kids=[b]∧tyK b:=λi d t a ht ha hn=>by
  obtain⟨t1,J⟩:=dk hp ht;rcases mz t1 J ha with⟨k2,_⟩|⟨k3,_⟩
  ·exact absurd k2 hn
  ·refine⟨k3,?_⟩;rw[aY]at J;simp only[aaa]at J;obtain⟨_,g2⟩:=cf J.2 ha;rw[aY,k3]at g2;simp only[aaa,aaj]at g2;have hl:=g2.1.1;have e:dJ 3 a.kids.length=f0 a.kids.length 1 3 0 1:=rfl;rw[e]at hl;have hn:a.kids.length=1:=by
    unfold f0 at hl;split at hl
    ·omega
    ·split at hl
     ·omega
     ·omega
   match hkk:a.kids,hn with
   |[b],_=>
    have G:=g2.2;rw[hkk]at G;simp only[shapeKs,aaa]at G;exact⟨b,I,G.1.2,by have :=G.1.1;simpa[fi]using this⟩
 unfold aC at h⊢;rcases O with O|O
 ·have hd:fo u.text 0=-1:=Av _ _ (DL O<|.inr rfl).1;rw[if_neg<|by omega]at h⊢;obtain⟨i,d,t,a,_,a1,a2,Z,a4,a5,_⟩:=sn h;obtain⟨t1,J⟩:=dk hp Z;obtain⟨f1,b,f2,f3⟩:=fin i d t a Z a4 λk2=>by
   rcases mz t1 J a4 with⟨_,k⟩|⟨k,_⟩
   ·rw[a5,O]at k;cases k
   ·omega
  exact⟨i,d,t,a,b,a1,a2,Z,a4,f1,f2,f3⟩
 ·have hd:=Hc O<|.inr rfl;rw[if_pos<|by omega]at h⊢;obtain⟨i,d,t,a,_,a1,a2,Z,a4,a5,_⟩:=sn h;obtain⟨t1,J⟩:=dk hp Z;obtain⟨f1,b,f2,f3⟩:=fin i d t a Z a4 λk2=>by
   rcases mz t1 J a4 with⟨_,k⟩|⟨k,_⟩
   ·have g:=(DL k<|.inl rfl).2.1 rfl;have g3:=(IY O<|.inr rfl).2.2;rw[a5,hd,Int.toNat_natCast]at g;have e:(u.text.drop<|spanN bc u.text+1).getD 0 0=u.text.getD (spanN bc u.text+1) 0:=by
     simp[List.getD_eq_getElem?_getD,List.getElem?_drop]
    rw[e]at g;have :=g3.2 g;cases this
   ·omega
  exact⟨i,d,t,a,b,a1,a2,Z,a4,f1,f2,f3⟩
def eC:Nat->Cx->Tree->Sv->Sv
 |0,_,_,s=>s
 |n+1,x,u,s=>if u.kind=9 then(if(s.tg.headD noT).Free then faP x 1 [] (cS s)else cS s)else if u.kind=8 then eC n (x.go ((0:Nat):Int)) (aM u 0) s else s
abbrev ckT(x:Cx)(s:Sv)(t:Tree)(i:Int)(s':Sv):Prop:=dc (mkC x s) t i (mkC x s')
structure Sst (B u:Nat) (s s':Sv):Prop where
 tg:s'.tg=s.tg.drop u
 fa:s'.fa.length<=s.fa.length+4*B
theorem Bw:∀(n:Nat) (u:Tree),tbulk u<=n->tyK u->∀(t:Tree) (i:Nat) (x:Cx) (s:Sv),t.kids[i]?=some u->x.pa.length+tbulk u+1<=100000000->s.fa.length+1<=900000000->uN u<=s.tg.length->ckT x s t i (eC n (x.go i) u s)∧Sst (tbulk u) (uN u) s (eC n (x.go i) u s)
 |0,u,hb,_,_,_,_,_,_,_,_,_=>by have :=bw u;omega
 | n +1,u,hb,hu,t,i,x,s,ht,h1,h2,h3=>by
  have hbu:=bm u;have hlen:x.pa.length+1<=1000000000:=by omega
  rcases jk hu with⟨h8,_,v,hv,hvt⟩|⟨h8,hk,_⟩
  ·rw[hv]at hbu;simp only[kbulk]at hbu;have hU:uN u=uN v:=by rw[di,hv,h8];simp[uNs]
   have hv0:u.kids[0]?=some v:=by rw[hv];rfl
   have e:eC (n+1) (x.go i) u s=eC n ((x.go i).go ((0:Nat):Int)) v s:=by simp[eC,h8,ce hv0]
   obtain⟨a1,a2⟩:=Bw n v (by omega) hvt u 0 (x.go i) s hv0 (by simp[Cx.go];omega) h2 (by omega);rw[e];refine⟨gM 0 _ _ _ _ (⟨_,kP (x:=x) (s:=s) (i:Int) hlen,i,I,u,ht,λh=>absurd h (by omega),λ_=>⟨λ_=>⟨_,a1,_,jn (x:=x) (i:Int),I⟩,λh=>absurd h8 h⟩⟩),?_⟩;exact⟨by rw[a2.tg,hU],by have :=a2.fa;omega⟩
  ·by_cases h9:u.kind=9
   ·have hU:uN u=1:=by rw[di,hk,h9];simp[uNs]
    have huse:=NY (x:=x.go i) (s:=s) (by omega);have e:eC (n+1) (x.go i) u s=if(s.tg.headD noT).Free then faP (x.go i) 1 [] (cS s)else cS s:=by simp[eC,h9]
    rw[e];by_cases hf:(s.tg.headD noT).Free=true
    ·rw[if_pos hf];refine⟨gM 0 _ _ _ _ (⟨_,kP (x:=x) (s:=s) (i:Int) hlen,i,rfl,u,ht,λ_=>⟨_,_,huse,λ_=>⟨_,dX (x:=x.go i) (s:=cS s) 1 [] (by simp[Cx.go];omega) (by simp[cS];omega),_,jn (x:=x) (s:=faP (x.go i) 1 []<|cS s) (i:Int),rfl⟩,λh=>absurd hf (by rw[h];decide)⟩,λh=>absurd h9 h⟩),?_⟩;exact⟨by rw[hU];rfl,by rw[bL];simp[cS];omega⟩
    ·rw[if_neg hf];refine⟨gM 0 _ _ _ _<|⟨_,kP (x:=x) (s:=s) (i:Int) hlen,i,I,u,ht,λ_=>⟨_,_,huse,λh=>absurd h hf,λ_=>⟨_,jn (x:=x) (s:=cS s) (i:Int),I⟩⟩,λh=>absurd h9 h⟩,?_⟩;exact⟨by rw[hU];rfl,by simp[cS]⟩
   ·have hU:uN u=0:=by rw[di,hk,if_neg];simp[uNs];have :=hu.2;simp[gN]at this;omega
    have e:eC (n+1) (x.go i) u s=s:=by simp[eC,h9,h8]
    rw[e];exact⟨gM 0 _ _ _ _<|⟨_,kP (x:=x) (s:=s) (i:Int) hlen,i,I,u,ht,λh=>absurd h h9,λ_=>⟨λh=>absurd h h8,λ_=>⟨_,jn (x:=x) (s:=s) (i:Int),I⟩⟩⟩,by rw[hU];rfl,by omega⟩
def mf(x:Cx):YT->Nat->Sv->Sv
 |[],_,s=>s
 |k::r,i,s=>mf x r (i+1)<|eC (tbulk<|aM k 0) ((x.go i).go ((0:Nat):Int)) (aM k 0) s
def fY:YT->List Kn->Env
 |k::r,q::l=>⟨k.text,q⟩::fY r l
 |_,_=>[]
def funQ(x:Cx)(i:Nat)(r:Kn):Kn×Sv->Sv
 |(k,s)=>if bZ k r then faP x 4 [(i:Int)] s else s
def vj(x:Cx)(f:Tree)(g:al)(s:Sv):Sv:=
 funQ x (f.kids.length-1) g.result (bh (ib<|tbulk f) x f (f.kids.length-1) (fY (f.kids.take<|f.kids.length-2) g.params)<|eC (tbulk f) (x.go ((f.kids.length-2:Nat):Int)) (aM f<|f.kids.length-2)<|mf x (f.kids.take<|f.kids.length-2) 0 s)
abbrev ckU(x:Cx)(s:Sv)(f:Tree)(g:al)(s':Sv):Prop:=eW (mkC x s) f g (mkC x s')
theorem mE{f:Tree}(hs:shapeK f=true)(h2:f.kind=2):2<=f.kids.length∧(∀(i:Nat) (u:Tree),f.kids[i]?=some u->i+2<f.kids.length->∃v,u.kind=4∧u.kids=[v]∧tyK v)∧(∀u,f.kids[f.kids.length-2]?=some u->tyK u)∧(∀u,f.kids[f.kids.length-1]?=some u->exT u):=by
 rw[aY]at hs;simp only[aaa,aaj]at hs;have hl:=hs.1.1;rw[h2]at hl;have h1:=(qm<|show 0<=f0 f.kids.length 2 6 2 (-1)from hl).1;refine⟨by omega,λi u O hi=>?_,λu O=>?_,λu O=>?_⟩
 ·obtain⟨G,J⟩:=cf hs.2 O;rw[h2]at G;simp only[fi]at G;rw[if_neg (by omega),if_pos trivial,if_neg (by omega),if_neg<|by omega]at G;have h4:u.kind=4:=by simpa using G
  rw[aY]at J;simp only[aaa,aaj]at J;have Z:=J.1.1;rw[h4]at Z;have :=qm<|show 0<=f0 u.kids.length 1 2 0 1 from Z;obtain⟨v,ev⟩:=AP (t:=u) (by omega);have hv:u.kids[0]?=some v:=by rw[ev];rfl
  obtain⟨g3,g4⟩:=cf J.2 hv;rw[h4]at g3;exact⟨v,h4,ev,g4,by simpa[fi]using g3⟩
 ·obtain⟨G,J⟩:=cf hs.2 O;rw[h2]at G;simp only[fi]at G;rw[if_neg (by omega),if_pos trivial,if_neg (by omega),if_pos<|by omega]at G;exact⟨J,G⟩
 ·obtain⟨G,J⟩:=cf hs.2 O;rw[h2]at G;simp only[fi]at G;rw[if_neg (by omega),if_pos trivial,if_pos<|by omega]at G;exact⟨J,G⟩
theorem LH{f:Tree}{g:al}{x:Cx}{n:Nat}(hn:n<=f.kids.length)(hf:∀(i:Nat) (u:Tree),(f.kids.take n)[i]?=some u->∃v,u.kind=4∧u.kids=[v]∧tyK v)(hl:f.kids.length<=100000000):∀(k i:Nat) (s:Sv),k+i=n->x.pa.length+kbulk ((f.kids.take n).drop i)+2<=100000000->s.fa.length+4*kbulk ((f.kids.take n).drop i)+1<=900000000->uNs ((f.kids.take n).drop i)<=s.tg.length->
  Sst (kbulk<|(f.kids.take n).drop i) (uNs<|(f.kids.take n).drop i) s (mf x ((f.kids.take n).drop i) i s)∧∀(m:Nat) (s':Sv),(∀s1,s1=mf x ((f.kids.take n).drop i) i s->dg m f g n (mkC x s1) n (mkC x s'))->∃m',dg m' f g n (mkC x s) i<|mkC x s'
 |0,i,s,hk,_,_,_=>by
  have hd:(f.kids.take n).drop i=[]:=List.drop_of_length_le (by simp;omega);have hi:i=n:=by omega
  subst hi;rw[hd];exact⟨⟨by simp[mf,uNs],by simp[mf]⟩,λm s' h=>⟨m,h _ rfl⟩⟩
 | k+1,i,s,hk,h1,h2,h3=>by
  have hlt:i<(f.kids.take n).length:=by simp;omega
  obtain⟨u,hu⟩:∃u,(f.kids.take n)[i]?=some u:=⟨_,List.getElem?_eq_getElem hlt⟩;obtain⟨v,hv4,hv,hvt⟩:=hf i u hu;have hd:=aX hu;have hbu:=bm u;rw[hv]at hbu;rw[hd]at h1 h2 h3⊢;simp only[kbulk,uNs]at h1 h2 h3 hbu⊢;have hv0:u.kids[0]?=some v:=by rw[hv];rfl
  have hU:uN u=uN v:=by rw[di,hv,hv4];simp[uNs]
  obtain⟨a1,a2⟩:=Bw (tbulk v) v (aaf _) hvt u 0 (x.go i) s hv0 (by simp[Cx.go];omega) (by omega) (by omega);have e:mf x (u::(f.kids.take n).drop (i+1)) i s=mf x ((f.kids.take n).drop<|i+1) (i+1) (eC (tbulk v) ((x.go i).go ((0:Nat):Int)) v s):=by rw[mf,ce hv0]
  rw[e];generalize eC (tbulk v) ((x.go i).go ((0:Nat):Int)) v s=s1 at a1 a2;have q1:=a2.fa;have q2:=a2.tg;obtain⟨b1,b2⟩:=LH (g:=g) (x:=x) hn hf hl k (i+1) s1 (by omega) (by omega) (by omega) (by rw[q2,aal];omega);refine⟨⟨by rw[b1.tg,q2,List.drop_drop,hU],by have :=b1.fa;omega⟩,λm s' h=>?_⟩;obtain⟨m',hm⟩:=b2 m s' h;exact⟨m'+1,lj m' _ _ _ _ _ _<|⟨λ_=>⟨u,hu,_,kP (x:=x) (s:=s) (i:Int) (by omega),_,a1,_,jn (x:=x) (s:=s1) (i:Int),by omega,hm⟩,λh=>absurd hlt h⟩⟩
theorem NU{f:Tree}{g:al}{x:Cx}{s s':Sv}{n:Nat}(Z:n+2=f.kids.length)(hg:n<=g.params.length)(hl:f.kids.length<=100000000){m0:Nat}(fin:cC m0 f g (mkC x s) (fY (f.kids.take n) g.params) (-1)<|mkC x s'):∀k,k<=n->cC (m0+k) f g (mkC x s) (fY ((f.kids.take n).drop k)<|g.params.drop k) ((k:Int)-1) (mkC x s')
 |0,_=>by simpa using fin
 |k+1,hk=>by
  have ih:=NU Z hg hl fin k (by omega);obtain⟨u,J⟩:∃u,f.kids[k]?=some u:=⟨_,List.getElem?_eq_getElem<|by omega⟩;obtain⟨q,O⟩:∃q,g.params[k]?=some q:=⟨_,List.getElem?_eq_getElem<|by omega⟩;have G:(f.kids.take n)[k]?=some u:=by rw[List.getElem?_take,if_pos<|by omega];exact J
  rw[aX G,aX O]at ih;have e:(((k+1:Nat):Int)-1)=(k:Int):=by omega
  rw[e];exact lm (m0+k) _ _ _ _ _ _ (⟨λ_=>⟨k,I,u,J,k,I,q,O,⟨by omega,by omega⟩,ih⟩,λh=>absurd (by omega) h⟩)
theorem IN{f:Tree}{g:al}(hs:shapeK f=true)(h2:f.kind=2)(hg:f.kids.length=g.params.length+2)(hp:x.pa.length+tbulk f+2<=100000000)(hf:s.fa.length+4*tbulk f+1<=900000000)(ht:uN f<=s.tg.length)(hL:L+tbulk f<=900000000)(hgp:∀q∈g.params,KOk L q)(hsg:∀k q,aL k x.sg=some q->KOk L q.result):
  ckU x s f g (vj x f g s)∧Sst (tbulk f) (uN f) s (vj x f g s):=by
 obtain⟨s1,s2,s3,s4⟩:=mE hs h2;have hkl:=bw f;have hB:=bm f;obtain⟨n,hn⟩:∃n,n+2=f.kids.length:=⟨f.kids.length-2,by omega⟩;obtain⟨r,hr⟩:∃r,f.kids[n]?=some r:=⟨_,List.getElem?_eq_getElem<|by omega⟩;obtain⟨b,hb⟩:∃b,f.kids[n+1]?=some b:=⟨_,List.getElem?_eq_getElem<|by omega⟩;have hrt:=s3 r (by rw[show f.kids.length-2=n by omega];exact hr);have hbx:=s4 b (by rw[show f.kids.length-1=n+1 by omega];exact hb);have hsplit:f.kids=f.kids.take n++[r,b]:=by
  have e1:f.kids.drop n=[r,b]:=by
   rw[aX hr,aX hb,List.drop_of_length_le<|by omega]
  rw[<-e1,aas]
 have hKB:kbulk f.kids=kbulk (f.kids.take n)+tbulk r+tbulk b:=by
  have :∀a c:YT,kbulk (a++c)=kbulk a+kbulk c:=λa c=>by induction a with
   |nil=>simp[kbulk]
   |cons y l ih=>simp only[aay,kbulk,ih];omega
  conv=>lhs;rw[hsplit,this]
  simp[kbulk];omega
 have hUU:uN f=uNs (f.kids.take n)+uN r+uN b:=by
  have :∀a c:YT,uNs (a++c)=uNs a+uNs c:=λa c=>by induction a with
   |nil=>simp[uNs]
   |cons y l ih=>simp only[aay,uNs,ih];omega
  rw[di,h2]
  conv=>lhs;rw[hsplit,this]
  simp[uNs];omega
 have hpar:∀(i:Nat) (u:Tree),(f.kids.take n)[i]?=some u->∃v,u.kind=4∧u.kids=[v]∧tyK v:=λi u hu=>by
  rw[List.getElem?_take]at hu;split at hu
  ·exact s2 i u hu (by omega)
  ·cases hu
 obtain⟨A1,A2⟩:=LH (f:=f) (g:=g) (x:=x) (n:=n) (by omega) hpar (by omega) n 0 s (by omega) (by simp;omega) (by simp;omega) (by simp;omega);simp only[List.drop_zero]at A1 A2;obtain⟨sA,hsA⟩:∃sA,sA=mf x (f.kids.take n) 0 s:=⟨_,rfl⟩;rw[<-hsA]at A1;have qA:=A1.fa;have qT:=A1.tg;obtain⟨B1,B2⟩:=Bw (tbulk f) r (by omega) hrt f n x sA hr (by omega) (by omega) (by rw[qT,aal];omega);obtain⟨sB,hsB⟩:∃sB,sB=eC (tbulk f) (x.go (n:Int)) r sA:=⟨_,rfl⟩;rw[<-hsB]at B1 B2;have rA:=B2.fa;have rT:=B2.tg;obtain⟨C1,C2⟩:=iG (Fg (tbulk f)) (x:=x) (env:=fY (f.kids.take n) g.params) (s:=sB) (L:=L) hb (by omega) hbx ⟨by omega,by omega,by rw[rT,qT,List.drop_drop,aal];omega,by omega,λc hc=>by
  have :∀(ks:YT) (ps:List Kn),(∀q∈ps,KOk L q)->∀c∈fY ks ps,KOk L c.typ:=λks=>by
   induction ks with
   |nil=>intro ps _ c hc;simp[fY]at hc
   | cons k r ih=>
    intro ps hps c hc;cases ps with
    |nil=>simp[fY]at hc
    |cons q l=>
     simp only[fY,aah]at hc;rcases hc with rfl|hc
     ·exact hps q List.mem_cons_self
     ·exact ih l (λq hq=>hps q<|List.mem_cons_of_mem _ hq) c hc
  exact this _ _ hgp c hc,hsg⟩
 have e0:vj x f g s=funQ x (n+1) g.result (bh (ib<|tbulk f) x f (n+1) (fY (f.kids.take n) g.params) sB):=by unfold vj;rw[show f.kids.length-1=n+1 by omega,show f.kids.length-2=n by omega,ce hr,<-hsA,<-hsB]
 rw[e0];generalize bh (ib<|tbulk f) x f (n+1) (fY (f.kids.take n) g.params) sB=w at C1 C2⊢;obtain⟨k,sC⟩:=w;have cA:=C2.fa;have cT:=C2.tg;simp only at cA cT;have ei:(((f.kids.length:Nat):Int)-2+1)=((n+1:Nat):Int):=by omega
 have fin:∀s',s'=funQ x (n+1) g.result (k,sC)->cC 1 f g (mkC x sB) (fY (f.kids.take n) g.params) (-1) (mkC x s'):=λs' hs'=>by
  refine lm 0 _ _ _ _ _ _ (⟨λh=>absurd h (by omega),λ_=>⟨⟨by omega,by omega⟩,_,_,by rw[ei];exact C1,_,jO k g.result,λh=>⟨⟨by omega,by omega⟩,?_⟩,λh=>?_⟩⟩)
  ·have :s'=faP x 4 [((n+1:Nat):Int)] sC:=by rw[hs'];unfold funQ;simp only[if_pos h]
   subst this;exact⟨_,by rw[ei];exact dX (x:=x) (s:=sC) 4 [((n+1:Nat):Int)] (by simp;omega) (by omega),rfl⟩
  ·have :s'=sC:=by rw[hs'];unfold funQ;simp only[h];simp
   subst this;exact I
 have st:Sst (tbulk f) (uN f) s (funQ x (n+1) g.result (k,sC)):=by
  have :(funQ x (n+1) g.result (k,sC)).tg=sC.tg∧(funQ x (n+1) g.result (k,sC)).fa.length<=sC.fa.length+1:=by
   unfold funQ;simp only[];split
   ·exact⟨I,by rw[bL];omega⟩
   ·exact⟨I,by omega⟩
  exact⟨by rw[this.1,cT,rT,qT,List.drop_drop,List.drop_drop,hUU,aav],by have :=this.2;omega⟩
 refine⟨?_,st⟩;obtain⟨m',hm⟩:=A2 (1+n+1) (funQ x (n+1) g.result (k,sC)) λs1 hs1=>by
  rw[<-hsA]at hs1;subst hs1;refine lj (1+n) _ _ _ _ _ _ (⟨λh=>absurd h (by rw[aak];omega),λ_=>⟨_,by rw[show((f.kids.length:Nat):Int)-2=(n:Int) by omega];exact B1,⟨by omega,by omega⟩,?_⟩⟩);have :=NU (x:=x) (s:=sB) (g:=g) hn (by omega) (by omega) (fin _ rfl) n<|aaf _;rw[List.drop_of_length_le (by simp;omega)]at this;rw[show((f.kids.length:Nat):Int)-2-1=(n:Int)-1 by omega];simpa[fY]using this
 exact sS m' _ _ _ _ (⟨n,by omega,by omega,hm⟩)
def mr(G:YT)(J:List ak):Prop:=bv [] prog 29 [.row 4<|kidsV G] ⟨0,[]⟩<|z6 (.sl 0) ⟨1,[(0,.row 98 3<|List.map ak.w J)]⟩
theorem tB(m:Nat)(G:YT)(J:List ak)(h:∃c,pm G c∧y7 c (([]:List ak)=J) (∃b,lW G b∧∃a,lE b a∧∃d,fJ a.faults d∧d=J)):mr G J:=by
 refine qA 20 [] func29 λK O=>?_;refine gR 9 I ?_;obtain⟨c,e,h⟩:=h;refine qC0 e rfl<|gR 3 rfl<|qBh 6 rfl rfl rfl h cv cu ?_ ?_<;>intro h;refine gR 8 I<|gNS 2 98 3 I I I I ?_;subst h;exact gE O [] [(2,.sl 0)] [0] [.tmp 2];refine gR 6 I ?_;obtain⟨b,f,h⟩:=h;refine qC f [] ?_;refine qHX ⟨5,(CKr.y b 3)⟩<|gR 6 I ?_;obtain⟨a,g,h⟩:=h;refine qC g [0,1,2,3,4] ?_;refine qHX ⟨10,(CKr.y a 8)⟩<|gR 8 I ?_;obtain⟨d,i,h⟩:=h;refine qC i [9] ?_;refine qHX ⟨11,[(9,.row 98 3<|List.map ak.w d),(8,CKr.path_o a),(2,CKr.signatures_o a),(1,CKr.names_o a),(0,CKr.o a 1 2 8 9)]⟩<|gR 12 I ?_;subst h;exact gE O [] [(2,.sl 0)] [9] [.tmp 2]
def rY:Tree:=.node 0 [] [] []
def na(p:YT)(i d:Int):Tree:=match p[i.toNat]? with
 |none=>rY
 |some t=>match t.kids[d.toNat]? with
  |none=>rY
  |some a=>match a.kids with
   |[]=>rY
   |b::_=>b
def jf(p:YT):Nat->List (Int×Int)->Nat->Int->Tree->Tree×Int
 |0,_,_,_,_=>(rY,0)
 | f+1,seen,n,m,u=>
  if u.kind=9 then
   if(aC p m u.text).2.2=false then(rY,7)
   else if((aC p m u.text).1,(aC p m u.text).2.1)∈seen then(rY,19)
   else jf p f (((aC p m u.text).1,(aC p m u.text).2.1)::seen) (n+lisK (na p (aC p m u.text).1 (aC p m u.text).2.1)) (aC p m u.text).1 (leafK<|na p (aC p m u.text).1 (aC p m u.text).2.1)
  else(en n<|.node u.kind [] [] [],0)
theorem Dj{α:Type}[BEq α][LawfulBEq α]:∀(l m:List α),l.Nodup->(∀x∈l,x∈m)->l.length<=m.length
 |[],m,_,_=>aar _
 | x::l,m,hn,hs=>by
  obtain⟨h1,h2⟩:=List.nodup_cons.1 hn;have hx:x∈m:=hs x (by simp);have ih:=Dj l (m.erase x) h2 λy hy=>by
   have hne:y≠x:=λe=>h1<|e▸hy;exact(List.mem_erase_of_ne hne).2 (hs y<|by simp[hy])
  rw[List.length_erase_of_mem hx]at ih;have :=List.length_pos_of_mem hx;simp only[aac];omega
def yN(i:Nat)(l:YT):List (Int×Int):=(List.range l.length).map λ(d:Nat)=>((i:Int),(d:Int))
def tn:Nat->YT->List (Int×Int)
 |_,[]=>[]
 |i,t::r=>yN i t.kids++tn (i+1) r
theorem Da:∀(i:Nat) (p:YT),(tn i p).length<=kbulk p
 |_,[]=>aaf _
 |i,t::r=>by have :=Da (i+1) r;have :=bw t;simp only[tn,aab,yN,aaD,List.length_range,kbulk];omega
theorem De:∀{j:Nat} {p:YT} {i d:Nat} {t a:Tree},p[i]?=some t->t.kids[d]?=some a->(((j+i:Nat):Int),(d:Int))∈tn j p
 |j,[],i,d,t,a,h,_=>by simp at h
 |j,u::r,0,d,t,a,h,G=>by simp only[List.getElem?_cons_zero,aad]at h;subst h;have :=(List.getElem?_eq_some_iff.1 G).1;simp only[tn,aai,yN,List.mem_map,List.mem_range];exact .inl ⟨d,this,I⟩
 |j,u::r,i+1,d,t,a,h,G=>by have :=De (j:=j+1) (p:=r) (i:=i) (by simpa using h) G;simp only[tn,aai];rw[show j+(i+1)=j+1+i by omega];exact .inr this
theorem tx{a b:Tree}(h1:p[i]?=some t)(h2:t.kids[d]?=some a)(G:a.kids=[b]):na p i d=b:=by unfold na;rw[Int.toNat_natCast,h1];simp only[Int.toNat_natCast,h2,G]
def oB(p:YT)(l:List<|Int×Int):Prop:=l.Nodup∧∀x∈l,x∈tn 0 p
theorem tJ{l:List<|Int×Int}(h:oB p l):l.length<=kbulk p:=aao (Dj _ _ h.1 h.2)<|Da 0 p
theorem He{p:YT}{M:Int}:∀{a:List<|YI×Tree} {x:ar},x∈ca p M a↔∃q u,(q,u)∈a∧cH u=true∧x=tgK p M q u
 |[],x=>by simp[ca]
 | (q,u)::r,x=>by
  have ih:=He (p:=p) (M:=M) (a:=r) (x:=x);simp only[ca,aai,ih];constructor
  ·rintro(h|⟨q',u',h1,h2,h3⟩)
   ·split at h
    ·rename_i hu;rw[List.mem_singleton]at h;exact⟨q,u,by simp,hu,h⟩
    ·cases h
   ·exact⟨q',u',by simp[h1],h2,h3⟩
  ·rintro⟨q',u',h1,h2,h3⟩;rcases List.mem_cons.1 h1 with h1|h1
   ·cases h1;exact .inl (by rw[if_pos h2];simp[h3])
   ·exact .inr ⟨q',u',h1,h2,h3⟩
theorem Ai{p:YT}:∀{i:Nat} {l:YT} {x:ar},x∈gH p i l↔∃j t q u,l[j]?=some t∧(q,u)∈nodK t []∧cH u=true∧x=tgK p ((i+j:Nat):Int) q u
 |i,[],x=>by simp[gH]
 | i,t::r,x=>by
  have ih:=Ai (p:=p) (i:=i+1) (l:=r) (x:=x);simp only[gH,aai,ih,He];constructor
  ·rintro(⟨q,u,h1,h2,h3⟩|⟨j,t',q,u,h0,h1,h2,h3⟩)
   ·exact⟨0,t,q,u,I,h1,h2,h3⟩
   ·exact⟨j+1,t',q,u,by simpa using h0,h1,h2,by rw[h3];congr 2;omega⟩
  ·rintro⟨j,t',q,u,h0,h1,h2,h3⟩;cases j with
   |zero=>simp at h0;subst h0;exact .inl ⟨q,u,h1,h2,h3⟩
   |succ j=>exact .inr ⟨j,t',q,u,by simpa using h0,h1,h2,by rw[h3];congr 2;omega⟩
theorem Cv{u:Tree}{x:YI×Tree}:∀{l:YT} {q:YI} {i j:Nat},l[j]?=some u->x∈nodK u (q++[((i+j:Nat):Int)])->x∈nodKs l q i
 |[],q,i,j,h,_=>by simp at h
 |t::r,q,i,0,h,hx=>by simp only[List.getElem?_cons_zero,aad]at h;subst h;simp only[nodKs,aai];exact .inl (by simpa using hx)
 |t::r,q,i,j+1,h,hx=>by simp only[nodKs,aai];refine .inr (Cv (i:=i+1) (j:=j) (by simpa using h) ?_);rw[show i+1+j=i+(j+1) by omega];exact hx
theorem DZ:∀(r:YI) {t u:Tree} {q:YI},atK t r=some u->(q++r,u)∈nodK t q
 |[],t,u,q,h=>by simp only[atK,aad]at h;subst h;rw[kY];simp
 | z::r,t,u,q,h=>by
  simp only[atK]at h;split at h
  ·cases h
  ·rename_i hz;cases hu:t.kids[z.toNat]? with
   |none=>rw[hu]at h;cases h
   |some v=>
    rw[hu]at h;have :=DZ r (q:=q++[z]) h;rw[kY,aah];refine .inr<|Cv (j:=z.toNat) hu ?_;rw[Nat.zero_add,show((z.toNat:Nat):Int)=z by omega];simpa using this
theorem OC:∀t,tyK t->∃q,atK t q=some (leafK t):=da λt ih h=>by
 rcases jk h with⟨G,_,u,J,O⟩|⟨G,_⟩
 ·obtain⟨Z,_⟩:=jo G J;obtain⟨q,hq⟩:=ih 0 u (by rw[J];rfl) O;exact⟨0::q,by simp[atK,J,hq,Z]⟩
 ·exact⟨[],by rw[(ky G).1];rfl⟩
theorem La:∀t,tyK t->∀q u,atK t q=some u->cH u=true->u=leafK t:=da λt ih h q u hq hu=>by
 rcases jk h with⟨h8,_,v,hv,hty⟩|⟨h8,hk,_⟩
 ·obtain⟨e1,_⟩:=jo h8 hv;cases q with
  |nil=>
   simp only[atK,aad]at hq;subst hq;simp[cH,h8]at hu
  | cons z q=>
   simp only[atK,hv]at hq;split at hq
   ·cases hq
   ·cases hz:z.toNat with
    |zero=>
     rw[hz]at hq;simp only[List.getElem?_cons_zero]at hq;rw[e1];exact ih 0 v (by rw[hv];rfl) hty q u hq hu
    |succ n=>rw[hz]at hq;simp at hq
 ·rw[(ky h8).1];cases q with
  |nil=>simp only[atK,aad]at hq;exact hq.symm
  |cons z q=>
   simp only[atK,hk]at hq;split at hq<;>simp at hq
def dK (p:List Tree) (a:Int×Int):Option (Int×Int):=if 0<=a.1∧0<=a.2 then match p[a.1.toNat]? with
    |none=>none
    | some t=>match t.kids[a.2.toNat]? with
      |none=>none
      |some x=>if x.kind=3∧(leafK<|na p a.1 a.2).kind=9∧(aC p a.1 (leafK<|na p a.1 a.2).text).2.2=true then some ((aC p a.1 (leafK<|na p a.1 a.2).text).1,(aC p a.1 (leafK<|na p a.1 a.2).text).2.1)else none
  else none
theorem zX{x:Tree}(h1:p[i]?=some t)(h2:t.kids[d]?=some x)(G:x.kind=3):dK p ((i:Int),(d:Int))=if(leafK<|na p i d).kind=9∧(aC p i (leafK<|na p i d).text).2.2=true then some ((aC p i (leafK<|na p i d).text).1,(aC p i (leafK<|na p i d).text).2.1)else none:=by unfold dK;rw[if_pos ⟨Int.natCast_nonneg i,Int.natCast_nonneg d⟩];simp only[Int.toNat_natCast,h1,h2,G,true_and]
theorem qt{x:Tree}(hp:bn p=true)(h1:p[i]?=some t)(h2:t.kids[d]?=some x)(h3:x.kind=3):∃b,x.kids=[b]∧tyK b:=by
 obtain⟨g1,Z⟩:=dk hp h1;have G:shapeK x=true:=by rw[aY]at Z;simp only[aaa]at Z;exact(cf Z.2 h2).2
 rw[aY,h3]at G;simp only[aaa,aaj]at G;have O:=G.1.1;have e:dJ 3 x.kids.length=f0 x.kids.length 1 3 0 1:=rfl;rw[e]at O;have hn:x.kids.length=1:=by
  unfold f0 at O;split at O
  ·omega
  ·split at O
   ·omega
   ·omega
 match hkk:x.kids,hn with
 |[b],_=>
  have J:=G.2;rw[hkk]at J;simp only[shapeKs,aaa]at J;exact⟨b,I,J.1.2,by have :=J.1.1;simpa[fi]using this⟩
def NQ(p:YT)(x:ar):Bool:=!x.Free&&(match p[x.Use.Module.toNat]? with|none=>false|some t=>match t.kids[(x.Use.Path.getD 0 0).toNat]? with|none=>false|some a=>a.kind==3)
def ff(p:YT)(l:List<|(Int×Int)×aA)(x:ar):List ((Int×Int)×aA):=
 if NQ p x=true then bS (x.Use.Module,x.Use.Path.getD 0 0) (aA.mk x.Module x.Def) l else l
def eU(p:YT):List ((Int×Int)×aA):=(bC p).foldl (ff p) []
theorem KW{x:ar}(hp:bn p=true)(h:x∈bC p):∃(i d:Nat) (t a u:Tree) (q:YI),p[i]?=some t∧t.kids[d]?=some a∧x.Use.Module=(i:Int)∧x.Use.Path=(d:Int)::q∧atK a q=some u∧cH u=true∧x=tgK p (i:Int) ((d:Int)::q) u:=by
 unfold bC at h;rw[if_pos hp]at h;obtain⟨j,t,q,u,hj,hq,hu,rfl⟩:=Ai.1 h;rw[Nat.zero_add];have hat:=nodK_at t t [] rfl _ hq;simp only at hat;obtain⟨hk,_⟩:=dk hp hj;cases q with
 |nil=>
  simp only[atK,aad]at hat;subst hat;simp[cH,hk]at hu
 | cons z q=>
  simp only[atK]at hat;split at hat
  ·cases hat
  ·rename_i hz;cases ha:t.kids[z.toNat]? with
   |none=>rw[ha]at hat;cases hat
   |some a=>
    rw[ha]at hat;have e:((z.toNat:Nat):Int)=z:=by omega
    exact⟨j,z.toNat,t,a,u,q,hj,ha,I,by rw[e];rfl,hat,hu,by rw[e]⟩
theorem vi{x:ar}{a:Tree}{q:YI}(l:List<|(Int×Int)×aA)(h1:p[i]?=some t)(h2:t.kids[d]?=some a)(G:x.Use.Module=(i:Int))(J:x.Use.Path=(d:Int)::q):ff p l x=if x.Free=false∧a.kind=3 then bS ((i:Int),(d:Int)) (aA.mk x.Module x.Def) l else l:=by unfold ff NQ;rw[G,J];simp only[List.getD_cons_zero,Int.toNat_natCast,h1,h2,aap,aaa,Bool.not_eq_true']
theorem AN {p:List Tree} (hp:bn p=true):∀(T:List ar) (l:List<|(Int×Int)×aA),(∀x∈T,x∈bC p)->(∀k v,aL k l=some v->dK p k=some (v.module,v.def_))->∀k v,aL k (T.foldl (ff p) l)=some v->dK p k=some (v.module,v.def_)
 |[],l,_,hl,k,v,h=>hl k v h
 | x :: T,l,hT,hl,k,v,h=>by
  refine AN hp T (ff p l x) (λy hy=>hT y<|by simp[hy]) (λk v hkv=>?_) k v h;obtain⟨i,d,t,a,u,q,h1,h2,h3,h4,h5,h6,h7⟩:=KW hp (hT x<|by simp);rw[vi l h1 h2 h3 h4]at hkv;split at hkv
  ·rename_i hc;rw[iy]at hkv;split at hkv
   ·rename_i hk;simp only[aad]at hkv;subst hkv hk;obtain⟨b,hb,hty⟩:=qt hp h1 h2 hc.2;have hlf:u=leafK b:=by
     cases q with
     |nil=>
      simp only[atK,aad]at h5;subst h5;have :=hc.2;simp[cH,this]at h6
     | cons z q=>
      simp only[atK,hb]at h5;split at h5
      ·cases h5
      ·cases hz:z.toNat with
       |zero=>
        rw[hz]at h5;simp only[List.getElem?_cons_zero]at h5;exact La b hty q u h5 h6
       |succ n=>rw[hz]at h5;simp at h5
    have hal:=tx h1 h2 hb;have hk9:(leafK b).kind=9:=by obtain⟨g1,g2,_⟩:=py b hty;have :=g1.2;simp only[gN,aaa,aaj]at this;rw[hlf]at h6;simp only[cH,aaB,aap]at h6;omega
    have hfr:=hc.1;rw[h7]at hfr⊢;simp only[tgK,Bool.not_eq_false']at hfr⊢;rw[zX h1 h2 hc.2,hal,<-hlf,if_pos ⟨by rw[hlf];exact hk9,hfr⟩]
   ·exact hl k v hkv
  ·exact hl k v hkv
theorem Cs{p:YT}(k:Int×Int):∀(T:List ar) (l:List<|(Int×Int)×aA),aL k l≠none->aL k (T.foldl (ff p) l)≠none
 |[],l,h=>h
 | x::T,l,h=>by
  refine Cs k T (ff p l x) ?_;unfold ff;split
  ·rw[iy];split
   ·simp
   ·exact h
  ·exact h
theorem Fy{p:YT}{k:Int×Int}{x:ar}(hx:∀l,aL k (ff p l x)≠none):∀(T:List ar) (l:List<|(Int×Int)×aA),x∈T->aL k (T.foldl (ff p) l)≠none
 |[],l,h=>by cases h
 |y::T,l,h=>by
  rcases List.mem_cons.1 h with rfl|h
  ·exact Cs k T _<|hx l
  ·exact Fy hx T _ h
theorem Cc {p:List Tree} (hp:bn p=true) (k:Int×Int):(aL k<|eU p).map (λv=>(v.module,v.def_))=dK p k:=by
 have hs:=AN hp (bC p) [] (λ_ h=>h) (λk v h=>by cases h) k;cases hm:aL k (eU p)with
 |some v=>rw[hs v hm];rfl
 | none =>
  rw[Option.map_none];cases hn:dK p k with
  |none=>rfl
  | some v=>
   exfalso;have hn':=hn;unfold dK at hn;split at hn
   ·rename_i h0;cases h1:p[k.1.toNat]? with
    |none=>rw[h1]at hn;cases hn
    | some t=>
     cases h2:t.kids[k.2.toNat]? with
     |none=>rw[h1]at hn;simp only[h2]at hn;cases hn
     | some a=>
      rw[h1]at hn;simp only[h2]at hn;split at hn
      ·rename_i hc;obtain⟨b,hb,hty⟩:=qt hp h1 h2 hc.1;have e1:((k.1.toNat:Nat):Int)=k.1:=by omega
       have e2:((k.2.toNat:Nat):Int)=k.2:=by omega
       have hal:=tx h1 h2 hb;rw[e1,e2]at hal;rw[hal]at hc;obtain⟨q,hq⟩:=OC b hty;have hat:atK t (k.2::0::q)=some (leafK b):=by simp[atK,h2,hb,hq,show¬k.2<0 by omega]
       have hx:tgK p k.1 (k.2::0::q) (leafK b)∈bC p:=by unfold bC;rw[if_pos hp];exact Ai.2 ⟨k.1.toNat,t,_,_,h1,by simpa using DZ _ (q:=[]) hat,by simp[cH,hc.2.1],by rw[Nat.zero_add,e1]⟩
       refine Fy (k:=k) (λl=>?_) (bC p) [] hx hm;rw[vi (i:=k.1.toNat) (d:=k.2.toNat) (q:=0::q) l h1 h2 (by rw[e1];rfl) (by rw[e2];rfl),if_pos ⟨by simp[tgK,hc.2.2],hc.1⟩,iy,if_pos<|by rw[e1,e2]];simp
      ·cases hn
   ·cases hn
def iq{α:Type}(f:α->Nat):List α->Nat
 |[]=>0
 |x::r=>f x+iq f r
theorem EE{α:Type}(f:α->Nat):∀a b:List α,iq f (a++b)=iq f a+iq f b
 |[],b=>by simp[iq]
 |x::a,b=>by simp only[aay,iq,EE f a b];omega
theorem Bs{α:Type}[BEq α][LawfulBEq α](f:α->Nat){x:α}:∀{m:List α},x∈m->iq f m=f x+iq f (m.erase x)
 |[],h=>by cases h
 | y::m,h=>by
  rw[List.erase_cons];split
  ·rename_i e;rw[eq_of_beq e];rfl
  ·rename_i e;rcases List.mem_cons.1 h with rfl|h
   ·simp at e
   ·simp only[iq,Bs f h];omega
theorem EK{α:Type}[BEq α][LawfulBEq α](f:α->Nat):∀(l m:List α),l.Nodup->(∀x∈l,x∈m)->iq f l<=iq f m
 |[],m,_,_=>aar _
 |x::l,m,G,hs=>by
  obtain⟨h1,h2⟩:=List.nodup_cons.1 G;rw[Bs f (hs x<|by simp),iq];have :=EK f l (m.erase x) h2 λy hy=>(List.mem_erase_of_ne λ(e:y=x)=>h1 (by rw[<-e];exact hy)).2 (hs y<|by simp[hy]);omega
def sR(p:YT)(k:Int×Int):Nat:=lisK<|na p k.1 k.2
theorem JO{P:YT}{j:Nat}(h:P[j]?=some t):iq (sR P) (yN j t.kids)<=kbulk t.kids:=by
 have go:∀(l:YT) (k:Nat),t.kids.drop k=l->iq (sR P) ((List.range' k l.length).map λ(d:Nat)=>((j:Int),(d:Int)))<=kbulk l:=λl=>by
  induction l with
  |nil=>intro k _;exact aar _
  | cons x r ih=>
   intro k hk;have hx:t.kids[k]?=some x:=by
    have :(t.kids.drop k)[0]?=some x:=by rw[hk];rfl
    simpa using this
   have hr:t.kids.drop (k+1)=r:=by
    have :(t.kids.drop k).drop 1=r:=by rw[hk];rfl
    simpa[List.drop_drop]using this
   have :=ih (k+1) hr;simp only[aac,List.range'_succ,aan,iq,kbulk];have e:sR P ((j:Int),(k:Int))<=tbulk x:=by
    unfold sR na;simp only[Int.toNat_natCast,h,hx];cases hxk:x.kids with
    |nil=>
     have :lisK rY=0:=by unfold rY;rw[lisK,if_neg<|by decide]
     simp only[this];omega
    |cons b _=>
     simp only[];have :=(qd b).2;have :=aF (t:=x) (i:=0) (u:=b) (by rw[hxk];rfl);omega
   omega
 have :=go t.kids 0 rfl;unfold yN;rw[List.range_eq_range'];exact this
theorem Fe(P:YT):∀(j:Nat) (r:YT),(∀i,P[j+i]?=r[i]?)->iq (sR P) (tn j r)<=kbulk r
 |j,[],_=>aar _
 |j,t::r,h=>by
  have G:P[j]?=some t:=by have :=h 0;simpa using this
  have :=JO G;have :=Fe P (j+1) r λi=>by have :=h<|i+1;rw[show j+1+i=j+(i+1) by omega];simpa using this
  have :=bm t;simp only[tn,EE,kbulk];omega
theorem zW{l:List<|Int×Int}(h:oB p l):iq (sR p) l<=kbulk p:=aao (EK _ _ _ h.1 h.2) (Fe p 0 p λi=>by simp)
theorem EN(t:Tree):∀n,en n (.node 8 [] [] [t])=.node 8 [] [] [en n t]
 |0=>rfl
 |n+1=>by simp only[en,EN t n]
theorem BH(ht:tyK t)(hb:tbulk t<=1000000000):oL t (leafK t) (lisK t):=by
 have loop:∀t,tyK t->∀i,i+tbulk t<=2000000000->ni (lisK t+1) t i (leafK t) ((i+lisK t:Nat):Int):=da λt ih h i hi=>by
  rcases jk h with⟨G,_,u,hu,J⟩|⟨G,hk,_⟩
  ·obtain⟨O,Z⟩:=jo G hu;have h0:t.kids[0]?=some u:=by rw[hu];rfl
   have :=aF h0;rw[O,Z];refine uT _ _ _ _ _ ⟨λ_=>⟨u,h0,by omega,?_⟩,λh=>absurd G h⟩;rw[show i+(lisK u+1)=i+1+lisK u by omega];exact ih 0 u h0 J (i+1) (by omega)
  ·obtain⟨O,Z⟩:=ky G;rw[O,Z];exact uT _ _ _ _ _ ⟨λh=>absurd h G,λ_=>⟨I,I⟩⟩
 have :=loop t ht 0 (by omega);rw[Nat.zero_add]at this;exact Ci _ _ _ _ this
theorem lM(p:YT)(hp:kbulk p<=1000000000):ms p (bn p):=by
 have hl:=fD p;have loop:∀m i,p.length-i<=m->lx (m+1) p i (bn<|p.drop i):=λm=>by
  induction m with
  |zero=>
   intro i hi;refine ta 0 _ _ _ ⟨λh=>by omega,λh=>?_⟩;rw[List.drop_of_length_le (by omega),bn]
  | succ m ihm=>
   intro i hi;refine ta (m+1) _ _ _ ⟨λh=>?_,λh=>?_⟩
   ·obtain⟨u,hu,_⟩|h':=aV p i
    ·rw[aX hu,bn];have :=bR hu;refine⟨u,hu,λh1=>by simp[h1],λh1=>⟨_,oV u (by omega),λh2=>by simp[h1,h2],λh2=>⟨by omega,?_⟩⟩⟩;simp only[h1,h2,beq_self_eq_true,Bool.true_and];exact ihm (i+1) (by omega)
    ·exact absurd h h'
   ·rw[List.drop_of_length_le (by omega),bn]
 exact Ar _ _ _ (loop p.length 0<|by omega)
theorem Dt(p:YT):(bC p).length<=kbulk p:=by
 unfold bC;split
 ·exact Dk p 0 p
 ·exact aar _
theorem Cr(hp:bn p=true)(hb:kbulk p<=100000000):mi p (eU p):=by
 have hl:=Dt p;have hu:∀x∈bC p,_:=λx hx=>KW hp hx;obtain⟨T,hT⟩:∃T,T=bC p:=⟨_,rfl⟩;have loop:∀m i l,T.length-i<=m->fX (m+1) p T l i ((T.drop i).foldl (ff p) l):=λm=>by
  induction m with
  |zero=>
   intro i l hi;refine sX 0 _ _ _ _ _ ⟨λh=>by omega,λh=>?_⟩;rw[List.drop_of_length_le<|by omega];rfl
  | succ m ihm=>
   intro i l hi;refine sX (m+1) _ _ _ _ _ ⟨λh=>?_,λh=>?_⟩
   ·obtain⟨x,hx,_⟩|h':=aV T i
    ·rw[aX hx,List.foldl_cons];obtain⟨j,d,t,a,u,q,h1,h2,h3,h4,h5,h6,h7⟩:=hu x<|hT▸List.mem_of_getElem? hx;have hs:=vi l h1 h2 h3 h4;rw[<-hT]at hl;refine⟨x,hx,(d:Int),by rw[h4];rfl,λhf=>⟨j,h3,t,h1,d,I,a,h2,λh3'=>⟨by omega,?_⟩,λh3'=>⟨by omega,?_⟩⟩,λhf=>⟨by omega,?_⟩⟩
     ·have :=ihm (i+1) (ff p l x) (by omega);rw[hs,if_pos ⟨hf,h3'⟩]at this⊢;rw[h3];exact this
     ·have :=ihm (i+1) (ff p l x) (by omega);rw[hs,if_neg λhc=>h3' hc.2]at this⊢;exact this
     ·have :=ihm (i+1) (ff p l x) (by omega);rw[hs,if_neg (λhc=>by rw[hf]at hc;cases hc.1)]at this⊢;exact this
    ·exact absurd h h'
   ·rw[List.drop_of_length_le<|by omega];rfl
 refine Au (T.length+1) _ _ ⟨T,hT▸yq p hb,?_⟩;have :=loop T.length 0 [] (by omega);rw[List.drop_zero,hT]at this;rw[hT];exact this
end Go.Proofs.YthnohcipianijaaGreatDoor
