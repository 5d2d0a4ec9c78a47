/- Contracts of the functions that the law reaches, part 6. -/
import Derived.Test.YtehhanlhfdoiaaaGreatBq5
set_option linter.unusedVariables false
set_option linter.unusedSimpArgs false
namespace Go.Proofs.YtehhanlhfdoiaaaGreat
open _root_.Go.Proofs.Tryz
open Go.RowKit Lx Sx
set_option maxRecDepth 100000
set_option maxHeartbeats 4000000
def iv(E:YT)(G:Bool):Prop:=qS 27 [.row 4<|kidsV E]<|.bool G
def lz(E:YB)(G:Bool):Prop:=qS 105 [.str E]<|.bool G
def lV(E:YT)(G:(List YI))(J O U:Int):Prop:=qS 104 [.row 4<|kidsV E,.row 1<|List.map (λl=>V.row 1<|List.map (V.int .i64) l) G,qi J,qi O]<|qi U
def ma(E:YT)(G:(List YI))(J:Int)(O:YI)(U:ak):Prop:=qS 65 [.row 4<|kidsV E,.row 1<|List.map (λl=>V.row 1<|List.map (V.int .i64) l) G,qi J,.row 1<|List.map (V.int .i64) O]<|.agg<|ak.c U
def kZ(E G:Int):Prop:=qS 64 [qi E]<|qi G
def iW(E:Tree)(G J O:Int):Prop:=qS 32 [.agg<|am E,qi G]<|.tup [qi J,qi O]
def ff(E:YT)(G:(List YI))(J:Int)(O:YI)(U:YB)(Z:List ai):Prop:=qS 34 [.row 4<|kidsV E,.row 1<|List.map (λl=>V.row 1<|List.map (V.int .i64) l) G,qi J,.row 1<|List.map (V.int .i64) O,.str U]<|.row 6<|List.map ai.w Z
def fR(E:YT)(G:Int)(J:aL)(O U:Int):Prop:=qS 10 [.row 4<|kidsV E,qi G]<|.tup [.agg<|aL.c J,qi O,qi U]
def lS(E G:List ai):Prop:=qS 35 [.row 6<|List.map ai.w E]<|.row 6<|List.map ai.w G
def jh(E G:List ai)(J:Bool):Prop:=qS 11 [.row 6<|List.map ai.w E,.row 6<|List.map ai.w G]<|.bool J
def gU(m:Nat)(E:YT)(a:Nat)(G:Bool):Prop:=z5 m [] f27 (z3<|.bool G) (xI<|cB<|ac f27) [.blk 0,.seq<|xA<|ac f27] 27 [(0,.row 4<|kidsV E),(3,qi (a:Int))] ⟨0,[]⟩
theorem wX(m:Nat)(p0:YT)(r0:Bool)(h:gU m p0 0 r0):iv p0 r0:=by
 refine⟨I,I,?_⟩;refine qA 27 [] func27 λK hK=>?_;exact gR 12 I<|go_loop m<|qW hK h []
theorem py(m:Nat)(E:YT)(a:Nat)(G:Bool)(h:z8 (a<E.length) (∃b,E[a]?=some b∧y6 b.kind 1 (false=G) (∃d,E[a]?=some d∧∃c,bV d c∧y4 c (false=G) (gU m E (a+1) G)))<|decide ((E.length:Int)<=8)=G):gU (m+1) E a G:=by
 refine qj λK U O j=>?_;refine gR 6 rfl<|gV 6 (qi (E.length:Int)) rfl (aK<|aG _) rfl<|gLB 5 rfl (aG _) λg=>gR 3 rfl<|qXh 7 rfl rfl rfl h bx bw ?_ ?_<;>intro J h;refine gR 9 I ?_;obtain⟨b,e,h⟩:=h;refine gY (ar (au e) ab rfl rfl rfl rfl) rfl rfl<|gR 4 rfl<|qXhZ 16 15 rfl rfl rfl rfl h iS eY ?_ ?_<;>intro J h;refine gR 18 I<|go_xloopR<|gR 2 I ?_;subst h;exact qN [.tmp 2];refine gR 2 I ?_;obtain⟨d,f,h⟩:=h;refine gY (ar (au f) ab I I I I) I I<|gR 1 I ?_;obtain⟨c,i,h⟩:=h;refine qC0 i rfl<|gR 4 rfl<|qXh 23 rfl rfl rfl h bI bJ ?_ ?_<;>intro J h;refine gR 9 I<|go_xloopR<|gR 2 I ?_;subst h;exact qN [.tmp 2];exact gR 7 I<|gV 9 (qi ((a+1:Nat):Int)) I (al (by have :=g;omega)<|by omega) I<|gR 2 I<|go_xloop<|qW O h [];refine gR 3 I<|go_xloopE<|gR 6 I<|gV 25 (qi (E.length:Int)) I (aK<|aG _) I<|gR 5 I ?_;subst h;exact qN [.tmp 2]
def gp(m:Nat)(E:YB)(a:Nat)(G:Bool):Prop:=z5 m [] f105 (z3<|.bool G) (xI<|cB<|ac f105) [.blk 0,.seq<|xA<|ac f105] 14 [(0,.str E),(3,qi (a:Int))] ⟨0,[]⟩
theorem vz(m:Nat)(p0:YB)(r0:Bool)(h:gp m p0 0 r0):lz p0 r0:=by
 refine⟨I,I,?_⟩;refine qA 14 [] func105 λK hK=>?_;exact gR 12 I<|go_loop m<|qW hK h []
theorem oE(m:Nat)(E:YB)(a:Nat)(G:Bool)(h:z8 (a<E.length) (∃b,E[a]?=some b∧y5 (b.toNat:Int) 46 (true=G) (a+1<=9223372036854775807∧gp m E (a+1) G))<|false=G):gp (m+1) E a G:=by
 refine qj λK U J d=>?_;refine gR 9 rfl<|qXh 7 rfl rfl rfl h bx bw ?_ ?_<;>intro O h;refine gR 9 I ?_;obtain⟨b,c,h⟩:=h;refine gY (yIS ab rfl rfl rfl c) rfl rfl<|gR 3 rfl<|qXe 13 rfl rfl rfl h ?_ ?_<;>intro O h;refine gR 9 I<|go_xloopR<|gR 2 I ?_;subst h;exact qN [.tmp 2];refine gR 6 I ?_;obtain⟨hb,h⟩:=h;exact gR 1 I<|gV 9 (qi ((a+1:Nat):Int)) I (al (by omega)<|by omega) I<|gR 2 I<|go_xloop<|qW J h [];refine gR 3 I<|go_xloopE<|gR 8 I ?_;subst h;exact qN [.tmp 2]
theorem xa(m:Nat)(G:YT)(J:(List YI))(E O U:Int)(h:∃a,E=((a:Nat):Int)∧∃d,J[a]?=some d∧∃b,E=((b:Nat):Int)∧∃e,G[b]?=some e∧∃g,ch e [O] g∧∃c,g=((c:Nat):Int)∧∃i,d[c]?=some i∧i=U):lV G J E O U:=by
 refine⟨I,I,?_⟩;refine qA 22 [] func104 λK Z=>?_;refine gR 6 I<|qDs [] 14 14<|qDr [(0,2),(1,2)] I I ?_;obtain⟨a,o,h⟩:=h;refine gV 10 (qi ((a:Nat):Int)) I (aI o) I ?_;obtain⟨d,j,h⟩:=h;refine gYd 2 I (by kernel_rfl) (ar (an (f:=(λl=>V.row 1<|List.map (V.int .i64) l)) j) ab I I I I) I I<|qDr (qR 3 3 2 []) I I ?_;obtain⟨b,p,h⟩:=h;refine gV 14 (qi ((b:Nat):Int)) I (aI p) I ?_;obtain⟨e,k,h⟩:=h;refine gYd 6 I (by kernel_rfl) (ar (au k) ab I I I I) I I<|qDr [(7,2),(8,0),(9,0)] I I<|gFR 0 I I I I ?_;obtain⟨g,r,h⟩:=h;refine bp 10 r (by kernel_rfl) I (by kernel_rfl) I I .rfl I I ?_;obtain⟨c,q,h⟩:=h;refine gV 19 (qi ((c:Nat):Int)) I (aI q) I ?_;obtain⟨i,n,h⟩:=h;refine cc 11 I (by kernel_rfl) (ar (an (f:=(V.int .i64)) n) ab I I I I) I I ?_;refine qDr [(12,0),(13,0)] I I<|qDe<|gR 2 I ?_;subst h;exact qN [.tmp 8]
def pN(m:Nat)(E:YT)(G:(List YI))(J:Int)(O:YI)(a:Tree)(U:ak):Prop:=z6 [] f65 (z3<|.agg<|ak.c U) (xJ<|xE<|xH<|ac f65) [.blk 0,.seq<|xF<|ac f65] 172 [(0,.row 4<|kidsV E),(1,.row 1<|List.map (λl=>V.row 1<|List.map (V.int .i64) l) G),(2,qi J),(3,.row 1<|List.map (V.int .i64) O),(8,.ptr 0 0),(9,.ptr 1 0),(11,.ptr 2 0)] ⟨3,[(2,vD a.kind (.bool false) a.text 0),(1,.var 26<|am a),(0,vD 0 (.bool false) [] 0)]⟩
def pW(m:Nat)(E:YT)(G:(List YI))(J:Int)(O:YI)(a:Tree)(U:ak):Prop:=z6 [] f65 (z3<|.agg<|ak.c U) (xB<|xE<|xH<|ac f65) [.blk 0,.seq<|xF<|ac f65] 172 [(0,.row 4<|kidsV E),(1,.row 1<|List.map (λl=>V.row 1<|List.map (V.int .i64) l) G),(2,qi J),(3,.row 1<|List.map (V.int .i64) O),(8,.ptr 0 0),(9,.ptr 1 0),(11,.ptr 2 0),(39,qi a.kind)] ⟨3,[(2,vD a.kind (.bool false) a.text 0),(1,.var 26<|am a),(0,vD 0 (.bool false) [] 0)]⟩
def qH(m:Nat)(E:YT)(G:(List YI))(J:Int)(O:YI)(a:Tree)(b:YI)(U:ak):Prop:=z6 [] f65 (z3<|.agg<|ak.c U) (cT<|xA<|xJ<|xE<|xH<|ac f65) [.blk 0,.seq<|xF<|ac f65] 172 [(0,.row 4<|kidsV E),(1,.row 1<|List.map (λl=>V.row 1<|List.map (V.int .i64) l) G),(2,qi J),(3,.row 1<|List.map (V.int .i64) O),(8,.ptr 0 0),(11,.ptr 1 0),(12,.row 1<|List.map (V.int .i64) b)] ⟨2,[(1,vD a.kind (.bool false) a.text 0),(0,vD 0 (.bool false) [] 0)]⟩
def lD(m:Nat)(E:YT)(G:(List YI))(J:Int)(O:YI)(a:Tree)(b:Bool)(U:ak):Prop:=z6 [] f65 (z3<|.agg<|ak.c U) (cB<|xB<|xE<|xH<|ac f65) [.blk 0,.seq<|xF<|ac f65] 172 [(0,.row 4<|kidsV E),(1,.row 1<|List.map (λl=>V.row 1<|List.map (V.int .i64) l) G),(2,qi J),(3,.row 1<|List.map (V.int .i64) O),(8,.ptr 0 0),(9,.ptr 1 0),(11,.ptr 2 0),(39,qi a.kind),(81,.bool b)] ⟨3,[(2,vD a.kind (.bool false) a.text 0),(1,.var 26<|am a),(0,vD 0 (.bool false) [] 0)]⟩
def ly(m:Nat)(E:YT)(G:(List YI))(J:Int)(a:Tree)(O:ak):Prop:=z6 [] f65 (z3<|.agg<|ak.c O) (xJ<|xB<|xE<|xH<|ac f65) [.blk 0,.seq<|xF<|ac f65] 172 [(0,.row 4<|kidsV E),(1,.row 1<|List.map (λl=>V.row 1<|List.map (V.int .i64) l) G),(2,qi J),(8,.ptr 0 0),(9,.ptr 1 0),(11,.ptr 2 0)] ⟨3,[(2,vD a.kind (.bool false) a.text 0),(1,.var 26<|am a),(0,vD 0 (.bool false) [] 0)]⟩
def ld(m:Nat)(E:YT)(G:(List YI))(J:Int)(O:YI)(a:Tree)(U:ak):Prop:=z6 [] f65 (z3<|.agg<|ak.c U) (xC<|xE<|xH<|ac f65) [.blk 0,.seq<|xF<|ac f65] 172 [(0,.row 4<|kidsV E),(1,.row 1<|List.map (λl=>V.row 1<|List.map (V.int .i64) l) G),(2,qi J),(3,.row 1<|List.map (V.int .i64) O),(8,.ptr 0 0),(11,.ptr 1 0),(39,qi a.kind)] ⟨2,[(1,vD a.kind (.bool false) a.text 0),(0,vD 0 (.bool false) [] 0)]⟩
def qM(m:Nat)(E:YT)(G:(List YI))(J:Int)(a:Tree)(b d:Int)(O:ak):Prop:=z6 [] f65 (z3<|.agg<|ak.c O) (cT<|xA<|xJ<|xB<|xE<|xH<|ac f65) [.blk 0,.seq<|xF<|ac f65] 172 [(0,.row 4<|kidsV E),(1,.row 1<|List.map (λl=>V.row 1<|List.map (V.int .i64) l) G),(2,qi J),(8,.ptr 0 0),(9,.ptr 1 0),(11,.ptr 2 0),(15,qi b),(16,qi d)] ⟨3,[(2,vD a.kind (.bool false) a.text 0),(1,.var 26<|am a),(0,vD 0 (.bool false) [] 0)]⟩
def qe(m:Nat)(E:YT)(G:(List YI))(J:Int)(O:YI)(a:Tree)(U:ak):Prop:=z6 [] f65 (z3<|.agg<|ak.c U) (xJ<|xC<|xE<|xH<|ac f65) [.blk 0,.seq<|xF<|ac f65] 172 [(0,.row 4<|kidsV E),(1,.row 1<|List.map (λl=>V.row 1<|List.map (V.int .i64) l) G),(2,qi J),(3,.row 1<|List.map (V.int .i64) O),(8,.ptr 0 0),(11,.ptr 1 0)] ⟨2,[(1,vD a.kind (.bool false) a.text 0),(0,vD 0 (.bool false) [] 0)]⟩
def qy(m:Nat)(E:YT)(G:(List YI))(J:Int)(O:YI)(a b:Tree)(U:ak):Prop:=z7 [] f65 (z3<|.agg<|ak.c U) [.seq<|cB<|xJ<|xC<|xE<|xH<|ac f65,.blk 0,.seq<|xF<|ac f65] 172 [(0,.row 4<|kidsV E),(1,.row 1<|List.map (λl=>V.row 1<|List.map (V.int .i64) l) G),(2,qi J),(3,.row 1<|List.map (V.int .i64) O),(8,.ptr 0 0),(11,.ptr 1 0),(18,.ptr 2 0)] ⟨3,[(2,.var 26<|am b),(1,vD a.kind (.bool false) a.text 0),(0,vD 0 (.bool false) [] 0)]⟩
def kW(m:Nat)(E:YT)(G:(List YI))(a:Tree)(d e f:Int)(b:Bool)(J:ak):Prop:=z6 [] f65 (z3<|.agg<|ak.c J) (xF<|xJ<|xC<|xE<|xH<|ac f65) [.blk 0,.seq<|xF<|ac f65] 172 [(0,.row 4<|kidsV E),(1,.row 1<|List.map (λl=>V.row 1<|List.map (V.int .i64) l) G),(8,.ptr 0 0),(11,.ptr 1 0),(20,qi d),(21,qi e),(22,qi f),(155,.bool b)] ⟨2,[(1,vD a.kind (.bool false) a.text 0),(0,vD 0 (.bool false) [] 0)]⟩
def pn(m:Nat)(E:YT)(G:(List YI))(a:Tree)(b d e:Int)(J:ak):Prop:=z6 [] f65 (z3<|.agg<|ak.c J) (cT<|xF<|xJ<|xC<|xE<|xH<|ac f65) [.blk 0,.seq<|xF<|ac f65] 172 [(0,.row 4<|kidsV E),(1,.row 1<|List.map (λl=>V.row 1<|List.map (V.int .i64) l) G),(8,.ptr 0 0),(11,.ptr 1 0),(20,qi b),(21,qi d),(22,qi e)] ⟨2,[(1,vD a.kind (.bool false) a.text 0),(0,vD 0 (.bool false) [] 0)]⟩
theorem ww(m:Nat)(E:YT)(U:(List YI))(G:Int)(J:YI)(Z:ak)(h:∃b,G=((b:Nat):Int)∧∃c,E[b]?=some c∧∃a e,bF c J a e∧((a.kind=12)->pN m E U G J a Z)∧((a.kind≠12)->pW m E U G J a Z)):ma E U G J Z:=by
 refine⟨I,I,?_⟩;refine qA 172 [] func65 λK O=>?_;refine gR 9 I ?_;obtain⟨b,f,h⟩:=h;refine gV 26 (qi ((b:Nat):Int)) I (aI f) I ?_;obtain⟨c,d,h⟩:=h;refine gY (ar (au d) ab I I I I) I I<|gR 2 I ?_;obtain⟨a,e,g,h⟩:=h;refine qC0 g rfl<|gR 33 rfl<|qBeZ 40 41 rfl rfl rfl rfl h ?_ ?_<;>intro h;exact gR 1 I<|qJ O (h K O) [0,1,2];exact gR 1 I<|qJ O (h K O) [0,1,2]
theorem kx(m:Nat)(J:YT)(p1:(List YI))(O:Int)(E:YI)(a:Tree)(U:ak)(h:∃b,O=((b:Nat):Int)∧∃e,J[b]?=some e∧∃g,E[0]?=some g∧∃c,g=((c:Nat):Int)∧∃i,e.kids[c]?=some i∧1<=E.length∧∃j d,gN i (E.drop 1) a.text j d∧z9 d (qH m J p1 O E a j U) ((ak.mk a.kind false a.text 0)=U)):pN (m+1) J p1 O E a U:=by
 intro K Z;refine gR 1 I<|qDs [1] 14 20<|qDr [(0,2),(1,2)] I I ?_;obtain⟨b,o,h⟩:=h;refine gV 44 (qi ((b:Nat):Int)) I (aI o) I ?_;obtain⟨e,k,h⟩:=h;refine gYd 2 I (by kernel_rfl) (ar (au k) ab I I I I) I I<|qDr (qR 3 3 2 []) I I ?_;obtain⟨g,l,h⟩:=h;refine gYd 6 I (by kernel_rfl) (ar (an (f:=(V.int .i64)) l) ab I I I I) I I<|qDr [(7,2)] I I ?_;obtain⟨c,p,h⟩:=h;refine gV 50 (qi ((c:Nat):Int)) I (aI p) I ?_;obtain⟨i,n,h⟩:=h;refine gYd 8 I (by kernel_rfl) (ar (au n) ab I I I I) I I<|qDr [(9,2),(10,2)] I I ?_;obtain⟨hb,h⟩:=h;refine gYd 11 I (by kernel_rfl) (Ab (az (V.int .i64) E) ab I I (sX I) ta hb (aaf _) ((Cd _ _ _ _).trans (congrArg _ (AI _ _)))) I I<|qDr [(12,0),(13,0)] I I ?_;obtain⟨j,d,q,h⟩:=h;refine bp 14 q (by kernel_rfl) I (by kernel_rfl) I I .rfl I I ?_;refine qDr [(15,1),(16,2),(17,2),(18,1),(19,1)] rfl rfl<|qDe<|gR 6 rfl<|gB 60 rfl rfl rfl ?_ ?_<;>intro G;refine gT 13 I G I ?_;refine gT 59 I G I ?_;replace h:=h.1 G;exact gR 1 I<|qJ Z (h K Z) [0,2];refine gF 13 I G I ?_;refine gF 59 I G I ?_;replace h:=h.2 G;refine gR 11 I ?_;subst h;exact go_sub (F':=(mkF 172 0 [(8,.ptr 0 0)])) (H':=⟨1,[(0,.var 42 (ak.c (ak.mk a.kind false a.text 0)))]⟩) [0] [] I Z pq1 (pqo1 I I) I<|qN [.cell 8 42]
theorem wd(m:Nat)(G:YT)(J:(List YI))(O:Int)(U:YI)(a:Tree)(Z:ak)(h:y5 a.kind 16 (lD m G J O U a true Z)<|lD m G J O U a (a.kind==9) Z):pW (m+1) G J O U a Z:=by
 intro K E;refine gR 7 rfl<|qBeZ 81 82 rfl rfl rfl rfl h ?_ ?_<;>intro h;exact gR 3 I<|qJ E (h K E) [0,1,2];exact gR 6 I<|qJ E (h K E) [0,1,2]
theorem wi(m:Nat)(G:YT)(J:(List YI))(E:Int)(O:YI)(b:Tree)(d:YI)(U:ak)(h:∃c,O[0]?=some c∧([c]++d).length<=1000000000∧∃e,E=((e:Nat):Int)∧∃j,J[e]?=some j∧∃g,E=((g:Nat):Int)∧∃k,G[g]?=some k∧∃n,ch k ([c]++d) n∧∃i,n=((i:Nat):Int)∧∃a,j[i]?=some a∧(ak.mk b.kind false [] a)=U):qH (m+1) G J E O b d U:=by
 intro K Z;refine gR 3 I ?_;obtain⟨c,o,h⟩:=h;refine gY (ar (an (f:=(V.int .i64)) o) ab I I I I) I I<|gR 3 I ?_;obtain⟨hb,h⟩:=h;refine gDo (.repl 2 (.row 3 1 (List.map (V.int .i64) ([c]++d)))) (aX ab I I I I I (aao (f:=(V.int .i64)) (l₁:=[c]) (l₂:=d)).symm (by rw[az];exact hb)) (okR I) I I I<|gR 3 I<|qDs [] 13 16<|qDr [(0,2),(1,2)] I I ?_;obtain⟨e,s,h⟩:=h;refine gV 68 (qi ((e:Nat):Int)) I (aI s) I ?_;obtain⟨j,p,h⟩:=h;refine gYd 2 I (by kernel_rfl) (ar (an (f:=(λl=>V.row 1<|List.map (V.int .i64) l)) p) ab I I I I) I I<|qDr (qR 3 3 2 []) I I ?_;obtain⟨g,t,h⟩:=h;refine gV 72 (qi ((g:Nat):Int)) I (aI t) I ?_;obtain⟨k,q,h⟩:=h;refine gYd 6 I (by kernel_rfl) (ar (au q) ab I I I I) I I<|qDr [(7,2),(8,2),(12,2)] I I<|gFR 3 I (cw _ (λ_=>I) _) I I ?_;obtain⟨n,w,h⟩:=h;refine bp 9 w (by kernel_rfl) I (by kernel_rfl) I I .rfl I I ?_;obtain⟨i,v,h⟩:=h;refine gV 76 (qi ((i:Nat):Int)) I (aI v) I ?_;obtain⟨a,r,h⟩:=h;refine gYd 10 I (by kernel_rfl) (ar (an (f:=(V.int .i64)) r) ab I I I I) I I<|qDr ((11,2)::(qR 13 3 1 [])) I I<|qDe<|gR 9 I ?_;subst h;exact go_sub (F':=(mkF 172 0 [(8,.ptr 0 0)])) (H':=⟨1,[(0,vD ((ak.mk b.kind false [] a).N) (.bool<|(ak.mk b.kind false [] a).Flag) ((ak.mk b.kind false [] a).Text)<|(ak.mk b.kind false [] a).Ref)]⟩) [0] [] I Z pq1 (pqo1 I I) I<|qN [.cell 8 42]
theorem po(m:Nat)(G:YT)(J:(List YI))(O:Int)(Z:YI)(a:Tree)(b:Bool)(U:ak)(h:z9 b (ly m G J O a U)<|ld m G J O Z a U):lD (m+1) G J O Z a b U:=by
 intro K E;refine qBi 81 rfl rfl rfl h ?_ ?_<;>intro h;exact gR 1 I<|qJ E (h K E) [0,1,2];exact gR 1 I<|qJ E (h K E) [0,2]
theorem vJ(m:Nat)(G:YT)(Z:(List YI))(J:Int)(a:Tree)(O:ak)(h:∃c d b,fW G J a.text c d b∧z9 b (qM m G Z J a c d O) ((ak.mk a.kind false a.text 0)=O)):ly (m+1) G Z J a O:=by
 intro K U;refine gR 6 I ?_;obtain⟨c,d,b,e,h⟩:=h;refine qC0 e rfl<|gR 14 rfl<|gB 93 rfl rfl rfl ?_ ?_<;>intro E;refine gT 17 I E I ?_;refine gT 92 I E I ?_;replace h:=h.1 E;exact gR 1 I<|qJ U (h K U) [0,1,2];refine gF 17 I E I ?_;refine gF 92 I E I ?_;replace h:=h.2 E;refine gR 11 I ?_;subst h;exact go_sub (F':=(mkF 172 0 [(8,.ptr 0 0)])) (H':=⟨1,[(0,.var 42 (ak.c (ak.mk a.kind false a.text 0)))]⟩) [0] [] I U pq1 (pqo1 I I) I<|qN [.cell 8 42]
theorem vk(m:Nat)(J:YT)(O:(List YI))(U:Int)(Z:YI)(a:Tree)(E:ak)(h:y5 a.kind 17 (qe m J O U Z a E)<|(ak.mk a.kind false a.text 0)=E):ld (m+1) J O U Z a E:=by
 intro K G;refine gR 6 rfl<|qBeZ 110 111 rfl rfl rfl rfl h ?_ ?_<;>intro h;exact gR 1 I<|qJ G (h K G) [0,1];refine gR 11 I ?_;subst h;exact go_sub (F':=(mkF 172 0 [(8,.ptr 0 0)])) (H':=⟨1,[(0,.var 42 (ak.c (ak.mk a.kind false a.text 0)))]⟩) [0] [] I G pq1 (pqo1 I I) I<|qN [.cell 8 42]
theorem wf(m:Nat)(G:YT)(J:(List YI))(O:Int)(a:Tree)(d e:Int)(E:ak)(h:∃b,lV G J d e b∧y5 d O (∃c,lz a.text c∧(ak.mk a.kind c [] b)=E) ((ak.mk a.kind false [] b)=E)):qM (m+1) G J O a d e E:=by
 intro K U;refine gR 5 I ?_;obtain⟨b,f,h⟩:=h;refine qC0 f rfl<|gR 4 rfl<|qBeZ 102 101 rfl rfl rfl rfl h ?_ ?_<;>intro h;refine gR 2 I ?_;obtain⟨c,g,h⟩:=h;refine qC0 g I<|gR 17 I ?_;subst h;exact go_sub (F':=(mkF 172 0 [(8,.ptr 0 0)])) (H':=⟨1,[(0,vD ((ak.mk a.kind c [] b).N) (.bool ((ak.mk a.kind c [] b).Flag)) ((ak.mk a.kind c [] b).Text) ((ak.mk a.kind c [] b).Ref))]⟩) [0] [] I U pq1 (pqo1 I I) I<|qN [.cell 8 42];refine gR 20 I ?_;subst h;exact go_sub (F':=(mkF 172 0 [(8,.ptr 0 0)])) (H':=⟨1,[(0,vD ((ak.mk a.kind false [] b).N) (.bool ((ak.mk a.kind false [] b).Flag)) ((ak.mk a.kind false [] b).Text) ((ak.mk a.kind false [] b).Ref))]⟩) [0] [] I U pq1 (pqo1 I I) I<|qN [.cell 8 42]
theorem vm(m:Nat)(J:YT)(Z:(List YI))(O:Int)(E:YI)(f:Tree)(r0:ak)(h:∃b,O=((b:Nat):Int)∧∃c,J[b]?=some c∧∃a,((E.length:Int)-1)=((a:Nat):Int)∧a<=E.length∧∃d g,bF c (E.take a) d g∧qy m J Z O E f d r0):qe (m+1) J Z O E f r0:=by
 intro K G;refine gR 1 I<|qDs [] 14 16<|qDr [(0,2),(1,2)] I I ?_;obtain⟨b,l,h⟩:=h;refine gV 114 (qi ((b:Nat):Int)) I (aI l) I ?_;obtain⟨c,e,h⟩:=h;refine gYd 2 I (by kernel_rfl) (ar (au e) ab I I I I) I I<|qDr (qR 3 4 2 []) I I<|gV 119 (qi (E.length:Int)) I (aK (az (V.int .i64) _)) I<|gLB 118 I (az (V.int .i64) _) λo=>qDr [(7,2)] I I<|gV 120 (qi<|(E.length:Int)-1) I (al (by have :=o;omega) I) I ?_;obtain⟨a,n,h⟩:=h;refine gV 120 (qi ((a:Nat):Int)) I (aI n) I ?_;obtain⟨U,h⟩:=h;refine gYd 8 I (by kernel_rfl) (Ab (az (V.int .i64) E) ab I I ta (sX I) (aar _) U<|((Cd _ _ _ _).trans<|congrArg _<|mX _ _)) I I ?_;obtain⟨d,g,k,h⟩:=h;apply ig (i:=9) (j:=13) (by kernel_rfl) rfl rfl rfl rfl;exact(hJ (L':=[]) (by kernel_rfl) I I (sD k .rfl [] I)<|.inl I);exact(gy ab I I);exact qDr (qR 10 3 2 [(13,0),(14,1),(15,1)]) I I<|qDe<|qJ G (h K G) [0,1,2];refine bp 9 k (by kernel_rfl) I (by kernel_rfl) I I .rfl I I ?_;exact qDr [(10,0),(11,2),(12,2),(14,1),(15,1)] I I<|qDe<|qJ G (h K G) [0,1,2]
theorem wb(m:Nat)(G:YT)(U:(List YI))(p2:Int)(J:YI)(k q:Tree)(Z:ak)(h:∃e,((J.length:Int)-1)=((e:Nat):Int)∧∃a,J[e]?=some a∧∃b c g,fW G p2 q.text b c g∧z9 g (∃i,b=((i:Nat):Int)∧∃l,G[i]?=some l∧∃j,c=((j:Nat):Int)∧∃d,l.kids[j]?=some d∧kW m G U k a b c (decide<|a<((d.kids.length:Int)-2)) Z) (kW m G U k a b c false Z)):qy (m+1) G U p2 J k q Z:=by
 intro K O;refine gR 6 I<|gV 127 (qi (J.length:Int)) I (aK (az (V.int .i64) _)) I<|gLB 126 I (az (V.int .i64) _) λv=>gR 1 I<|gV 128 (qi<|(J.length:Int)-1) I (al (by have :=v;omega) I) I ?_;obtain⟨e,r,h⟩:=h;refine gV 128 (qi ((e:Nat):Int)) I (aI r) I ?_;obtain⟨a,n,h⟩:=h;refine gY (ar (an (f:=(V.int .i64)) n) ab I I I I) I I<|gR 10 I ?_;obtain⟨b,c,g,w,h⟩:=h;refine qC0 w rfl<|gR 13 rfl<|gB 141 rfl rfl rfl ?_ ?_<;>intro E;refine gT 23 I E I ?_;refine gT 139 I E I ?_;refine gT 140 I E I ?_;replace h:=h.1 E;refine gR 3 I ?_;obtain⟨i,s,h⟩:=h;refine gV 144 (qi ((i:Nat):Int)) I (aI s) I ?_;obtain⟨l,o,h⟩:=h;refine gY (ar (au o) ab I I I I) I I<|gR 3 I ?_;obtain⟨j,t,h⟩:=h;refine gV 148 (qi ((j:Nat):Int)) I (aI t) I ?_;obtain⟨d,p,h⟩:=h;exact gY (ar (au p) ab I I I I) I I<|gR 3 I<|gV 152 (qi (d.kids.length:Int)) I (aK<|aG _) I<|gLB 151 I (aG _) λx=>gR 1 I<|gV 153 (qi<|(d.kids.length:Int)-2) I (al (by have :=x;omega) I) I<|gR 4 I<|qJ O (h K O) [0,1];refine gF 23 I E I ?_;refine gF 139 I E I ?_;refine gF 140 I E I ?_;replace h:=h.2 E;exact gR 16 I<|qJ O (h K O) [0,1]
theorem kC(m:Nat)(J:YT)(O:(List YI))(a:Tree)(c d e:Int)(b:Bool)(E:ak)(h:z9 b (pn m J O a c d e E)<|(ak.mk a.kind false a.text 0)=E):kW (m+1) J O a c d e b E:=by
 intro K G;refine qBi 155 rfl rfl rfl h ?_ ?_<;>intro h;exact gR 1 I<|qJ G (h K G) [0,1];refine gR 11 I ?_;subst h;exact go_sub (F':=(mkF 172 0 [(8,.ptr 0 0)])) (H':=⟨1,[(0,.var 42 (ak.c (ak.mk a.kind false a.text 0)))]⟩) [0] [] I G pq1 (pqo1 I I) I<|qN [.cell 8 42]
theorem uT(m:Nat)(E:YT)(G:(List YI))(a:Tree)(t k v:Int)(J:ak)(h:∃c,k=((c:Nat):Int)∧∃g,G[c]?=some g∧∃d,k=((d:Nat):Int)∧∃i,E[d]?=some i∧∃j,ch i [v,t] j∧∃e,j=((e:Nat):Int)∧∃b,g[e]?=some b∧(ak.mk a.kind false a.text b)=J):pn (m+1) E G a t k v J:=by
 intro K O;refine qDs [] 15 16<|qDr [(0,2),(1,2)] I I ?_;obtain⟨c,q,h⟩:=h;refine gV 157 (qi ((c:Nat):Int)) I (aI q) I ?_;obtain⟨g,n,h⟩:=h;refine gYd 2 I (by kernel_rfl) (ar (an (f:=(λl=>V.row 1<|List.map (V.int .i64) l)) n) ab I I I I) I I<|qDr (qR 3 3 2 []) I I ?_;obtain⟨d,r,h⟩:=h;refine gV 161 (qi ((d:Nat):Int)) I (aI r) I ?_;obtain⟨i,o,h⟩:=h;refine gYd 6 I (by kernel_rfl) (ar (au o) ab I I I I) I I<|qDr [(7,2),(8,2),(9,0),(10,0)] I I<|gFR 2 I I I I ?_;obtain⟨j,w,h⟩:=h;refine bp 11 w (by kernel_rfl) I (by kernel_rfl) I I .rfl I I ?_;obtain⟨e,s,h⟩:=h;refine gV 167 (qi ((e:Nat):Int)) I (aI s) I ?_;obtain⟨b,p,h⟩:=h;refine cc 12 I (by kernel_rfl) (ar (an (f:=(V.int .i64)) p) ab I I I I) I I ?_;refine qDr [(13,0),(14,0),(15,1)] I I<|qDe<|gR 9 I ?_;subst h;exact go_sub (F':=(mkF 172 0 [(8,.ptr 0 0)])) (H':=⟨1,[(0,.var 42<|ak.c<|ak.mk a.kind false a.text b)]⟩) [0] [] I O pq1 (pqo1 I I) I<|qN [.cell 8 42]
theorem vL(m:Nat)(E G:Int)(h:((E=1)->1=G)∧((E≠1)->((E=2)->2=G)∧((E≠2)->((E=3)->3=G)∧((E≠3)->((E=4)->4=G)∧((E≠4)->5=G))))):kZ E G:=by
 refine⟨I,I,?_⟩;refine qA 12 [] func64 λK J=>?_;refine gR 18 rfl<|qBeZ 4 5 rfl rfl rfl rfl h ?_ ?_<;>intro h;refine gR 9 I ?_;subst h;exact qN [.tmp 2];refine gR 7 rfl<|qBeZ 6 7 rfl rfl rfl rfl h ?_ ?_<;>intro h;refine gR 9 I ?_;subst h;exact qN [.tmp 2];refine gR 7 rfl<|qBeZ 8 9 rfl rfl rfl rfl h ?_ ?_<;>intro h;refine gR 9 I ?_;subst h;exact qN [.tmp 2];refine gR 7 rfl<|qBeZ 10 11 rfl rfl rfl rfl h ?_ ?_<;>intro h;refine gR 9 I ?_;subst h;exact qN [.tmp 2];refine gR 10 I ?_;subst h;exact qN [.tmp 2]
def iG(m:Nat)(E:Tree)(G:Int)(a:Bool)(J O:Int):Prop:=z6 [] f32 (z3<|.tup [qi J,qi O]) (cB<|xE<|xA<|ac f32) [.blk 0,.seq<|xH<|ac f32] 33 [(1,qi G),(6,qi (E.kids.length:Int)),(11,qi E.kind),(12,.bool a)] ⟨0,[]⟩
theorem ya(m:Nat)(E:Tree)(J O U:Int)(h:((E.kind=1)->iG m E J true O U)∧((E.kind≠1)->((E.kind=16)->iG m E J true O U)∧((E.kind≠16)->iG m E J (E.kind==18) O U))):iW E J O U:=by
 refine⟨I,I,?_⟩;refine qA 33 [] func32 λK G=>?_;refine gR 3 rfl<|gFP 0 rfl rfl rfl rfl<|gR 9 rfl<|gV 9 (qi (E.kids.length:Int)) rfl (aK<|aG _) rfl<|gLB 8 rfl (aG _) λa=>gR 18 rfl<|qBeZ 12 13 rfl rfl rfl rfl h ?_ ?_<;>intro h;exact gR 3 I<|qJ G (h K G) [];refine gR 7 rfl<|qBeZ 12 14 rfl rfl rfl rfl h ?_ ?_<;>intro h;exact gR 3 I<|qJ G (h K G) [];exact gR 6 I<|qJ G (h K G) []
theorem ll(m:Nat)(E:Tree)(G:Int)(a:Bool)(J O:Int)(h:z9 a (0=J∧(E.kids.length:Int)=O)<|y5 E.kind 2 (InI ((E.kids.length:Int)-2)∧z8 (G<((E.kids.length:Int)-2)) (InI ((E.kids.length:Int)-2)∧0=J∧((E.kids.length:Int)-2)=O) (InI ((E.kids.length:Int)-3)∧InI (G-((E.kids.length:Int)-3))∧InI ((E.kids.length:Int)-2)∧(G-((E.kids.length:Int)-3))=J∧((E.kids.length:Int)-2)=O))<|InI (G+1)∧(G+1)=J∧0=O):iG (m+1) E G a J O:=by
 intro K U;refine qBi 12 rfl rfl rfl h ?_ ?_<;>intro h;refine gR 11 I ?_;obtain⟨rfl,rfl⟩:=h;exact qN [.tmp 4,.tmp 5];refine gR 7 rfl<|qBeZ 17 18 rfl rfl rfl rfl h ?_ ?_<;>intro h;refine gR 6 I ?_;obtain⟨hb,h⟩:=h;refine gR 1 rfl<|gV 21 (qi ((E.kids.length:Int)-2)) rfl (al hb rfl) rfl<|gR 3 rfl<|qBd 22 rfl rfl rfl h ?_ ?_<;>intro h;refine gR 4 I ?_;obtain⟨hb,h⟩:=h;refine gR 1 I<|gV 24 (qi ((E.kids.length:Int)-2)) I (al hb I) I<|gR 8 I ?_;obtain⟨rfl,rfl⟩:=h;exact qN [.tmp 4,.tmp 5];refine gR 7 I ?_;obtain⟨hb,h⟩:=h;refine gR 1 I<|gV 27 (qi ((E.kids.length:Int)-3)) I (al hb I) I ?_;obtain⟨hb,h⟩:=h;refine gR 1 I<|gV 28 (qi (G-((E.kids.length:Int)-3))) I (al hb I) I<|gR 1 I ?_;obtain⟨hb,h⟩:=h;refine gR 1 I<|gV 30 (qi ((E.kids.length:Int)-2)) I (al hb I) I<|gR 7 I ?_;obtain⟨rfl,rfl⟩:=h;exact qN [.tmp 4,.tmp 5];refine gR 7 I ?_;obtain⟨hb,h⟩:=h;refine gR 1 I<|gV 32 (qi (G+1)) I (al hb I) I<|gR 5 I ?_;obtain⟨rfl,rfl⟩:=h;exact qN [.tmp 4,.tmp 5]
def dx(m:Nat)(E:YT)(G:(List YI))(J:Int)(O:YI)(c:Tree)(a b:Int)(d U:List ai):Prop:=z6 [] f34 (z3<|.row 6<|List.map ai.w U) (xF<|xA<|ac f34) [] 150 [(0,.row 4<|kidsV E),(1,.row 1<|List.map (λl=>V.row 1<|List.map (V.int .i64) l) G),(2,qi J),(3,.row 1<|List.map (V.int .i64) O),(11,.ptr 0 0),(13,qi a),(14,qi b),(15,.sl 1)] ⟨2,[(1,.row 44 6<|List.map ai.w d),(0,.var 26<|am c)]⟩
def qm(m:Nat)(E:YT)(G:(List YI))(J:Int)(O:YI)(U:YB)(c:Tree)(a b:Int)(Z:List ai):Prop:=z6 [] f34 (z3<|.row 6<|List.map ai.w Z) (xB<|cA<|xF<|cB<|ac f34) [.seq<|xF<|xA<|ac f34] 150 [(0,.row 4<|kidsV E),(1,.row 1<|List.map (λl=>V.row 1<|List.map (V.int .i64) l) G),(2,qi J),(3,.row 1<|List.map (V.int .i64) O),(4,.str U),(11,.ptr 0 0),(13,qi a),(14,qi b),(15,.sl 1)] ⟨2,[(1,.row 44 6 [.agg [qi a,qi 1,qi b,.bool false,.str [],qi 0]]),(0,.var 26<|am c)]⟩
def du(m:Nat)(b:Tree)(a:Int)(c:List ai)(d:Nat)(E:List ai):Prop:=z5 m [] f34 (z3<|.row 6<|List.map ai.w E) (xK<|xH<|ac f34) [.blk 0,.seq<|xF<|xF<|ac f34] 150 [(11,.ptr 0 0),(13,qi a),(15,.sl 1),(22,qi (d:Int))] ⟨2,[(1,.row 44 6<|List.map ai.w c),(0,.var 26<|am b)]⟩
def qF(m:Nat)(E:YT)(G:(List YI))(J:Int)(O:YI)(U:YB)(e:Tree)(a b c d:Int)(Z:List ai):Prop:=z7 [] f34 (z3<|.row 6<|List.map ai.w Z) [.seq<|xF<|xB<|cA<|xF<|cB<|ac f34,.seq<|xF<|xA<|ac f34] 150 [(0,.row 4<|kidsV E),(1,.row 1<|List.map (λl=>V.row 1<|List.map (V.int .i64) l) G),(2,qi J),(3,.row 1<|List.map (V.int .i64) O),(4,.str U),(11,.ptr 0 0),(13,qi a),(14,qi b),(15,.sl 1),(19,qi c),(21,.ptr 2 0)] ⟨3,[(2,vD c (.bool false) [] d),(1,.row 44 6 [.agg [qi a,qi 1,qi b,.bool false,.str [],qi 0]]),(0,.var 26<|am e)]⟩
theorem qB(m:Nat)(G:YT)(O:(List YI))(E:Int)(J:YI)(p4:YB)(Z:List ai)(h:∃e,E=((e:Nat):Int)∧∃j,G[e]?=some j∧∃d v,bF j J d v∧∃g,E=((g:Nat):Int)∧∃k,O[g]?=some k∧∃i,E=((i:Nat):Int)∧∃n,G[i]?=some n∧∃o,ch n J o∧∃c,o=((c:Nat):Int)∧∃a,k[c]?=some a∧∃b,kZ d.kind b∧((b=1)->([(ai.mk a 1<|ak.mk b false [] 0)]++[(ai.mk a 2<|ak.mk 1 false [] 0)]).length<=1000000000∧dx m G O E J d a b ([(ai.mk a 1<|ak.mk b false [] 0)]++[(ai.mk a 2<|ak.mk 1 false [] 0)]) Z)∧((b≠1)->qm m G O E J p4 d a b Z)):ff G O E J p4 Z:=by
 refine⟨I,I,?_⟩;refine qA 150 [] func34 λK U=>?_;refine gR 9 I ?_;obtain⟨e,x,h⟩:=h;refine gV 25 (qi ((e:Nat):Int)) I (aI x) I ?_;obtain⟨j,q,h⟩:=h;refine gY (ar (au q) ab I I I I) I I<|gR 2 I ?_;obtain⟨d,v,α,h⟩:=h;refine qC0 α I<|gR 9 I<|qDs [] 13 13<|qDr [(0,2),(1,2)] I I ?_;obtain⟨g,y,h⟩:=h;refine gV 33 (qi ((g:Nat):Int)) I (aI y) I ?_;obtain⟨k,r,h⟩:=h;refine gYd 2 I (by kernel_rfl) (ar (an (f:=(λl=>V.row 1<|List.map (V.int .i64) l)) r) ab I I I I) I I<|qDr (qR 3 3 2 []) I I ?_;obtain⟨i,z,h⟩:=h;refine gV 37 (qi ((i:Nat):Int)) I (aI z) I ?_;obtain⟨n,s,h⟩:=h;refine gYd 6 I (by kernel_rfl) (ar (au s) ab I I I I) I I<|qDr [(7,2),(8,0)] I I ?_;obtain⟨o,β,h⟩:=h;refine bp 9 β (by kernel_rfl) I (by kernel_rfl) I I .rfl I I ?_;obtain⟨c,t,h⟩:=h;refine gV 41 (qi ((c:Nat):Int)) I (aI t) I ?_;obtain⟨a,p,h⟩:=h;refine cc 10 I (by kernel_rfl) (ar (an (f:=(V.int .i64)) p) ab I I I I) I I ?_;refine qDr [(11,0),(12,0)] I I<|qDe<|gR 5 I ?_;obtain⟨b,γ,h⟩:=h;refine qC0 γ rfl<|gR 20 rfl<|qBe 53 rfl rfl rfl h ?_ ?_<;>intro h;refine gR 7 I ?_;obtain⟨hb,h⟩:=h;exact gDo (.repl 1<|.row 44 6<|List.map ai.w<|[(ai.mk a 1<|ak.mk b false [] 0)]++[(ai.mk a 2<|ak.mk 1 false [] 0)]) (aX ab I I I I I (apM ai.w [(ai.mk a 1<|ak.mk b false [] 0)]<|ai.mk a 2<|ak.mk 1 false [] 0) (by rw[az];exact hb)) (okR I) I I I<|gR 3 I<|qJ U (h K U) [0,3];exact gR 1 I<|qJ U (h K U) [0,1]
theorem pE(m:Nat)(p0:YT)(p1:(List YI))(p2:Int)(p3:YI)(c:Tree)(a e:Int)(b r0:List ai)(h:y5 e 5 (∃d,ma p0 p1 p2 p3 d∧(b++[(ai.mk a 4 d)]).length<=1000000000∧du m c a (b++[(ai.mk a 4 d)]) 0 r0)<|(b++[(ai.mk a 3<|ak.mk 0 false c.text 0)]).length<=1000000000∧du m c a (b++[(ai.mk a 3<|ak.mk 0 false c.text 0)]) 0 r0):dx (m+1) p0 p1 p2 p3 c a e b r0:=by
 intro K hK;refine gR 7 rfl<|qXe 110 rfl rfl rfl h ?_ ?_<;>intro hd h;refine gR 8 I ?_;obtain⟨d,f,h⟩:=h;refine qC0 f I<|gR 2 I ?_;obtain⟨hb,h⟩:=h;exact gDo (.repl 1 (.row 44 6 (List.map ai.w (b++[(ai.mk a 4 d)])))) (aX ab I I I I I (apM ai.w b (ai.mk a 4 d)) (by rw[az];exact hb)) (okR I) I I I<|gR 10 I<|go_loop m<|qW hK h [0,3];refine gR 9 I ?_;obtain⟨hb,h⟩:=h;exact gDo (.repl 1 (.row 44 6 (List.map ai.w (b++[(ai.mk a 3 (ak.mk 0 false c.text 0))])))) (aX ab I I I I I (apM ai.w b (ai.mk a 3 (ak.mk 0 false c.text 0))) (by rw[az];exact hb)) (okR I) I I I<|gR 10 I<|go_loop m<|qW hK h [0,3]
theorem vg(m:Nat)(J:YT)(U:(List YI))(G:Int)(E:YI)(p4:YB)(ζ:Tree)(s t:Int)(r0:List ai)(h:∃c,((E.length:Int)-1)=((c:Nat):Int)∧c<=E.length∧∃q,G=((q:Nat):Int)∧∃v,J[q]?=some v∧∃w η,bF v (E.take c) w η∧∃r,((E.length:Int)-1)=((r:Nat):Int)∧∃x,E[r]?=some x∧∃y θ,iW w x y θ∧∃d,G=((d:Nat):Int)∧∃n,U[d]?=some n∧∃e,G=((e:Nat):Int)∧∃o,J[e]?=some o∧∃p,ch o (E.take c) p∧∃a,p=((a:Nat):Int)∧∃g,n[a]?=some g∧qF m J U G E p4 ζ s t y g r0):qm (m+1) J U G E p4 ζ s t r0:=by
 intro K O;refine gR 5 I<|gV 62 (qi (E.length:Int)) I (aK (az (V.int .i64) _)) I<|gLB 61 I (az (V.int .i64) _) λι=>gR 1 I<|gV 63 (qi<|(E.length:Int)-1) I (al (by have :=ι;omega) I) I ?_;obtain⟨c,μ,h⟩:=h;refine gV 63 (qi ((c:Nat):Int)) I (aI μ) I ?_;obtain⟨Z,h⟩:=h;refine gY (Ab (az (V.int .i64) E) ab I I ta (sX I) (aar _) Z<|((Cd _ _ _ _).trans<|congrArg _<|mX _ _)) I I<|gR 7 I ?_;obtain⟨q,ν,h⟩:=h;refine gV 67 (qi ((q:Nat):Int)) I (aI ν) I ?_;obtain⟨v,β,h⟩:=h;refine gY (ar (au β) ab I I I I) I I<|gR 2 I ?_;obtain⟨w,η,ο,h⟩:=h;refine qC0 ο I<|gR 9 I<|qDs [2] 7 13<|qDr [(0,3),(1,2),(2,0),(3,0)] I I<|gV 78 (qi (E.length:Int)) I (aK<|az (V.int .i64) _) I<|qDr [(4,0)] I I<|gV 79 (qi<|(E.length:Int)-1) I (al (by have :=ι;omega) I) I ?_;obtain⟨r,ξ,h⟩:=h;refine gV 79 (qi ((r:Nat):Int)) I (aI ξ) I ?_;obtain⟨x,γ,h⟩:=h;refine cc 5 I (by kernel_rfl) (ar (an (f:=(V.int .i64)) γ) ab I I I I) I I ?_;refine qDr [(6,0)] I I ?_;obtain⟨y,θ,π,h⟩:=h;refine bp 7 π (by kernel_rfl) I (by kernel_rfl) I I .rfl I I ?_;refine qDr [(8,1),(9,2),(10,2),(11,1),(12,1)] I I<|qDe<|gR 2 I<|qDs [] 15 16<|qDr [(0,2),(1,2)] I I ?_;obtain⟨d,δ,h⟩:=h;refine gV 86 (qi ((d:Nat):Int)) I (aI δ) I ?_;obtain⟨n,z,h⟩:=h;refine gYd 2 I (by kernel_rfl) (ar (an (f:=(λl=>V.row 1<|List.map (V.int .i64) l)) z) ab I I I I) I I<|qDr (qR 3 3 2 []) I I ?_;obtain⟨e,ε,h⟩:=h;refine gV 90 (qi ((e:Nat):Int)) I (aI ε) I ?_;obtain⟨o,α,h⟩:=h;refine gYd 6 I (by kernel_rfl) (ar (au α) ab I I I I) I I<|qDr [(7,2),(8,2),(12,2)] I I ?_;obtain⟨p,κ,h⟩:=h;apply ig (i:=9) (j:=14) (by kernel_rfl) rfl rfl rfl rfl;exact(hJ (L':=[]) (by kernel_rfl) I I (sD κ .rfl [] I)<|.inl I);exact(gy ab I I);obtain⟨a,k,h⟩:=h;refine gV 94 (qi ((a:Nat):Int)) I (aI k) I ?_;obtain⟨g,b,h⟩:=h;exact gYd 10 I (by kernel_rfl) (ar (an (f:=(V.int .i64)) b) ab I I I I) I I<|qDr [(11,2),(13,2),(14,0),(15,1)] I I<|qDe<|qJ O (h K O) [0,1,3];refine bp 9 κ (by kernel_rfl) I (by kernel_rfl) I I .rfl I I ?_;obtain⟨a,k,h⟩:=h;refine gV 94 (qi ((a:Nat):Int)) I (aI k) I ?_;obtain⟨g,b,h⟩:=h;refine cc 10 I (by kernel_rfl) (ar (an (f:=(V.int .i64)) b) ab I I I I) I I ?_;exact qDr [(11,0),(13,0),(15,1)] I I<|qDe<|qJ O (h K O) [0,1,3]
theorem gf(m:Nat)(c:Tree)(b:Int)(d:List ai)(a:Nat)(E:List ai)(h:z8 (a<c.leads.length) (8+a<=9223372036854775807∧∃e,c.leads[a]?=some e∧(d++[(ai.mk b ((8+a:Nat):Int)<|ak.mk 0 false e 0)]).length<=1000000000∧du m c b (d++[(ai.mk b ((8+a:Nat):Int)<|ak.mk 0 false e 0)]) (a+1) E)<|d=E):du (m+1) c b d a E:=by
 refine qj λK J G j=>?_;refine gR 7 rfl<|gV 132 (qi (c.leads.length:Int)) rfl (aK<|az V.str _) rfl<|gLB 131 rfl (az V.str _) λi=>gR 3 rfl<|qXh 133 rfl rfl rfl h bx bw ?_ ?_<;>intro O h;refine gR 9 I ?_;obtain⟨hb,h⟩:=h;refine gR 1 I<|gV 139 (qi ((8+a:Nat):Int)) I (al (by omega)<|by omega) I<|gR 3 I ?_;obtain⟨e,g,h⟩:=h;refine gY (ar (an (f:=V.str) g) ab I I I I) I I<|gR 4 I ?_;obtain⟨hb,h⟩:=h;exact gDo (.repl 1<|.row 44 6<|List.map ai.w<|d++[(ai.mk b ((8+a:Nat):Int)<|ak.mk 0 false e 0)]) (aX ab I I I I I (apM ai.w d<|ai.mk b ((8+a:Nat):Int)<|ak.mk 0 false e 0) (by rw[az];exact hb)) (okR I) I I I<|gR 7 I<|gV 135 (qi ((a+1:Nat):Int)) I (al (by have :=i;omega)<|by omega) I<|gR 2 I<|go_xloop<|qW G h [0,3];refine gR 3 I<|go_xloopE<|gR 9 I<|gFR 1 I (cw _ (λ_=>I) _) I I ?_;subst h;exact qN [.tmp 10]
theorem vn(m:Nat)(J:YT)(O:(List YI))(U:Int)(Z:YI)(E:YB)(e:Tree)(a b d c:Int)(r0:List ai)(h:y5 d 0 (([(ai.mk a 1<|ak.mk b false [] 0)]++[(ai.mk a 2<|ak.mk d false E c)]).length<=1000000000∧dx m J O U Z e a b ([(ai.mk a 1<|ak.mk b false [] 0)]++[(ai.mk a 2<|ak.mk d false E c)]) r0)<|([(ai.mk a 1<|ak.mk b false [] 0)]++[(ai.mk a 2<|ak.mk d false [] c)]).length<=1000000000∧dx m J O U Z e a b ([(ai.mk a 1<|ak.mk b false [] 0)]++[(ai.mk a 2<|ak.mk d false [] c)]) r0):qF (m+1) J O U Z E e a b d c r0:=by
 intro K G;refine gR 8 rfl<|qBe 100 rfl rfl rfl h ?_ ?_<;>intro h;refine gR 13 I ?_;obtain⟨hb,h⟩:=h;exact gDo (.repl 1 (.row 44 6 (List.map ai.w ([(ai.mk a 1 (ak.mk b false [] 0))]++[(ai.mk a 2 (ak.mk d false E c))])))) (aX ab I I I I I (apM ai.w [(ai.mk a 1 (ak.mk b false [] 0))] (ai.mk a 2 (ak.mk d false E c))) (by rw[az];exact hb)) (okR I) I I I<|gR 3 I<|qJ G (h K G) [0,4];refine gR 9 I ?_;obtain⟨hb,h⟩:=h;exact gDo (.repl 1 (.row 44 6 (List.map ai.w ([(ai.mk a 1 (ak.mk b false [] 0))]++[(ai.mk a 2 (ak.mk d false [] c))])))) (aX ab I I I I I (apM ai.w [(ai.mk a 1 (ak.mk b false [] 0))] (ai.mk a 2 (ak.mk d false [] c))) (by rw[az];exact hb)) (okR I) I I I<|gR 3 I<|qJ G (h K G) [0,4]
def iD(m:Nat)(E:YT)(G:Int)(a:(List YI))(b d:Nat)(J:aL)(O U:Int):Prop:=z5 m [] f10 (z3<|.tup [.agg<|aL.c J,qi O,qi U]) (xK<|ac f10) [.blk 0,.seq<|xF<|cB<|ac f10] 152 [(0,.row 4<|kidsV E),(1,qi G),(4,.ptr 0 0),(7,.sl 1),(8,qi (d:Int)),(9,qi (b:Int))] ⟨2,[(1,.row 36 1<|List.map (λl=>V.row 1<|List.map (V.int .i64) l) a),(0,.var 30 [.nils])]⟩
def iE(m:Nat)(J:YT)(O:Int)(a:Nat)(b:YI)(d:Int)(e:(List YI))(f:Nat)(U:aL)(Z r2:Int):Prop:=∀(K:Ctx) (E G:Nat),aw K []->m<=E->m<=G->qLG K f10 (z3<|.tup [.agg<|aL.c U,qi Z,qi r2]) (xI<|cB<|xN<|cB<|xK<|ac f10) [.loop (xI<|cB<|xN<|cB<|xK<|ac f10) E,.blk 2,.seq<|xA<|xN<|cB<|xK<|ac f10,.blk 1,.seq<|xA<|xK<|ac f10,.loop (xK<|ac f10) G,.blk 0,.seq<|xF<|cB<|ac f10] 152 (mkF 152 0 [(0,.row 4<|kidsV J),(1,qi O),(4,.ptr 0 0),(7,.sl 1),(8,qi (a:Int)),(9,qi (f:Int)),(10,.sl 2),(11,qi d)]) ⟨3,[(2,.row 3 1<|List.map (V.int .i64) b),(1,.row 36 1<|List.map (λl=>V.row 1<|List.map (V.int .i64) l) e),(0,.var 30 [.nils])]⟩
def iz(m:Nat)(E:YT)(G:Int)(a:Nat)(b:List ai)(d:Nat)(e:(List YI))(J:aL)(O U:Int):Prop:=z5 m [] f10 (z3<|.tup [.agg<|aL.c J,qi O,qi U]) (xK<|xA<|ac f10) [.blk 4,.seq<|xF<|xH<|ac f10] 152 [(0,.row 4<|kidsV E),(1,qi G),(4,.ptr 0 0),(7,.row 1<|List.map (λl=>V.row 1<|List.map (V.int .i64) l) e),(8,qi (d:Int)),(14,.sl 1),(15,qi (a:Int))] ⟨2,[(1,.row 44 6<|List.map ai.w b),(0,.var 30 [.nils])]⟩
def dH(m:Nat)(J:YT)(O:Int)(a:(List YI))(b:List ai)(d e:Nat)(f:(List YI))(g:Nat)(U:aL)(Z r2:Int):Prop:=∀(K:Ctx) (E G:Nat),aw K []->m<=E->m<=G->qLG K f10 (z3<|.tup [.agg<|aL.c U,qi Z,qi r2]) (cL<|xL<|xN<|cB<|xK<|xA<|ac f10) [.loop (cL<|xL<|xN<|cB<|xK<|xA<|ac f10) E,.blk 6,.blk 5,.seq<|xA<|xK<|xA<|ac f10,.loop (xK<|xA<|ac f10) G,.blk 4,.seq<|xF<|xH<|ac f10] 152 (mkF 152 0 [(0,.row 4<|kidsV J),(1,qi O),(4,.ptr 0 0),(7,.row 1<|List.map (λl=>V.row 1<|List.map (V.int .i64) l) f),(8,qi (g:Int)),(14,.sl 1),(15,qi (e:Int)),(16,.row 1<|List.map (λl=>V.row 1<|List.map (V.int .i64) l) a),(17,qi (d:Int))]) ⟨2,[(1,.row 44 6<|List.map ai.w b),(0,.var 30 [.nils])]⟩
def rf(m:Nat)(J:YT)(O:Int)(a:(List YI))(b:List ai)(d e:Nat)(f:(List YI))(g:Nat)(U:aL)(Z r2:Int):Prop:=∀(K:Ctx) (E G:Nat),aw K []->m<=E->m<=G->qLG K f10 (z3<|.tup [.agg<|aL.c U,qi Z,qi r2]) (xJ<|cA<|cB<|xN<|cB<|cL<|xL<|xN<|cB<|xK<|xA<|ac f10) [.seq<|xA<|xN<|cB<|cL<|xL<|xN<|cB<|xK<|xA<|ac f10,.blk 7,.seq<|xA<|cL<|xL<|xN<|cB<|xK<|xA<|ac f10,.loop (cL<|xL<|xN<|cB<|xK<|xA<|ac f10) E,.blk 6,.blk 5,.seq<|xA<|xK<|xA<|ac f10,.loop (xK<|xA<|ac f10) G,.blk 4,.seq<|xF<|xH<|ac f10] 152 (mkF 152 0 [(0,.row 4<|kidsV J),(1,qi O),(4,.ptr 0 0),(7,.row 1<|List.map (λl=>V.row 1<|List.map (V.int .i64) l) f),(8,qi (g:Int)),(14,.sl 1),(15,qi (d:Int)),(16,.row 1<|List.map (λl=>V.row 1<|List.map (V.int .i64) l) a),(17,qi (e:Int)),(18,.str [])]) ⟨2,[(1,.row 44 6<|List.map ai.w b),(0,.var 30 [.nils])]⟩
def rh(m:Nat)(J:YT)(O:Int)(a:(List YI))(b:Int)(d:Tree)(e:List ai)(f g:Nat)(i:(List YI))(j:Nat)(U:aL)(Z r2:Int):Prop:=∀(K:Ctx) (E G:Nat),aw K []->m<=E->m<=G->Go prog K (bodyPost prog f10<|SP K<|z3<|.tup [.agg<|aL.c U,qi Z,qi r2]) (.ex .normal) [.seq<|xA<|xJ<|cA<|cB<|xN<|cB<|cL<|xL<|xN<|cB<|xK<|xA<|ac f10,.seq<|xA<|xN<|cB<|cL<|xL<|xN<|cB<|xK<|xA<|ac f10,.blk 7,.seq<|xA<|cL<|xL<|xN<|cB<|xK<|xA<|ac f10,.loop (cL<|xL<|xN<|cB<|xK<|xA<|ac f10) E,.blk 6,.blk 5,.seq<|xA<|xK<|xA<|ac f10,.loop (xK<|xA<|ac f10) G,.blk 4,.seq<|xF<|xH<|ac f10] 152 (mkF 152 0 [(0,.row 4<|kidsV J),(1,qi O),(4,.ptr 0 0),(7,.row 1<|List.map (λl=>V.row 1<|List.map (V.int .i64) l) i),(8,qi (j:Int)),(14,.sl 1),(15,qi (f:Int)),(16,.row 1<|List.map (λl=>V.row 1<|List.map (V.int .i64) l) a),(17,qi (g:Int)),(18,.str []),(19,qi b),(20,.ptr 2 0)]) ⟨3,[(2,.var 26<|am d),(1,.row 44 6<|List.map ai.w e),(0,.var 30 [.nils])]⟩
theorem lU(m:Nat)(p0:YT)(p1:Int)(r0:aL)(r1 r2:Int)(h:∃a,iv p0 a∧((a=false)->(aL.mk [])=r0∧0=r1∧5=r2)∧((a=true)->∃b,iK p1 b∧((b=false)->(aL.mk [])=r0∧0=r1∧5=r2)∧((b=true)->iD m p0 p1 ([]:List YI) 0 0 r0 r1 r2))):fR p0 p1 r0 r1 r2:=by
 refine⟨I,I,?_⟩;refine qA 152 [] func10 λK hK=>?_;refine gR 11 I ?_;obtain⟨a,c,h⟩:=h;refine qC0 c rfl<|gR 2 rfl<|qXhZ 27 26 rfl rfl rfl rfl h bI bJ ?_ ?_<;>intro hd h;refine gR 17 I ?_;obtain⟨rfl,rfl,rfl⟩:=h;exact go_sub (F':=(mkF 152 0 [(4,.ptr 0 0),(5,qi 0),(6,qi 5)])) (H':=⟨1,[(0,.var 30 [.row 6<|List.map ai.w<|(aL.mk []).Cells])]⟩) [0] [] I hK pq3 ⟨⟨_,I,I,(.cons (.nil 6) .nil)⟩,trivial⟩ I<|qN [.cell 4 30,.tmp 5,.tmp 6];refine gR 1 I ?_;obtain⟨b,d,h⟩:=h;refine qC0 d rfl<|gR 4 rfl<|qXh 31 rfl rfl rfl h bI bJ ?_ ?_<;>intro hd h;refine gR 11 I ?_;obtain⟨rfl,rfl,rfl⟩:=h;exact go_sub (F':=(mkF 152 0 [(4,.ptr 0 0),(5,qi 0),(6,qi 5)])) (H':=⟨1,[(0,.var 30 [.row 6<|List.map ai.w<|(aL.mk []).Cells])]⟩) [0] [] I hK pq3 ⟨⟨_,I,I,(.cons (.nil 6) .nil)⟩,trivial⟩ I<|qN [.cell 4 30,.tmp 5,.tmp 6];exact gR 20 I<|go_loop m<|gNS 7 36 1 I I I I<|qW hK h [0,1]
theorem pQ(m:Nat)(p0:YT)(p1:Int)(b:(List YI))(a c:Nat)(r0:aL)(r1 r2:Int)(h:z8 (a<p0.length) (∃d,p0[a]?=some d∧∃e,dX d e∧iE m p0 p1 c ([]:YI) e b a r0 r1 r2)<|iz m p0 p1 0 ([]:List ai) c b r0 r1 r2):iD (m+1) p0 p1 b a c r0 r1 r2:=by
 refine qj λK j1 hK j=>?_;refine gR 6 rfl<|gV 35 (qi (p0.length:Int)) rfl (aK<|aG _) rfl<|gLB 34 rfl (aG _) λi=>gR 3 rfl<|qXh 36 rfl rfl rfl h bx bw ?_ ?_<;>intro hd h;refine gR 15 I ?_;obtain⟨d,f,h⟩:=h;refine gY (ar (au f) ab I I I I) I I<|gR 1 I ?_;obtain⟨e,g,h⟩:=h;exact qC0 g I<|gR 4 I<|go_loop m<|gNS 10 3 1 I I I I<|qJ hK (h K _ _ hK (by omega)<|by omega) [0,1,2];exact gR 3 I<|go_xloopE<|gR 14 I<|go_loop m<|gFR 1 I (cw _ (λ_=>I) _) I I<|gNS 14 44 6 I I I I<|qW hK h [0,2]
theorem lx(m:Nat)(Z:YT)(E:Int)(b:Nat)(a:YI)(c:Int)(d:(List YI))(g:Nat)(G:aL)(J O:Int)(h:z8 (0<c) (b+1<=9223372036854775807∧∃e f,mN E ((b+1:Nat):Int) e f∧y6 f 0 ((aL.mk [])=G∧0=J∧f=O) ((a++[e]).length<=1000000000∧InI (c-1)∧iE m Z E (b+1) (a++[e]) (c-1) d g G J O))<|(d++[a]).length<=1000000000∧g+1<=9223372036854775807∧iD m Z E (d++[a]) (g+1) b G J O):iE (m+1) Z E b a c d g G J O:=by
 intro K j1 j2 U k n;obtain⟨j1,rfl⟩:∃j,j1=j+1:=⟨j1-1,by omega⟩;obtain⟨j2,rfl⟩:∃j,j2=j+1:=⟨j2-1,by omega⟩;refine gR 7 rfl<|qXd 45 rfl rfl rfl h ?_ ?_<;>intro hd h;refine gR 8 I ?_;obtain⟨hb,h⟩:=h;refine gR 1 I<|gV 49 (qi ((b+1:Nat):Int)) I (al (by omega) (by omega)) I<|gR 7 I ?_;obtain⟨e,f,i,h⟩:=h;refine qC0 i rfl<|gR 14 rfl<|qXh 57 rfl rfl rfl h iS eY ?_ ?_<;>intro hd h;refine gR 14 I<|go_xloopR<|gR 4 I<|go_xloopR<|gR 2 I ?_;obtain⟨rfl,rfl,rfl⟩:=h;exact go_sub (F':=(mkF 152 0 [(4,.ptr 0 0),(5,qi 0),(6,qi f)])) (H':=⟨1,[(0,.var 30 [.row 6 (List.map ai.w ((aL.mk []).Cells))])]⟩) [0] [] I U pq3 ⟨⟨_,I,I,(.cons (.nil 6) .nil)⟩,trivial⟩ I<|qN [.cell 4 30,.tmp 5,.tmp 6];refine gR 7 I ?_;obtain⟨hb,h⟩:=h;refine gDo (.repl 2 (.row 3 1 (List.map (V.int .i64) (a++[e])))) (aX ab I I I I I (apM (V.int .i64) a e) (by rw[az];exact hb)) (okR I) I I I<|gR 6 I ?_;obtain⟨hb,h⟩:=h;exact gR 1 I<|gV 47 (qi (c-1)) I (al hb I) I<|gR 2 I<|go_xloop<|qJ U (h K _ _ U (by omega) (by omega)) [0,1,4];refine gR 3 I<|go_xloopE<|gR 5 I<|gFR 2 I (cw _ (λ_=>I) _) I I<|gR 1 I ?_;obtain⟨hb,h⟩:=h;refine gDo (.repl 1<|.row 36 1<|List.map (λl=>V.row 1<|List.map (V.int .i64) l)<|d++[a]) (aX ab I I I I I (apM (λl=>V.row 1<|List.map (V.int .i64) l) d a) (by rw[az];exact hb)) (okR I) I I I<|gR 6 I ?_;obtain⟨hb,h⟩:=h;exact gR 1 I<|gV 38 (qi ((g+1:Nat):Int)) I (al (by omega)<|by omega) I<|gR 2 I<|go_xloop<|qW U h [0,4]
theorem qb(m:Nat)(p0:YT)(p1:Int)(b:Nat)(d:List ai)(a:Nat)(i:(List YI))(r0:aL)(r1 r2:Int)(h:z8 (b<p0.length) (∃e,p0[b]?=some e∧∃f,lX e f∧dH m p0 p1 f d 0 b i a r0 r1 r2)<|∃c,lS d c∧InI (p1+(a:Int))∧(aL.mk c)=r0∧(p1+(a:Int))=r1∧0=r2):iz (m+1) p0 p1 b d a i r0 r1 r2:=by
 refine qj λK j1 hK n=>?_;refine gR 6 rfl<|gV 70 (qi (p0.length:Int)) rfl (aK<|aG _) rfl<|gLB 69 rfl (aG _) λl=>gR 3 rfl<|qXh 71 rfl rfl rfl h bx bw ?_ ?_<;>intro hd h;refine gR 9 I ?_;obtain⟨e,g,h⟩:=h;refine gY (ar (au g) ab I I I I) I I<|gR 1 I ?_;obtain⟨f,j,h⟩:=h;exact qC0 j I<|gR 9 I<|go_loop m<|qJ hK (h K _ _ hK (by omega)<|by omega) [0,1];refine gR 3 I<|go_xloopE<|gR 5 I<|gFR 1 I (cw _ (λ_=>I) _) I I ?_;obtain⟨c,k,h⟩:=h;refine qC0 k I<|gR 3 I ?_;obtain⟨hb,h⟩:=h;refine gR 1 I<|gV 151 (qi<|p1+(a:Int)) I (al hb I) I<|gR 6 I ?_;obtain⟨rfl,rfl,rfl⟩:=h;exact go_sub (F':=(mkF 152 0 [(4,.ptr 0 0),(5,qi<|p1+(a:Int)),(6,qi 0)])) (H':=⟨1,[(0,.var 30<|aL.c<|aL.mk c)]⟩) [0] [] I hK pq3 (pqo1 I I) I<|qN [.cell 4 30,.tmp 5,.tmp 6]
theorem lC(m:Nat)(E:YT)(J:Int)(a:(List YI))(c:List ai)(b d:Nat)(g:(List YI))(k:Nat)(O:aL)(U Z:Int)(h:z8 (b<a.length) (∃i,a[b]?=some i∧z8 (0<(i.length:Int)) (rf m E J a c d b g k O U Z) (∃n,a[b]?=some n∧∃e,ff E g (d:Int) n [] e∧(c++e).length<=1000000000∧dH m E J a (c++e) (b+1) d g k O U Z))<|d+1<=9223372036854775807∧iz m E J (d+1) c k g O U Z):dH (m+1) E J a c b d g k O U Z:=by
 intro K j1 j2 G t v;obtain⟨j1,rfl⟩:∃j,j1=j+1:=⟨j1-1,by omega⟩;obtain⟨j2,rfl⟩:∃j,j2=j+1:=⟨j2-1,by omega⟩;refine gR 6 rfl<|gV 81 (qi (a.length:Int)) rfl (aK (az (λl=>V.row 1<|List.map (V.int .i64) l) _)) rfl<|gLB 80 rfl (az (λl=>V.row 1<|List.map (V.int .i64) l) _) λq=>gR 3 rfl<|qXh 82 rfl rfl rfl h bx bw ?_ ?_<;>intro hd h;refine gR 15 I ?_;obtain⟨i,o,h⟩:=h;refine gY (ar (an (f:=(λl=>V.row 1<|List.map (V.int .i64) l)) o) ab rfl rfl rfl rfl) rfl rfl<|gR 2 rfl<|gV 89 (qi (i.length:Int)) rfl (aK<|az (V.int .i64) _) rfl<|gLB 88 rfl (az (V.int .i64) _) λs=>gR 3 rfl<|qXd 90 rfl rfl rfl h ?_ ?_<;>intro hd h;exact gR 1 I<|qJ G (h K _ _ G (by omega)<|by omega) [0,1];refine gR 10 I ?_;obtain⟨n,p,h⟩:=h;refine gY (ar (an (f:=(λl=>V.row 1<|List.map (V.int .i64) l)) p) ab I I I I) I I<|gR 2 I ?_;obtain⟨e,r,h⟩:=h;refine qC0 r I ?_;obtain⟨hb,h⟩:=h;exact gDo (.repl 1<|.row 44 6<|List.map ai.w<|c++e) (aX ab I I I I I (aao (f:=ai.w) (l₁:=c) (l₂:=e)).symm (by rw[az];exact hb)) (okR I) I I I<|gR 7 I<|gV 84 (qi ((b+1:Nat):Int)) I (al (by have :=q;omega)<|by omega) I<|gR 2 I<|go_xloop<|qJ G (h K _ _ G (by omega)<|by omega) [0,2];refine gR 3 I<|go_xloopE<|gR 5 I ?_;obtain⟨hb,h⟩:=h;exact gR 1 I<|gV 73 (qi ((d+1:Nat):Int)) I (al (by omega)<|by omega) I<|gR 2 I<|go_xloop<|qW G h [0,1]
theorem xu(m:Nat)(G:YT)(Z:Int)(a:(List YI))(β:List ai)(n b:Nat)(γ:(List YI))(δ:Nat)(r0:aL)(r1 r2:Int)(h:∃o,a[b]?=some o∧∃c,a[b]?=some c∧∃k,((c.length:Int)-1)=((k:Nat):Int)∧∃p,o[k]?=some p∧∃q,G[n]?=some q∧∃d,a[b]?=some d∧∃e,a[b]?=some e∧∃g,((e.length:Int)-1)=((g:Nat):Int)∧g<=d.length∧∃r s,bF q (d.take g) r s∧rh m G Z a p r β n b γ δ r0 r1 r2):rf (m+1) G Z a β n b γ δ r0 r1 r2:=by
 intro K J O E ι κ;obtain⟨J,rfl⟩:∃j,J=j+1:=⟨J-1,by omega⟩;obtain⟨O,rfl⟩:∃j,O=j+1:=⟨O-1,by omega⟩;refine gR 1 I<|qDs [] 13 13<|qDr [(0,2),(1,2)] I I ?_;obtain⟨o,v,h⟩:=h;refine gYd 2 I (by kernel_rfl) (ar (an (f:=(λl=>V.row 1<|List.map (V.int .i64) l)) v) ab I I I I) I I<|qDr [(3,2),(4,2),(5,0)] I I ?_;obtain⟨c,w,h⟩:=h;refine cc 6 I (by kernel_rfl) (ar (an (f:=(λl=>V.row 1<|List.map (V.int .i64) l)) w) ab I I I I) I I ?_;refine qDr [(7,0),(8,0)] I I<|gV 99 (qi (c.length:Int)) I (aK<|az (V.int .i64) _) I<|gLB 98 I (az (V.int .i64) _) λε=>qDr [(9,0)] I I<|gV 100 (qi<|(c.length:Int)-1) I (al (by have :=ε;omega) I) I ?_;obtain⟨k,ζ,h⟩:=h;refine gV 100 (qi ((k:Nat):Int)) I (aI ζ) I ?_;obtain⟨p,x,h⟩:=h;refine cc 10 I (by kernel_rfl) (ar (an (f:=(V.int .i64)) x) ab I I I I) I I ?_;refine qDr [(11,0),(12,0)] I I<|qDe<|gR 2 I<|qDs [] 20 22<|qDr [(0,2),(1,2)] I I ?_;obtain⟨q,y,h⟩:=h;refine gYd 2 I (by kernel_rfl) (ar (au y) ab I I I I) I I<|qDr (qR 3 3 2 []) I I ?_;obtain⟨d,z,h⟩:=h;refine gYd 6 I (by kernel_rfl) (ar (an (f:=(λl=>V.row 1<|List.map (V.int .i64) l)) z) ab I I I I) I I<|qDr (qR 7 3 2 []) I I ?_;obtain⟨e,α,h⟩:=h;refine gYd 10 I (by kernel_rfl) (ar (an (f:=(λl=>V.row 1<|List.map (V.int .i64) l)) α) ab I I I I) I I<|qDr [(11,2),(12,2)] I I<|gV 116 (qi (e.length:Int)) I (aK<|az (V.int .i64) _) I<|gLB 115 I (az (V.int .i64) _) λη=>qDr [(13,2)] I I<|gV 117 (qi<|(e.length:Int)-1) I (al (by have :=η;omega) I) I ?_;obtain⟨g,θ,h⟩:=h;refine gV 117 (qi ((g:Nat):Int)) I (aI θ) I ?_;obtain⟨U,h⟩:=h;refine gYd 14 I (by kernel_rfl) (Ab (az (V.int .i64) d) ab I I ta (sX I) (aar _) U<|((Cd _ _ _ _).trans<|congrArg _<|mX _ _)) I I ?_;obtain⟨r,s,t,h⟩:=h;apply ig (i:=15) (j:=19) (by kernel_rfl) rfl rfl rfl rfl;exact(hJ (L':=[]) (by kernel_rfl) I I (sD t .rfl [] I)<|.inl I);exact(gy ab I I);exact qDr (qR 16 3 2 [(19,0),(20,1),(21,1)]) I I<|qDe<|qJ E (h K _ _ E (by omega)<|by omega) [0,1,2];refine bp 15 t (by kernel_rfl) I (by kernel_rfl) I I .rfl I I ?_;exact qDr [(16,0),(17,2),(18,2),(20,1),(21,1)] I I<|qDe<|qJ E (h K _ _ E (by omega)<|by omega) [0,1,2]
theorem xO(m:Nat)(E:YT)(J:Int)(e:(List YI))(o:Int)(α:Tree)(a:List ai)(g b:Nat)(i:(List YI))(p:Nat)(O:aL)(U Z:Int)(h:∃k q,iW α o k q∧y5 k 0 (∃r,lr q r∧∃n,o=((n:Nat):Int)∧∃s,r[n]?=some s∧∃t,e[b]?=some t∧∃c,ff E i (g:Int) t s c∧(a++c).length<=1000000000∧b+1<=9223372036854775807∧dH m E J e (a++c) (b+1) g i p O U Z) (∃v,e[b]?=some v∧∃d,ff E i (g:Int) v [] d∧(a++d).length<=1000000000∧b+1<=9223372036854775807∧dH m E J e (a++d) (b+1) g i p O U Z)):rh (m+1) E J e o α a g b i p O U Z:=by
 intro K j1 j2 G η θ;obtain⟨j1,rfl⟩:∃j,j1=j+1:=⟨j1-1,by omega⟩;obtain⟨j2,rfl⟩:∃j,j2=j+1:=⟨j2-1,by omega⟩;refine gR 5 I ?_;obtain⟨k,q,β,h⟩:=h;refine qC0 β rfl<|gR 13 rfl<|qXe 129 rfl rfl rfl h ?_ ?_<;>intro hd h;refine gR 3 I ?_;obtain⟨r,γ,h⟩:=h;refine qC0 γ I<|gR 1 I ?_;obtain⟨n,δ,h⟩:=h;refine gV 132 (qi ((n:Nat):Int)) I (aI δ) I ?_;obtain⟨s,x,h⟩:=h;refine gY (ar (an (f:=V.str) x) ab I I I I) I I<|gR 11 I ?_;obtain⟨t,y,h⟩:=h;refine gY (ar (an (f:=(λl=>V.row 1<|List.map (V.int .i64) l)) y) ab I I I I) I I<|gR 2 I ?_;obtain⟨c,ε,h⟩:=h;refine qC0 ε I ?_;obtain⟨hb,h⟩:=h;refine gDo (.repl 1<|.row 44 6<|List.map ai.w<|a++c) (aX ab I I I I I (aao (f:=ai.w) (l₁:=a) (l₂:=c)).symm (by rw[az];exact hb)) (okR I) I I I<|gR 6 I ?_;obtain⟨hb,h⟩:=h;exact gR 1 I<|gV 84 (qi ((b+1:Nat):Int)) I (al (by omega)<|by omega) I<|gR 2 I<|go_xloop<|qJ G (h K _ _ G (by omega)<|by omega) [0,3];refine gR 10 I ?_;obtain⟨v,z,h⟩:=h;refine gY (ar (an (f:=(λl=>V.row 1<|List.map (V.int .i64) l)) z) ab I I I I) I I<|gR 2 I ?_;obtain⟨d,ζ,h⟩:=h;refine qC0 ζ I ?_;obtain⟨hb,h⟩:=h;refine gDo (.repl 1<|.row 44 6<|List.map ai.w<|a++d) (aX ab I I I I I (aao (f:=ai.w) (l₁:=a) (l₂:=d)).symm (by rw[az];exact hb)) (okR I) I I I<|gR 6 I ?_;obtain⟨hb,h⟩:=h;exact gR 1 I<|gV 84 (qi ((b+1:Nat):Int)) I (al (by omega)<|by omega) I<|gR 2 I<|go_xloop<|qJ G (h K _ _ G (by omega)<|by omega) [0,3]
def eI(m:Nat)(E a:List ai)(b:Nat)(G:List ai):Prop:=z5 m [] f35 (z3<|.row 6<|List.map ai.w G) (xM<|ac f35) [.blk 0,.seq<|xH<|ac f35] 26 [(0,.row 6<|List.map ai.w E),(3,.sl 0),(4,qi (b:Int))] ⟨1,[(0,.row 44 6<|List.map ai.w a)]⟩
theorem wS(m:Nat)(p0 r0:List ai)(h:eI m p0 ([]:List ai) 0 r0):lS p0 r0:=by
 refine⟨I,I,?_⟩;refine qA 26 [] func35 λK hK=>?_;exact gR 17 I<|go_loop m<|gNS 3 44 6 I I I I<|qW hK h [0]
theorem ph(m:Nat)(E c:List ai)(b:Nat)(J:List ai)(h:z8 (b<E.length) (∃a,E[b]?=some a∧((¬(a.V_.N=0∧a.V_.Flag=false∧a.V_.Text=[]∧a.V_.Ref=0))->∃d,E[b]?=some d∧(c++[d]).length<=1000000000∧eI m E (c++[d]) (b+1) J)∧((a.V_.N=0∧a.V_.Flag=false∧a.V_.Text=[]∧a.V_.Ref=0)->eI m E c (b+1) J))<|c=J):eI (m+1) E c b J:=by
 refine qj λK U O j=>?_;refine gR 6 rfl<|gV 7 (qi (E.length:Int)) rfl (aK<|az ai.w _) rfl<|gLB 6 rfl (az ai.w _) λi=>gR 3 rfl<|qXh 8 rfl rfl rfl h bx bw ?_ ?_<;>intro G h;refine gR 9 I ?_;obtain⟨a,e,h⟩:=h;refine gY (ar (an (f:=ai.w) e) ab rfl rfl rfl rfl) rfl rfl<|gR 3 rfl<|gY (v:=.bool<|!(ep a.V_.N a.V_.Flag a.V_.Text a.V_.Ref 0 false [] 0)) (yy (neg:=true) (r:=(ep a.V_.N a.V_.Flag a.V_.Text a.V_.Ref 0 false [] 0)) (by kernel_rfl) rfl rfl rfl rfl<|vq underlying42 (by kernel_rfl) (by decide) ⟨rfl,rfl,rfl,rfl⟩ underlying3 underlying4 underlying9 underlying3 _ _ _ _ _ _ _ _) rfl rfl<|gR 2 rfl<|qXh 17 rfl rfl rfl h (λG=>AZ<|bI G) (λG=>Bn<|bJ G) ?_ ?_<;>intro G h;refine gR 5 I ?_;obtain⟨d,g,h⟩:=h;refine gY (ar (an (f:=ai.w) g) ab I I I I) I I<|gR 2 I ?_;obtain⟨hb,h⟩:=h;exact gDo (.repl 0<|.row 44 6<|List.map ai.w<|c++[d]) (aX ab I I I I I (apM ai.w c d) (by rw[az];exact hb)) (okR I) I I I<|gR 7 I<|gV 10 (qi ((b+1:Nat):Int)) I (al (by have :=i;omega)<|by omega) I<|gR 2 I<|go_xloop<|qW O h [2];exact gR 7 I<|gV 10 (qi ((b+1:Nat):Int)) I (al (by have :=i;omega)<|by omega) I<|gR 2 I<|go_xloop<|qW O h [0];refine gR 3 I<|go_xloopE<|gR 9 I<|gFR 0 I (cw _ (λ_=>I) _) I I ?_;subst h;exact qN [.tmp 2]
def it(m:Nat)(E G:List ai)(a:Nat)(J:Bool):Prop:=z5 m [] f11 (z3<|.bool J) (xM<|ac f11) [.blk 0,.seq<|xH<|ac f11] 26 [(0,.row 6<|List.map ai.w E),(1,.row 6<|List.map ai.w G),(5,qi (a:Int))] ⟨0,[]⟩
theorem yb(m:Nat)(p0 p1:List ai)(r0:Bool)(h:((p0.length≠p1.length)->false=r0)∧((p0.length=p1.length)->it m p0 p1 0 r0)):jh p0 p1 r0:=by
 refine⟨I,I,?_⟩;refine qA 26 [] func11 λK hK=>?_;refine gR 10 rfl<|gV 7 (qi (p0.length:Int)) rfl (aK<|az ai.w _) rfl<|gLB 6 rfl (az ai.w _) λa=>gR 2 rfl<|gV 9 (qi (p1.length:Int)) rfl (aK<|az ai.w _) rfl<|gLB 8 rfl (az ai.w _) λb=>gR 3 rfl<|qXh 10 rfl rfl rfl h Qk Ps ?_ ?_<;>intro hd h;refine gR 8 I ?_;subst h;exact qN [.tmp 4];exact gR 10 I<|go_loop m<|qW hK h []
theorem qL(m:Nat)(E O:List ai)(c:Nat)(J:Bool)(h:z8 (c<E.length) (∃a,E[c]?=some a∧∃b,O[c]?=some b∧((¬(a.Id=b.Id∧a.Field=b.Field∧a.V_.N=b.V_.N∧a.V_.Flag=b.V_.Flag∧a.V_.Text=b.V_.Text∧a.V_.Ref=b.V_.Ref))->false=J)∧((a.Id=b.Id∧a.Field=b.Field∧a.V_.N=b.V_.N∧a.V_.Flag=b.V_.Flag∧a.V_.Text=b.V_.Text∧a.V_.Ref=b.V_.Ref)->it m E O (c+1) J))<|true=J):it (m+1) E O c J:=by
 refine qj λK Z U i=>?_;refine gR 6 rfl<|gV 13 (qi (E.length:Int)) rfl (aK<|az ai.w _) rfl<|gLB 12 rfl (az ai.w _) λg=>gR 3 rfl<|qXh 14 rfl rfl rfl h bx bw ?_ ?_<;>intro G h;refine gR 6 I<|qDs [] 9 9<|qDr [(0,2),(1,2)] I I ?_;obtain⟨a,d,h⟩:=h;refine gYd 2 I (by kernel_rfl) (ar (an (f:=ai.w) d) ab I I I I) I I<|qDr [(3,2),(4,2),(5,0)] I I ?_;obtain⟨b,e,h⟩:=h;refine cc 6 I (by kernel_rfl) (ar (an (f:=ai.w) e) ab I I I I) I I ?_;refine qDr [(7,0)] rfl rfl<|cc (v:=.bool<|!(a.Id==b.Id&&(a.Field==b.Field&&ep a.V_.N a.V_.Flag a.V_.Text a.V_.Ref b.V_.N b.V_.Flag b.V_.Text b.V_.Ref))) 8 rfl (by kernel_rfl) (yy (neg:=true) (r:=(a.Id==b.Id&&(a.Field==b.Field&&ep a.V_.N a.V_.Flag a.V_.Text a.V_.Ref b.V_.N b.V_.Flag b.V_.Text b.V_.Ref))) (by kernel_rfl) rfl rfl rfl rfl<|BZ underlying42 (by kernel_rfl) (by decide) ⟨rfl,rfl,rfl,rfl⟩ underlying3 underlying4 underlying9 underlying3 underlying44 (by kernel_rfl) (by decide) ⟨rfl,rfl,rfl⟩ underlying3 underlying3 rfl (by kernel_rfl) _ _ _ _ _ _ _ _ _ _ _ _) rfl rfl ?_;refine qDe<|gR 1 rfl<|qXh 25 rfl rfl rfl h (λG=>BR<|bI G) (λG=>BP<|bJ G) ?_ ?_<;>intro G h;refine gR 9 I<|go_xloopR<|gR 2 I ?_;subst h;exact qN [.tmp 4];exact gR 7 I<|gV 16 (qi ((c+1:Nat):Int)) I (al (by have :=g;omega)<|by omega) I<|gR 2 I<|go_xloop<|qW U h [];refine gR 3 I<|go_xloopE<|gR 8 I ?_;subst h;exact qN [.tmp 4]
theorem Co:∀t:Tree,tbulk t<=1000000000->dX t ((nN t:Nat):Int):=cP λt ih hb=>by
 have he:=bt t;have hnb:=nN_bulk t;have hne:=Bc t;have loop:∀(k i:Nat) (z:Nat),t.kids.length-i<=k->z+nNs (t.kids.drop i)=nN t->iB (k+1) t (z:Int) i ((nN t:Nat):Int):=λk=>by
  induction k with
  |zero=>
   intro i z hi h1;refine lB 0 _ _ _ _ (⟨λh=>by omega,λ_=>?_⟩);rw[List.drop_of_length_le (by omega),nNs]at h1;omega
  | succ k ihk=>
   intro i z hi h1;by_cases hlt:i<t.kids.length
   ·obtain⟨u,hu⟩:∃u,t.kids[i]?=some u:=⟨_,List.getElem?_eq_getElem hlt⟩;have hbu:=cm hu;have hn:=ih i u hu (by omega);rw[bq hu,nNs]at h1;refine lB (k+1) _ _ _ _ (⟨λ_=>⟨u,hu,_,hn,by constructor<;>omega,?_⟩,λh=>absurd hlt h⟩);have :=ihk (i+1) (z+nN u) (by omega) (by omega)
    rwa [show((z:Nat):Int)+((nN u:Nat):Int)=((z+nN u:Nat):Int) by omega]
   ·refine lB (k+1) _ _ _ _<|⟨λh=>absurd h hlt,λ_=>?_⟩;rw[List.drop_of_length_le (by omega),nNs]at h1;omega
 exact yj _ _ _ (loop t.kids.length 0 1 (by omega) (by rw[List.drop_zero];omega))
variable{t:Tree}
theorem Mx{u:Tree}{q:YI}(hq:atK t q=some u)(hb:tbulk t<=1000000000)(hl:q.length<=1000000000):ch t q ((ay t q:Nat):Int):=by
 have hall:=ni q t u hq;have hnb:=nN_bulk t;have l0:∀k i (v:Tree) (z:Nat),k+i=q.length->tbulk v<=1000000000->atK v (q.drop i)=some u->z+ay v (q.drop i)=ay t q->∃M,gk M q v i (z:Int) ((ay t q:Nat):Int):=λk=>by
  induction k with
  |zero=>
   intro i v z hi hv hat hz;refine⟨1,og 0 _ _ _ _ _ (⟨λh=>by omega,λ_=>?_⟩)⟩;rw[List.drop_of_length_le<|by omega]at hz;simp only[ay]at hz;omega
  | succ k ih=>
   intro i v z hi hv hat hz;obtain⟨x,hx⟩:∃x,q[i]?=some x:=⟨_,List.getElem?_eq_getElem (by omega)⟩;rw[bq hx]at hat hz;simp only[atK]at hat;split at hat
   ·cases hat
   rename_i hx0;split at hat
   ·cases hat
   rename_i w hw;obtain⟨c,rfl⟩:∃n:Nat,x=n:=⟨x.toNat,by omega⟩;rw[dZ hw]at hz;rw[Int.toNat_natCast]at hw hz;have hbw:=cm hw;have hcl:=(List.getElem?_eq_some_iff.1 hw).1;have hkl:=cb v;have hwn:=hW hw;obtain⟨M,hM⟩:=ih (i+1) w (z+1+nNs (v.kids.take c)) (by omega) (by omega) hat (by omega);have hzl:=ni _ w u hat;have l1:∀j a (y:Nat),j+a=c->y+nNs ((v.kids.take c).drop a)=z+1+nNs (v.kids.take c)->ga (M+j+1) q (y:Int) a v i ((ay t q:Nat):Int):=λj=>by
    induction j with
    |zero=>
     intro a y ha hy;rw[List.drop_of_length_le (by rw[aax];omega),nNs]at hy;refine ov M _ _ _ _ _ _ (⟨_,hx,λh=>by omega,λ_=>⟨_,hx,c,I,w,hw,by omega,?_⟩⟩);rw[show y=z+1+nNs (v.kids.take c) by omega];exact hM
    |succ j ihj=>
     intro a y ha hy;obtain⟨s,hs⟩:∃s,v.kids[a]?=some s:=⟨_,List.getElem?_eq_getElem (by omega)⟩;have hst:(v.kids.take c)[a]?=some s:=by rw[List.getElem?_take_of_lt (by omega)];exact hs
     rw[bq hst,nNs]at hy;have hbs:=cm hs;refine ov (M+j+1) _ _ _ _ _ _ (⟨_,hx,λ_=>⟨s,hs,_,Co s (by omega),by constructor<;>omega,by omega,?_⟩,λh=>by omega⟩);have :=ihj (a+1) (y+nN s) (by omega) (by omega)
     rwa [show((y:Nat):Int)+((nN s:Nat):Int)=((y+nN s:Nat):Int) by omega]
   refine⟨M+c+1+1,og (M+c+1) _ _ _ _ _<|⟨λ_=>⟨_,hx,λh=>absurd h hx0,λ_=>⟨_,hx,λh=>by omega,λ_=>⟨by constructor<;>omega,?_⟩⟩⟩,λh=>by omega⟩⟩;have :=l1 c 0 (z+1) (by omega) (by rw[List.drop_zero])
   rwa [show((z:Nat):Int)+1=((z+1:Nat):Int) by omega]
 obtain⟨M,hM⟩:=l0 q.length 0 t 0 (by omega) hb (by rw[List.drop_zero];exact hq) (by rw[List.drop_zero];omega);exact we M _ _ _<|hM
def ry(t:Tree)(i:Int):Int×Int:=if i<ca t then(0,ca t)else(i-ca t+1,ca t)
variable{i:Nat}
theorem KZ(hi:i<t.kids.length)(J:t.kids.length<=1000000000):iW t (i:Int) (ry t i).1 (ry t i).2:=by
 refine ya 1 _ _ _ _<|⟨λh=>?_,λh=>⟨λh'=>?_,λh'=>?_⟩⟩
 ·have e:ca t=(t.kids.length:Int):=by rw[ca,if_pos<|.inl h]
  refine ll 0 _ _ _ _ _ (⟨λ_=>?_,λh=>by cases h⟩);rw[ry,e,if_pos<|by omega];exact⟨rfl,rfl⟩
 ·have e:ca t=(t.kids.length:Int):=by rw[ca,if_pos<|.inr<|.inl h']
  refine ll 0 _ _ _ _ _ (⟨λ_=>?_,λh=>by cases h⟩);rw[ry,e,if_pos<|by omega];exact⟨rfl,rfl⟩
 ·refine ll 0 _ _ _ _ _ (⟨λh2=>?_,λh2=>?_⟩)
  ·have e:ca t=(t.kids.length:Int):=by rw[ca,if_pos<|.inr<|.inr<|by simpa using h2]
   rw[ry,e,if_pos<|by omega];exact⟨rfl,rfl⟩
  ·have O:t.kind≠18:=by simpa using h2
   refine⟨λE=>?_,λE=>?_⟩
   ·have e:ca t=(t.kids.length:Int)-2:=by rw[ca,if_neg (by omega),if_pos E]
    rw[ry,e];refine⟨by constructor<;>omega,λG=>?_,λG=>?_⟩
    ·rw[if_pos G];exact⟨by constructor<;>omega,rfl,rfl⟩
    ·rw[if_neg G];exact⟨by constructor<;>omega,by constructor<;>omega,by constructor<;>omega,by simp only;omega,rfl⟩
   ·have e:ca t=0:=by rw[ca,if_neg (by omega),if_neg E]
    rw[ry,e,if_neg<|by omega];exact⟨by constructor<;>omega,by simp only;omega,rfl⟩
theorem DU(k:Int):kZ k (fw k):=by
 refine vL 0 _ _<|?_;unfold fw;exact⟨λh=>by rw[if_pos h],λh=>by rw[if_neg h];exact⟨λh=>by rw[if_pos h],λh=>by rw[if_neg h];exact⟨λh=>by rw[if_pos h],λh=>by rw[if_neg h];exact⟨λh=>by rw[if_pos h],λh=>by rw[if_neg h]⟩⟩⟩⟩
theorem Mm(w:YB)(hw:w.length<=1000000000):lz w (EU w):=by
 have loop:∀k i,k+i=w.length->gp (k+1) w i (decide<|0<=dB (w.drop i) i):=λk=>by
  induction k with
  |zero=>
   intro i hi;refine oE 0 _ _ _ (⟨λh=>by omega,λ_=>?_⟩);rw[List.drop_of_length_le<|by omega];rfl
  | succ k ih=>
   intro i hi;obtain⟨c,hc⟩:∃c,w[i]?=some c:=⟨_,List.getElem?_eq_getElem (by omega)⟩;refine oE (k+1) _ _ _ (⟨λ_=>⟨c,hc,λh=>?_,λh=>⟨by omega,?_⟩⟩,λh=>by omega⟩)
   ·have hc46:c=46:=by
     have :c.toNat=46:=by omega
     exact UInt8.toNat_inj.1 this
    rw[bq hc,dB,if_pos hc46,decide_eq_true<|by omega]
   ·have hc46:c≠46:=λe=>h (by rw[e];rfl);have :=ih (i+1) (by omega);rw[bq hc,dB,if_neg hc46];exact this
 exact vz _ _ _ (loop w.length 0<|by omega)
theorem OX(l:List ai)(J:l.length<=1000000000):lS l (nzF l):=by
 have loop:∀k i,k+i=l.length->eI (k+1) l (nzF<|l.take i) i (nzF l):=λk=>by
  induction k with
  |zero=>
   intro i hi;refine ph 0 _ _ _ _ (⟨λh=>by omega,λ_=>?_⟩);rw[List.take_of_length_le<|by omega]
  |succ k ih=>
   intro i hi;obtain⟨x,hx⟩:∃x,l[i]?=some x:=⟨_,List.getElem?_eq_getElem (by omega)⟩;have :=ih (i+1) (by omega);have E:l.take (i+1)=l.take i++[x]:=by rw[List.take_add_one,hx];rfl
   have G:=BI<|l.take i;rw[aax]at G;rw[E,lJ,show[x]=[(⟨x.Id,x.Field,x.V_⟩:ai)]from rfl,BL]at this;refine ph (k+1) _ _ _ _ (⟨λ_=>⟨x,hx,λh=>⟨x,hx,by simp;omega,?_⟩,λh=>?_⟩,λh=>by omega⟩)
   ·rwa [if_neg (by rw[pd,aat];exact h)]at this
   ·rwa [if_pos (by rw[pd,aat];exact h),aaz]at this
 have :=loop l.length 0 (by omega);exact wS _ _ _ (by simpa[nzF]using this)
theorem Fy(l:List ai):jh l l true:=by
 have loop:∀k i,k+i=l.length->it (k+1) l l i true:=λk=>by
  induction k with
  |zero=>intro i hi;exact qL 0 _ _ _ _ (⟨λh=>by omega,λ_=>rfl⟩)
  |succ k ih=>
   intro i hi;obtain⟨x,hx⟩:∃x,l[i]?=some x:=⟨_,List.getElem?_eq_getElem (by omega)⟩;exact qL (k+1) _ _ _ _ (⟨λ_=>⟨x,hx,x,hx,λh=>absurd ⟨I,I,I,I,I,I⟩ h,λ_=>ih (i+1)<|by omega⟩,λh=>by omega⟩)
 exact yb _ _ _ _ (⟨λh=>absurd I h,λ_=>loop l.length 0<|by omega⟩)
theorem Kh{V:Tree->Bool}{p:YT}(hV:∀t∈p,bV t<|V t):iv p (decide (p.length<=8)&&p.all λt=>t.kind==1&&V t):=by
 have loop:∀k i,k+i=p.length->gU (k+1) p i (decide (p.length<=8)&&(p.drop i).all λt=>t.kind==1&&V t):=λk=>by
  induction k with
  |zero=>
   intro i hi;refine py 0 _ _ _ (⟨λh=>by omega,λ_=>?_⟩);rw[List.drop_of_length_le (by omega),List.all_nil,Bool.and_true]
   congr 1;apply propext;constructor<;>intro <;>omega
  | succ k ih=>
   intro i hi;obtain⟨t,ht⟩:∃t,p[i]?=some t:=⟨_,List.getElem?_eq_getElem (by omega)⟩;have :=ih (i+1) (by omega);rw[bq ht,List.all_cons];refine py (k+1) _ _ _ (⟨λ_=>⟨t,ht,λh=>?_,λh=>⟨t,ht,_,hV t<|List.mem_of_getElem? ht,λh2=>?_,λh2=>?_⟩⟩,λh=>by omega⟩)
   ·have e:(t.kind==1)=false:=by simpa using h
    rw[e];simp
   ·rw[h2];simp
   ·have e:(t.kind==1)=true:=by simpa using h
    rw[h2,e,Bool.true_and,Bool.true_and];exact this
 have :=loop p.length 0 (by omega);rw[List.drop_zero]at this;exact wX _ _ _<|this
open Go.RowKit
inductive It where
 |seq (c:Code)
 |blk (id:Nat)
inductive Pt where
 |code (c:Code)
 |ops (all:Array Oper) (rest:List Oper)
 |ex (e:Exit)
def stk(P:Program)(Q:Exit->Act->World->Prop):List It->Exit->Act->World->Prop
 |[]=>Q
 |.seq c::s=>Exit.then (c.wp P<|stk P Q s)<|stk P Q s
 |.blk id::s=>Exit.inBlock id<|stk P Q s
def Pt.wp(P:Program)(Q:Exit->Act->World->Prop)(p:Pt)(s:List It)(a:Act)(w:World):Prop:=
 match p with
 |.code c=>c.wp P (stk P Q s) a w
 |.ops all rest=>wpList P all (stk P Q s) rest a w
 |.ex e=>stk P Q s e a w
def Es(b:Bool):Option Value:=match b with|true=>some (.bool true)|false=>some<|.bool false
def HU(ft:Nat->Nat->Option Nat)(f:Nat->Option Value)(op:Op):Option Value:=
 match op with
 |.move x=>aE f x
 |.assign x=>aE f x
 |.pick c x y=>match aE f c with
  |some (.bool true)=>aE f x
  |some (.bool false)=>aE f y
  |_=>none
 |.nilCheck x=>match aE f x with
  |some (.pointer (some p))=>some<|.pointer<|some p
  |_=>none
 |.extract x i=>match aE f x with
  |some (.tuple vs)=>vs[i]?
  |_=>none
 |.unOp .not _ x=>match aE f x with
  |some (.bool b)=>Es<|!b
  |_=>none
 |.fieldAddr t x i=>match aE f x with
  |some (.pointer (some ⟨b,o,none⟩))=>match ft t i with
   |some k=>some<|.pointer<|some ⟨b,o+k,none⟩
   |none=>none
  |_=>none
 |.binOp .eql _ x y _=>match aE f x with
  |some (.int k m)=>match aE f y with
   |some (.int k' l)=>if k=k' then Es (m==l)else none
   |_=>none
  |_=>none
 |.binOp .neq _ x y _=>match aE f x with
  |some (.int k m)=>match aE f y with
   |some (.int k' l)=>if k=k' then Es (m !=l)else none
   |_=>none
  |_=>none
 |_=>none
def Ir(ft:Nat->Nat->Option Nat)(n:Nat)(all:Array Oper)(o:Oper)(f:Nat->Option Value):Option (Nat->Option Value):=
 match pU f all o.guard with
 |true=>match HU ft f o.op with
  |some v=>match pZ o.dst n with
   |true=>some<|upo f o.dst v
   |false=>none
  |none=>none
 |false=>match xr f all o.guard with
  |true=>match pZ o.dst n with
   |true=>some<|upo f o.dst undef
   |false=>none
  |false=>none
def iq (ft:Nat->Nat->Option Nat) (n:Nat):Nat->Pt->List It->(Nat->Option Value)->Option (Pt×List It×(Nat->Option Value))
 |0,p,s,f=>some (p,s,f)
 |k+1,.code c,s,f=>match c with
  |.seq x y=>iq ft n k (.code x) (.seq y::s) f
  |.block id c=>iq ft n k (.code c) (.blk id::s) f
  |.skip=>iq ft n k (.ex .normal) s f
  |.ret=>iq ft n k (.ex .ret) s f
  |.exit id=>iq ft n k (.ex<|.exit id) s f
  |.cond c x y=>match aE f c with
   |some (.bool true)=>iq ft n k (.code x) s f
   |some (.bool false)=>iq ft n k (.code y) s f
   |_=>none
  |.region _ ⟨l⟩ false=>iq ft n k (.ops ⟨l⟩ l) s f
  |_=>none
 |k+1,.ops all rest,s,f=>match rest with
  |[]=>iq ft n k (.ex .normal) s f
  |o::r=>match Ir ft n all o f with
   |some f'=>iq ft n k (.ops all r) s f'
   |none=>none
 |k +1,.ex e,s,f=>match s with
  |[]=>none
  |.seq c::s=>match e with
   |.normal=>iq ft n k (.code c) s f
   |.exit i=>iq ft n k (.ex<|.exit i) s f
   |.ret=>iq ft n k (.ex .ret) s f
   |_=>none
  |.blk id::s=>match e with
   |.normal=>iq ft n k (.ex .normal) s f
   |.exit i=>match Nat.beq i id with
    |true=>iq ft n k (.ex .normal) s f
    |false=>iq ft n k (.ex<|.exit i) s f
   |.ret=>iq ft n k (.ex .ret) s f
   |_=>none
variable{v:Value}
section
variable{P:Program}{Q:Exit->Act->World->Prop}{a:Act}{w w':World}{n:Nat}{f f':Nat->Option Value}{ft:Nat->Nat->Option Nat}{p p':Pt}{s s':List It}
theorem yI{b:Bool}(h:Es b=some v):v=.bool b:=by cases b<;>simp[Es]at h<;>exact h.symm
theorem Mi(E:∀t i k,ft t i=some k->io P t i=some k){op:Op}{ty:TypeId}(h:Fr a n f)(hv:HU ft f op=some v):Runs P a ty op w (.value v) w:=by
 unfold HU at hv;split at hv
 ·exact GD h hv
 ·exact CV h hv
 ·split at hv
  ·exact Ej h ‹_› hv
  ·exact EG h ‹_› hv
  ·cases hv
 ·split at hv
  ·injection hv with hv;subst hv;exact Bo h ‹_›
  ·cases hv
 ·split at hv
  ·exact BG h ‹_› hv
  ·cases hv
 ·split at hv
  ·rw[yI hv];exact Ll h ‹_› rfl
  ·cases hv
 ·split at hv
  ·split at hv
   ·injection hv with hv;subst hv;exact Du h ‹_› (E _ _ _ ‹_›) rfl
   ·cases hv
  ·cases hv
 ·split at hv
  ·split at hv
   ·split at hv
    ·rename_i e;subst e;rw[yI hv];exact Kb h ‹_› ‹_› rfl
    ·cases hv
   ·cases hv
  ·cases hv
 ·split at hv
  ·split at hv
   ·split at hv
    ·rename_i e;subst e;rw[yI hv];exact Ke h ‹_› ‹_› rfl
    ·cases hv
   ·cases hv
  ·cases hv
 ·cases hv
theorem LG(E:∀t i k,ft t i=some k->io P t i=some k){all:Array Oper}{o:Oper}{rest:List Oper}{Q:Exit->Act->World->Prop}(h:Fr a n f)(hs:Ir ft n all o f=some f')(k:∀a',Fr a' n f'->wpList P all Q rest a' w):wpList P all Q (o::rest) a w:=by
 obtain⟨d,op,ty,ps,af,g⟩:=o;unfold Ir at hs;dsimp only at hs;split at hs
 ·split at hs
  ·split at hs
   ·injection hs with hs;subst hs
    exact Pn h ‹_› ‹_› (Mi E h ‹_›) k
   ·cases hs
  ·cases hs
 ·split at hs
  ·split at hs
   ·injection hs with hs;subst hs
    exact RV h ‹_› ‹_› k
   ·cases hs
  ·cases hs
theorem dL(hft:∀t i k,ft t i=some k->io P t i=some k):∀(k:Nat) (p:Pt) (s:List It) (f:Nat->Option Value) (a:Act),Fr a n f->iq ft n k p s f=some (p',s',f')->(∀a',Fr a' n f'->Pt.wp P Q p' s' a' w)->Pt.wp P Q p s a w
 |0,p,s,f,a,h,hr,kk=>by simp only[iq,aab,Prod.mk.injEq]at hr;obtain⟨rfl,rfl,rfl⟩:=hr;exact kk a h
 | k+1,.code c,s,f,a,h,hr,kk=>by
  unfold iq at hr;split at hr
  ·exact wp_seq<|dL hft k _ (.seq _::s) f a h hr kk
  ·exact wp_block<|dL hft k _ (.blk _::s) f a h hr kk
  ·exact wp_skip<|dL hft k _ s f a h hr kk
  ·exact wp_ret<|dL hft k _ s f a h hr kk
  ·exact wp_exit<|dL hft k _ s f a h hr kk
  ·split at hr
   ·exact EO h ‹_› (dL hft k _ s f a h hr kk)
   ·exact FI h ‹_› (dL hft k _ s f a h hr kk)
   ·cases hr
  ·exact wp_region_lit<|dL hft k _ s f a h hr kk
  ·cases hr
 | k+1,.ops all rest,s,f,a,h,hr,kk=>by
  unfold iq at hr;split at hr
  ·have ih:=dL hft k _ _ f a h hr kk;exact(PA ih:wpList P all (stk P Q s) [] a w)
  ·split at hr
   ·exact LG hft h ‹_› (λa' h'=>dL hft k _ s _ a' h' hr kk)
   ·cases hr
 | k +1,.ex e,s,f,a,h,hr,kk=>by
  unfold iq at hr;split at hr
  ·cases hr
  ·split at hr
   ·have ih:=dL hft k _ _ f a h hr kk;exact ih
   ·have ih:=dL hft k _ _ f a h hr kk;exact ih
   ·have ih:=dL hft k _ _ f a h hr kk;exact ih
   ·cases hr
  ·split at hr
   ·have ih:=dL hft k _ _ f a h hr kk;exact ih
   ·split at hr
    ·rename_i hb;have :=aag hb;subst this;have :=dL hft k _ _ f a h hr kk;simp only[Pt.wp,stk,Exit.inBlock,if_true]at this⊢;exact this
    ·rename_i hb;have hne:=Nat.ne_of_beq_eq_false hb;have :=dL hft k _ _ f a h hr kk;simp only[Pt.wp,stk,Exit.inBlock,if_neg hne]at this⊢;exact this
   ·have ih:=dL hft k _ _ f a h hr kk;exact ih
   ·cases hr
end
def ftG:List (Nat×Nat×Nat)->Nat->Nat->Option Nat
 |[],_,_=>none
 |(t,i,k)::r,t',E=>match Nat.beq t t' with
  |true=>match Nat.beq i E with
   |true=>some k
   |false=>ftG r t' E
  |false=>ftG r t' E
def ftB(P:Program):List (Nat×Nat×Nat)->Bool
 |[]=>true
 |(t,i,k)::r=>(io P t i==some k)&&ftB P r
theorem DE{P:Program}:∀(l:List<|Nat×Nat×Nat),ftB P l=true->∀t i k,ftG l t i=some k->io P t i=some k
 |[],_,_,_,_,h=>by cases h
 | (t0,i0,k0)::r,hb,t,i,k,h=>by
  simp only[ftB,aaa,aaq]at hb;simp only[ftG]at h;split at h
  ·rename_i e1;split at h
   ·rename_i e2;have :=aag e1;have :=aag e2
    subst_vars
    rw[hb.1];exact h
   ·exact DE r hb.2 t i k h
  ·exact DE r hb.2 t i k h
variable{fid:FuncId}
section
variable{P:Program}{Q:Exit->Act->World->Prop}{a:Act}{w w':World}{n:Nat}{f f':Nat->Option Value}{p p':Pt}{s s':List It}{all:Array Oper}{rest:List Oper}{d:Option Tmp}{op:Op}{ty:TypeId}{ps:String}{af:Array Edge}{g:Option (Nat×Bool)}{v:Value}
theorem rV(h:Fr a n f)(E:(pU f all g&&pZ d n)=true)(G:Runs P a ty op w (.value v) w')(k:∀a',Fr a' n (upo f d v)->Pt.wp P Q (.ops all rest) s a' w'):Pt.wp P Q (.ops all<|⟨d,op,ty,ps,af,g⟩::rest) s a w:=Pn h (Bool.and_eq_true_iff.1 E).1 (Bool.and_eq_true_iff.1 E).2 G k
theorem rS(h:Fr a n f)(E:(pU f all g&&pZ d n)=true)(G:Runs P a ty op w .skip w')(k:∀a',Fr a' n (upo f d undef)->Pt.wp P Q (.ops all rest) s a' w'):Pt.wp P Q (.ops all<|⟨d,op,ty,ps,af,g⟩::rest) s a w:=SA h (Bool.and_eq_true_iff.1 E).1 (Bool.and_eq_true_iff.1 E).2 G k
theorem rC{args:List Operand}{tys:Array TypeId}{vs:List Value}{R:Ending->World->Prop}(h:Fr a n f)(E:(pU f all g&&pZ d n)=true)(hv:sE f args=some vs)(G:cf P fid=true)
 (J:Calls P fid vs.toArray w R) (k:∀e w',R e w'->∃v,e=.returned v∧∀a',Fr a' n (upo f d v)->Pt.wp P Q (.ops all rest) s a' w'):
 Pt.wp P Q (.ops all<|⟨d,.call {callee:=.value<|.func fid,args:=args.toArray,argTypes:=tys},ty,ps,af,g⟩::rest) s a w:=Sb h (Bool.and_eq_true_iff.1 E).1 (Bool.and_eq_true_iff.1 E).2 hv G J k
theorem rL{c:Code}(I:Nat->Act->World->Prop)(n₀:Nat)(h₀:I n₀ a w)(round:∀n a w,I n a w->Pt.wp P (Exit.then (λa' w'=>∃E,E<n∧I E a' w')<|stk P Q s) (.code c) [] a w):Pt.wp P Q (.code<|.loop c) s a w:=wp_loop_ghost I n₀ h₀ round
theorem rX{K:Act->World->Prop}(h:K a w):Pt.wp P (Exit.then K Q) (.ex .normal) [] a w:=h
theorem rO{K:Act->World->Prop}(h:Pt.wp P Q (.ex<|.exit i) s a w):Pt.wp P (Exit.then K<|stk P Q s) (.ex<|.exit i) [] a w:=h
theorem rE{fn:Func}{c:Code}{args:List Value}{R:Ending->World->Prop}(N:Nat)(hf:P.funcs[fid]?=some fn)(hb:fn.body=some c)(E:fn.ntmps=N)(G:Nat.ble args.length N=true)
 (k:∀a,Fr a N (λi=>args[i]?)->Pt.wp P (bodyPost P fn R) (.code c) [] a w):Calls P fid args.toArray w R:=Mv N hf hb E G k
theorem rT{fn:Func}{R:Ending->World->Prop}{rs:List ResultVar}{vs:List Value}(h:Fr a n f)(hr:fn.results=rs.toArray)(hv:ux P f w rs vs)(E:R (.returned<|st vs) w):Pt.wp P (bodyPost P fn R) (.ex .ret) [] a w:=Pi h hr hv E
end
abbrev zT:List Value:=[.int .i64 0,.string ⟨([]:YB).toArray⟩,.slice none 0 0,.slice none 0 0]
section
variable{w w1:World}{b c:Nat}{t:TypeId}{cs:List Value}
theorem Blk.c0(h:Blk w b t cs)(hx:Chg [] w w1):Blk w1 b t cs:=h.chg hx nm0
end
theorem eT(a:Act)(w:World)(ty:TypeId):∃w' b,Runs prog a ty (.alloc 26) w (.value<|.pointer<|some ⟨b,0,none⟩) w'∧Blk w' b 26 zT∧Chg [] w w'∧b=w.heap.size∧b<w'.heap.size:=FH zT (by kernel_rfl) a w ty
section
variable{a:Act}{w:World}{n:Nat}{f:Nat->Option Value}{tb:TypeId}{b o:Nat}{v:Value}{vs cs:List Value}
theorem eN(x y:Operand)(h:Fr a n f)(hx:aE f x=some (.pointer<|some ⟨b,0,none⟩))(hy:aE f y=some (.agg vs.toArray))(hv:vs.length=4)(E:vs.all (·.oneCell')=true)(hb:Blk w b tb cs)(G:cs.length=4)(ty:TypeId):
 ∃w',Runs prog a ty (.store 26 x y) w .skip w'∧Blk w' b tb vs∧Chg [b] w w':=KL (m:=4) h hx hy (by kernel_rfl) hv E hb G ty
end
def ej(R:YN)(l:List<|Nat×Ob):List (Nat×Ob):=l.filter λp=>kY p.1 R
def ung:Ob->Ob
 |.free=>.gone
 |o=>o
def fj(nx:Nat)(R:YN)(l:List<|Nat×Ob):List (Nat×Ob):=(l.filter λp=>!kY p.1 R&&Nat.blt p.1 nx).map λp=>(p.1,ung p.2)
theorem xo{α:Type}{R:YN}:∀(l:List<|Nat×Ob) (c:List (Nat×Ob)->α),zo R l c=c (ej R l)
 |[],c=>rfl
 |(i,o)::r,c=>by
  simp only[zo];cases h:kY i R
  ·simp only;rw[xo r];simp[ej,h]
  ·simp only;rw[xo r];simp[ej,h]
theorem wE{α:Type}{nx:Nat}{R:YN}:∀(l:List<|Nat×Ob) (c:List (Nat×Ob)->α),wZ nx R l c=c (fj nx R l)
 |[],c=>rfl
 |(i,o)::r,c=>by
  simp only[wZ];cases h:(!kY i R&&Nat.blt i nx)
  ·simp only;rw[wE r];simp only[fj,List.filter_cons,h];rfl
  ·cases o<;>(simp only;rw[wE r];simp only[fj,List.filter_cons,h];rfl)
theorem ur{R:YN}{i:Nat}:∀{l:List<|Nat×Ob},aB (ej R l) i=aB l i∨(kY i R=false∧aB (ej R l) i=.gone)
 |[]=>.inl rfl
 | (j, o)::r=>by
  by_cases hj:j=i
  ·subst hj;cases h:kY j R
   ·right;refine⟨I,?_⟩;have ih:=ur (R:=R) (i:=j) (l:=r);simp only[ej,List.filter_cons,h]at ih⊢;simp only[aaB,if_false];clear ih;have key:∀(l:List<|Nat×Ob),aB (l.filter λp=>kY p.1 R) j=.gone:=by
     intro l
     induction l with
     |nil=>rfl
     | cons q t ih=>
      obtain⟨k,o'⟩:=q;simp only[List.filter_cons];split
      ·rename_i hk;have :k≠j:=λe=>by subst e;simp[h]at hk
       simp only[aB,nbF this];exact ih
      ·exact ih
    exact key r
   ·left;simp only[ej,List.filter_cons,h,if_true,aB,nbT]
  ·have ih:=ur (R:=R) (i:=i) (l:=r);simp only[ej,List.filter_cons];split
   ·simp only[aB,nbF hj];exact ih
   ·simp only[aB,nbF hj];exact ih
theorem Ds{R:YN}(h:kY i R=false)(l:List<|Nat×Ob):aB (ej R l) i=.gone:=by
 induction l with
 |nil=>rfl
 | cons q t ih=>
  obtain⟨k,o'⟩:=q;simp only[ej,List.filter_cons];split
  ·rename_i hk;have :k≠i:=λe=>by subst e;simp[h]at hk
   simp only[aB,nbF this];exact ih
  ·exact ih
theorem JJ{nx:Nat}{R:YN}(l:List<|Nat×Ob):aB (fj nx R l) i=if(!kY i R&&Nat.blt i nx)=true then ung (aB l i)else .gone:=by
 induction l with
 |nil=>simp[fj,aB,ung]
 | cons q t ih=>
  obtain⟨k,o⟩:=q;by_cases hk:k=i
  ·subst hk;cases h:(!kY k R&&Nat.blt k nx)
   ·rw[h]at ih;simp only[fj,List.filter_cons,h,aaB,if_false]at ih⊢;exact ih
   ·simp only[fj,List.filter_cons,h,if_true,aah,aB,nbT]
  ·have e:aB ((k,o)::t) i=aB t i:=by simp only[aB,nbF hk]
   rw[e,<-ih];simp only[fj,List.filter_cons];split
   ·simp only[aah,aB,nbF hk]
   ·rfl
variable{S:Nat->Prop}
variable{k:Nat}{xs:List Value}
section
variable{P:Program}{T:Tab}{K:Ctx}{Q:Exit->Act->World->Prop}{s:List EI}{n:Nat}{F:Fm}{H:Hp}
theorem Gw (lo:Nat) (H:Hp) (v:V):∃v' H',(∀(α:Type) (c:V->Hp->α),Jh lo H v c=c v' H')∧H'.nx=H.nx∧(∀K S w ρ x,HRel S w ρ H.get->Inv K S w ρ H.get->VRel S w ρ v x->∃S',HRel S' w ρ H'.get∧Inv K S' w ρ H'.get∧Up S S' w w ρ ρ∧VRel S' w ρ v' x):=by
 have triv:∃v' H',(∀(α:Type) (c:V->Hp->α),c v H=c v' H')∧H'.nx=H.nx∧(∀K S w ρ x,HRel S w ρ H.get->Inv K S w ρ H.get->VRel S w ρ v x->∃S',HRel S' w ρ H'.get∧Inv K S' w ρ H'.get∧Up S S' w w ρ ρ∧VRel S' w ρ v' x):=⟨v,H,λ_ _=>rfl,rfl,λK S w ρ x h1 h2 h3=>⟨S,h1,h2,Up.refl,h3⟩⟩;cases v with
 | sl id=>
  simp only[Jh];split
  ·split
   ·rename_i e sz els ho;split
    ·rename_i hpu;refine⟨.row sz els,⟨H.nx,oS id H.es⟩,λα c=>by rw[zB],I,λK S w ρ x hr hi hx=>?_⟩;have hg:(⟨H.nx,oS id H.es⟩:Hp).get=bE H.get id .gone:=by
      funext i
      unfold Hp.get;by_cases hii:i=id
      ·subst hii;rw[aY];simp only[];have hlt:Nat.blt i H.nx=true:=by
        unfold Hp.get at ho;split at ho
        ·assumption
        ·cases ho
       rw[hlt];simp only[kS,if_true]
      ·rw[bo _ _ hii];simp only[kS,if_neg hii]
     refine⟨_,by rw[hg];exact(hU hr).1,by rw[hg];exact hi.frz hr id,(hU hr).2,Bb hr ho hpu hx⟩
    ·exact triv
   ·exact triv
  ·exact triv
 |_=>exact triv
theorem GA(lo:Nat):∀(vs:List V) (H:Hp),∃vs' H',(∀(α:Type) (c:List V->Hp->α),HK lo H vs c=c vs' H')∧H'.nx=H.nx∧(∀K S w ρ xs,HRel S w ρ H.get->Inv K S w ρ H.get->LRel S w ρ vs xs->∃S',HRel S' w ρ H'.get∧Inv K S' w ρ H'.get∧Up S S' w w ρ ρ∧LRel S' w ρ vs' xs)
 |[],H=>⟨[],H,λ_ _=>rfl,rfl,λK S w ρ x h1 h2 J=>⟨S,h1,h2,Up.refl,J⟩⟩
 |v::r,H=>by
  obtain⟨O,H1,U,Z,k1⟩:=Gw lo H v;obtain⟨r',H2,e2,n2,k2⟩:=GA lo r H1;refine⟨O::r',H2,λα c=>by simp only[HK,U,e2],n2.trans Z,λK S w ρ xs hr hi hx=>?_⟩;simp only[LRel]at hx;obtain⟨x,ys,rfl,h1,h2⟩:=hx;obtain⟨S1,a1,a2,E,a4⟩:=k1 K S w ρ x hr hi h1;obtain⟨S2,b1,b2,G,b4⟩:=k2 K S1 w ρ ys a1 a2<|h2.up E;exact⟨S2,b1,b2,⟨λb hb=>G.s b<|E.s b hb,λ_ _ _=>I,λ_ _ h=>h⟩,x,ys,I,a4.up G,b4⟩
theorem NU(lo:Nat)(H:Hp)(v:V):∃E H',(∀(α:Type) (c:V->Hp->α),Mh lo H v c=c E H')∧H'.nx=H.nx∧(∀K S w ρ x,HRel S w ρ H.get->Inv K S w ρ H.get->VRel S w ρ v x->∃S',HRel S' w ρ H'.get∧Inv K S' w ρ H'.get∧Up S S' w w ρ ρ∧VRel S' w ρ E x):=by
 have G:=Gw lo H v;cases v
 case agg cs=>
  obtain⟨vs',H',e,hn,k⟩:=GA lo cs H;refine⟨.agg vs',H',λα c=>by simp only[Mh,e],hn,λK S w ρ x hr hi hx=>?_⟩;simp only[VRel]at hx;obtain⟨xs,rfl,h1⟩:=hx;obtain⟨S',a1,J,O,U⟩:=k K S w ρ xs hr hi h1;exact⟨S',a1,J,O,by simp only[VRel];exact⟨xs,rfl,U⟩⟩
 all_goals exact G
theorem BV(lo:Nat):∀(vs:List V) (H:Hp),∃vs' H',(∀(α:Type) (c:List V->Hp->α),En lo H vs c=c vs' H')∧H'.nx=H.nx∧(∀K S w ρ xs,HRel S w ρ H.get->Inv K S w ρ H.get->LRel S w ρ vs xs->∃S',HRel S' w ρ H'.get∧Inv K S' w ρ H'.get∧Up S S' w w ρ ρ∧LRel S' w ρ vs' xs)
 |[],H=>⟨[],H,λ_ _=>rfl,rfl,λK S w ρ x h1 h2 J=>⟨S,h1,h2,Up.refl,J⟩⟩
 |v::r,H=>by
  obtain⟨O,H1,U,Z,k1⟩:=NU lo H v;obtain⟨r',H2,e2,n2,k2⟩:=BV lo r H1;refine⟨O::r',H2,λα c=>by simp only[En,U,e2],n2.trans Z,λK S w ρ xs hr hi hx=>?_⟩;simp only[LRel]at hx;obtain⟨x,ys,rfl,h1,h2⟩:=hx;obtain⟨S1,a1,a2,E,a4⟩:=k1 K S w ρ x hr hi h1;obtain⟨S2,b1,b2,G,b4⟩:=k2 K S1 w ρ ys a1 a2<|h2.up E;exact⟨S2,b1,b2,⟨λb hb=>G.s b<|E.s b hb,λ_ _ _=>I,λ_ _ h=>h⟩,x,ys,I,a4.up G,b4⟩
variable{all:Array Oper}{rest:List Oper}{o:Oper}{u:V}{H':Hp}
theorem Pm{ok:Bool}(O:bg F all o.guard=some true)(hx:sG P K o [] ok n F H u H')(k:Go P K Q (.ops all rest) s n (F.seto o.dst<|some u) H'):Go P K Q (.ops all<|o::rest) s n F H:=λS w ρ a hr hi E=>by
 show wpList P all (dR P Q s) (o::rest) a w;unfold wpList;rw[if_pos<|cu E O];exact .inl<|hx S w ρ a hr hi E _ _ λx S' w' ρ' G J U _ _ hv=>k S' w' ρ' _ G J<|cX (E.up U) o.dst hv
variable{L:YN}{m left i:Nat}{listed:Array Bool}
theorem Py(E:Region.ready .any all listed=[i])(hi:all[i]?=some o)(hw:bg F all o.guard=some true)(hx:sG P K o L ((listed.setIfInBounds i true).getD m false) n F H u H')(k:Go P K Q (.drw all L m left<|listed.setIfInBounds i true) s n (F.seto o.dst<|some u) H'):Go P K Q (.drw all L m (left+1) listed) s n F H:=λS w ρ a hr G J hs=>by
 refine rt (S:=S) E ?_;unfold wpOp;simp only[hi];rw[if_pos<|cu J hw];exact .inl<|hx S w ρ a hr G J _ _ λx S' w' ρ' O U Z hA hL hv=>qd Z hA hL<|k S' w' ρ' _ O U (cX (J.up Z) o.dst hv) hs
def lZ(P:Program)(K:Ctx)(Q:Exit->Act->World->Prop)(n:Nat):Rs->Prop
 |.ok e F H=>∀S w ρ a,HRel S w ρ H.get->Inv K S w ρ H.get->FRel S w ρ a n F->Q (match e with|true=>.ret|false=>.normal) a w
 |.pt p s F H=>Go P K Q p s n F H
 |.er _ _=>False
variable{ih:EP->List EI->Fm->Hp->Rs}
theorem Hc{w:World}{ρ:Nat->Option Value}{x:Value}:∀{rs:List V},VRel S w ρ (pf rs) x->∃ys,LRel S w ρ rs ys∧x=st ys
 |[],E=>by simp only[pf,VRel]at E;obtain⟨ys,rfl,h1⟩:=E;exact⟨ys,h1,by simp only[LRel]at h1;subst h1;rfl⟩
 |[v],E=>⟨[x],⟨x,[],rfl,E,rfl⟩,rfl⟩
 |v::u::r,E=>by simp only[pf,VRel]at E;obtain⟨ys,rfl,h1⟩:=E;refine⟨ys,h1,?_⟩;simp only[LRel]at h1;obtain⟨_,_,rfl,_,_,_,rfl,_⟩:=h1;rfl
theorem LO (hT:TabOk P T) (IH:∀p s F H K Q n,lZ P K Q n (ih p s F H)->Go P K Q p s n F H) {X:Rs->Prop} (hX:∀n m,¬X (.er n m)) {keep ok:Bool} {vs:List V} {fid:FuncId} {fn:Func} {b:Code} {c:V->Hp->Rs} (hf:P.funcs[fid]?=some fn) (hb:fn.body=some b) (hl:Nat.ble vs.length fn.ntmps=true)
  (h:X<|IB T ih keep vs fn b H L ok c):∃u H' L',(L'=L∨ok=true)∧CallR P K fid vs H L' (λu' H''=>u'=u∧H''=H')∧X (c u H'):=by
 unfold IB at h;simp only[]at h;generalize hR:sh H 40 (wP vs []) []=R at h;split at h
 ·rename_i hok;rw[xo]at h;split at h
  ·rename_i e F1 H1 hrun;split at h
   ·rename_i rs hres;split at h
    ·rename_i hnx;have hnx':H.nx<=H1.nx:=Nat.le_of_ble_eq_true hnx;have hin:∀i,(⟨H.nx,ej R H.es⟩:Hp).get i=H.get i∨(⟨H.nx,ej R H.es⟩:Hp).get i=.gone:=λi=>by
      unfold Hp.get;simp only[];split
      ·rcases ur (R:=R) (i:=i) (l:=H.es)with e|⟨_,e⟩
       ·exact .inl e
       ·exact .inr e
      ·exact .inl I
     have hout:∀i,kY i R=false->Nat.blt i H.nx=true->(⟨H.nx,ej R H.es⟩:Hp).get i=.gone:=λi hi hlt=>by unfold Hp.get;simp only[hlt];exact Ds hi _
     have key:∀(H2:Hp) (es3:List<|Nat×Ob),H2.nx=H1.nx->(∀i,aB es3 i=aB H2.es i∨aB es3 i=.gone)->∀i,((⟨H2.nx,es3++fj H.nx R H.es⟩:Hp).get i=H2.get i∨(⟨H2.nx,es3++fj H.nx R H.es⟩:Hp).get i=.gone)∨((⟨H2.nx,es3++fj H.nx R H.es⟩:Hp).get i=H.get i∧(⟨H.nx,ej R H.es⟩:Hp).get i=.gone∧H.get i≠.free):=λH2 es3 hn h3 i=>by
      by_cases hlt2:Nat.blt i H2.nx=true
      ·have e0:(⟨H2.nx,es3++fj H.nx R H.es⟩:Hp).get i=aB (es3++fj H.nx R H.es) i:=by unfold Hp.get;simp only[hlt2]
       have e2:H2.get i=aB H2.es i:=by unfold Hp.get;rw[hlt2]
       rw[e0,e2];rcases Ec es3 (fj H.nx R H.es) i with e|⟨e',e⟩
       ·rw[e];rcases h3 i with h3|h3
        ·exact .inl<|.inl h3
        ·exact .inl<|.inr h3
       ·rw[e];rw[JJ];cases hm:(!kY i R&&Nat.blt i H.nx)
        ·exact .inl (.inr<|by simp)
        ·have hm':=hm;simp only[aaa,Bool.not_eq_true']at hm';have eH:H.get i=aB H.es i:=by unfold Hp.get;rw[hm'.2]
         rw[if_pos rfl];cases hf:aB H.es i
         case free=>exact .inl<|.inr rfl
         all_goals exact .inr ⟨by rw[eH,hf];rfl,hout i hm'.1 hm'.2,by rw[eH,hf];simp⟩
      ·have e0:(⟨H2.nx,es3++fj H.nx R H.es⟩:Hp).get i=.free:=by
        unfold Hp.get;simp only[Bool.not_eq_true]at hlt2;simp only[hlt2]
       have e2:H2.get i=.free:=by unfold Hp.get;simp only[Bool.not_eq_true]at hlt2;rw[hlt2]
       exact .inl (.inl<|by rw[e0,e2])
     have fin:∀(H2:Hp) (es3:List<|Nat×Ob) (rs2:List V),H2.nx=H1.nx->(∀i,aB es3 i=aB H2.es i∨aB es3 i=.gone)->
       (∀K S w ρ xs,HRel S w ρ H1.get->Inv K S w ρ H1.get->LRel S w ρ rs xs->∃S',HRel S' w ρ H2.get∧Inv K S' w ρ H2.get∧Up S S' w w ρ ρ∧LRel S' w ρ rs2 xs)->
       ∃L',(L'=L∨ok=true)∧CallR P K fid vs H L' (λu' H''=>u'=pf rs2∧H''=⟨H2.nx,es3++fj H.nx R H.es⟩):=λH2 es3 rs2 hn h3 hfz=>by
      have main:∀L',(∀(S:Nat->Prop) (w:World) (ρ:Nat->Option Value),HRel S w ρ H.get->L'=[]∨(cS H.get L'=true∧∀id,id∈L'->(⟨H.nx,ej R H.es⟩:Hp).get id=.gone))->CallR P K fid vs H L' (λu' H''=>u'=pf rs2∧H''=⟨H2.nx,es3++fj H.nx R H.es⟩):=λL' hL' S w ρ xs hr hi hx=>by
       have hr1:=hr.drop (h':=(⟨H.nx,ej R H.es⟩:Hp).get) hin;have hi1:Inv ⟨w,S,λb=>∃id,own ρ id ((⟨H.nx,ej R H.es⟩:Hp).get id) b,ρ⟩ S w ρ (⟨H.nx,ej R H.es⟩:Hp).get:=⟨ChgP.refl _ _,λ_ h=>h,λ_ h=>.inl h,λid b hb=>.inl ⟨id,hb⟩,λ_ _ h=>h⟩;refine Av hf hb hl hr1 hi1 hx<|IH _ _ _ _ _ _ _ ?_;rw[hrun];intro S' w' ρ' a' hr' hi' hF';obtain⟨rl,hrl⟩:∃l:List ResultVar,fn.results=l.toArray:=⟨fn.results.toList,by simp⟩;rw[hrl]at hres;refine ret_go hT (rs:=rl) (by cases e<;>simp) hrl hr' hF' (by simpa using hres) λx hvx=>?_;have hLR:=Hc hvx;obtain⟨ys,hys,rfl⟩:=hLR;obtain⟨S2,a1,a2,a3,a4⟩:=hfz _ S' w' ρ' ys hr' hi' hys;obtain⟨m1,m2,m3,m4⟩:=DI (h1:=(⟨H.nx,ej R H.es⟩:Hp).get) (h2:=(⟨H2.nx,es3++fj H.nx R H.es⟩:Hp).get) hr hi hin a1 a2<|key H2 es3 hn h3;refine⟨_,S2,ρ',_,_,I,⟨I,I⟩,m1,m2,m3,Hd a4,?_⟩;rcases hL' S w ρ hr with rfl|⟨g1,g2⟩
       ·intro id hid;simp at hid
       ·exact m4 L' g1 g2
      rcases yZ hok with hok|hok
      ·simp only[aaa]at hok;refine⟨L,.inl I,main L λS w ρ hr=>.inr ⟨hok.1,λid hid=>?_⟩⟩;have hmem:=List.all_eq_true.1 hok.2 id hid;simp only[Bool.not_eq_true']at hmem;by_cases hlt:Nat.blt id H.nx=true
       ·exact hout id hmem hlt
       ·exfalso;have hfree:H.get id=.free:=by unfold Hp.get;simp only[Bool.not_eq_true]at hlt;rw[hlt]
        have hnl:∀(l:YN),id∈l->cS H.get l=true->False:=by
         intro l
         induction l with
         |nil=>intro h;simp at h
         | cons j t ih=>
          intro hm hl;simp only[cS]at hl;rcases List.mem_cons.1 hm with e|e
          ·subst e;rw[hfree]at hl;cases hl
          ·split at hl
           ·exact ih e hl
           ·exact ih e hl
           ·exact ih e hl
           ·cases hl
        exact hnl L hid hok.1
      ·exact⟨[],.inr hok,main [] λ_ _ _ _=>.inl I⟩
     split at h
     ·rw[wE]at h;obtain⟨L',g1,g2⟩:=fin H1 H1.es rs rfl (λi=>.inl rfl) λK S w ρ xs h1 h2 h3=>⟨S,h1,h2,Up.refl,h3⟩;exact⟨_,_,L',g1,g2,h⟩
     ·obtain⟨rs2,H2,e1,e2,e3⟩:=BV H.nx rs H1;rw[e1]at h;rw[xo,wE]at h;obtain⟨L',g1,g2⟩:=fin H2 (ej _ H2.es) rs2 e2 (λi=>by
       rcases ur (R:=sh H2 60 (wP rs2 R) []) (i:=i) (l:=H2.es)with e|⟨_,e⟩
       ·exact .inl e
       ·exact .inr e) e3
      exact⟨_,_,L',g1,g2,h⟩
    ·exact absurd h<|hX _ _
   ·exact absurd h<|hX _ _
  ·exact absurd h<|hX _ _
  ·exact absurd h<|hX _ _
 ·exact absurd h<|hX _ _
theorem tj (hT:TabOk P T) (IH:∀p s F H K Q n,lZ P K Q n (ih p s F H)->Go P K Q p s n F H) {X:Rs->Prop} (hX:∀n m,¬X (.er n m)) {ok:Bool} {c:Option V->Hp->Rs} (h:X<|xc T ih F H L ok o c):∃u H',sG P K o L ok n F H u H'∧X (c (some u) H'):=by
 unfold xc at h;split at h
 ·rename_i v hv;exact⟨v,H,JN hT hv,h⟩
 ·rw [dI]at h;split at h
  ·rename_i v ed hv;split at h
   ·rename_i hc;rw[Hp.ap_eq]at h;refine⟨_,_,gy hT hv hc,?_⟩;cases v with
    |none=>exact h
    |some v=>exact h
   ·exact absurd h<|hX _ _
  ·split at h
   ·rename_i fid args tys hop;split at h
    ·rename_i vs hvs;split at h
     ·rename_i v hn;obtain⟨he,hnat⟩:=hT.nat _ _ _ hn;refine⟨v,H,hJ (L':=L) he (by rw[hop]) hvs (λS w ρ xs hr hi hx=>?_)<|.inl I,h⟩;obtain⟨x,h1,h2⟩:=hnat S w ρ xs hx;refine h2.mono λe w' hR=>?_;obtain⟨rfl,rfl⟩:=hR;exact⟨x,S,ρ,v,H,I,⟨I,I⟩,hr,hi,Up.refl,h1,pu⟩
     ·split at h
      ·rename_i fn hfn;obtain⟨hf,he⟩:=hT.fn _ _ hfn;split at h
       ·rename_i b hb;split at h
        ·rename_i hl;obtain⟨u,H',L',g1,g2,g3⟩:=LO (K:=K) hT IH hX hf hb hl h;exact⟨u,H',hJ he (by rw[hop]) hvs g2 g1,g3⟩
        ·exact absurd h<|hX _ _
       ·exact absurd h<|hX _ _
      ·exact absurd h<|hX _ _
    ·exact absurd h<|hX _ _
   ·exact absurd h<|hX _ _
theorem Kn{l:YN}{j:Nat}(h:EL l j=true):l=[j]:=by
 unfold EL at h;split at h
 ·rw[aag h]
 ·cases h
theorem Ft (hT:TabOk P T) (IH:∀p s F H K Q n,lZ P K Q n (ih p s F H)->Go P K Q p s n F H) {i:Nat} {ps:List<|Nat×Operand} {vs:List<|Nat×V} {v:V} (hp:uI T all i vs=some (o,ps,v)):∀(left:Nat) (listed:Array Bool) (F:Fm) (H:Hp),lZ P K Q n (Dw T ih all L m i o ps v s left listed F H)->GoP P K Q all L m left listed s n F H i o ps vs v
 | left, listed,F,H,h=>by
  unfold Dw at h;split at h
  ·rename_i hl;split at h
   ·rename_i x hrd;split at h
    ·rename_i hb;have :=aag hb;subst this;rw[Fm.puto_eq]at h;exact NX hT hp hrd hl<|IH _ _ _ _ _ _ _ h
    ·exact h.elim
   ·rename_i x y hrd;cases left with
    |zero=>exact h.elim
    | succ left=>
     simp only[dI]at h;generalize hj:IF x y i=j at h;unfold IF at hj;split at h
     ·exact h.elim
     ·rename_i hji;have hne:j≠i:=Nat.ne_of_beq_eq_false hji;split at h
      ·rename_i oj hoj;split at h
       ·rename_i hc;simp only[aaa]at hc;obtain⟨⟨⟨hc1,hc2⟩,hc3⟩,hc4⟩:=hc;split at h
        ·rename_i hw;obtain⟨u,H',hx,hk⟩:=tj (K:=K) (n:=n) hT IH (X:=lZ P K Q n) (λ_ _ h=>h) h;rw[Fm.puto_eq]at hk;have ih2:=Ft hT IH hp left _ _ _ hk;have hpair:(match Region.ready .any all listed with|[x,y]=>(Nat.beq x i&&Nat.beq y j)||(Nat.beq x j&&Nat.beq y i)|_=>false)=true:=by
          rw[hrd];simp only[];cases hx1:Nat.beq x i
          ·rw[hx1]at hj;cases hy1:Nat.beq y i
           ·rw[hy1]at hj;exact absurd hj.symm hne
           ·rw[hy1]at hj;simp only at hj;subst hj;simp
          ·rw[hx1]at hj;simp only at hj;subst hj;simp
         refine Lv hT hp hoj hpair (Kn hc1) hl (λt ht=>?_) hc2 hc3 (Array.setIfInBounds_comm _ _<|Ne.symm hne) (Post:=λu' H''=>u'=u∧H''=H') (λS w ρ a hr hi hF K2 hK2=>?_) (λu' H'' hP=>by obtain⟨rfl,rfl⟩:=hP;exact ih2)
         ·rw[ht]at hc4;simp only[Option.isNone_iff_eq_none]at hc4;exact hc4
         ·unfold wpOp;simp only[hoj];rw[if_pos<|cu hF hw];refine .inl<|hx S w ρ a hr hi hF _ _ λx S' w' ρ' hr' hi' hu hA hL hv=>hK2 x S' w' ρ' u H' ⟨I,I⟩ hr' hi' hu hA (hL.imp id λh=>?_) hv;simpa only[aaa]using h
        ·exact h.elim
       ·exact h.elim
      ·exact h.elim
   ·exact h.elim
  ·exact h.elim
theorem NZ (hT:TabOk P T) (IH:∀p s F H K Q n,lZ P K Q n (ih p s F H)->Go P K Q p s n F H) {i j:Nat} {left:Nat} {listed:Array Bool} (hrd:Region.ready .any all listed=[i,j]) (h:lZ P K Q n<|MH T ih all L m left i j listed s F H):Go P K Q (.drw all L m (left+1) listed) s n F H:=by
 unfold MH at h;split at h
 ·rename_i oi hoi;split at h
  ·rename_i oj hoj;split at h
   ·rename_i hwi;split at h
    ·rename_i hwj;obtain⟨ui,Hi,xi,hk⟩:=tj (K:=K) (n:=n) hT IH (X:=lZ P K Q n) (λ_ _ h=>h) h;rw[Fm.puto_eq]at hk;split at hk
     ·rename_i F1 H1 e1;obtain⟨uj,Hj,xj,hk2⟩:=tj (K:=K) (n:=n) hT IH (X:=lZ P K Q n) (λ_ _ h=>h) hk;rw[Fm.puto_eq]at hk2;split at hk2
      ·rename_i F2 H2 e2;split at hk2
       ·rename_i hal;have c:Go P K Q (.ex .normal) s n F1 H1:=IH _ _ _ _ _ _ _ hk2;intro S w ρ a hr hi hF;have hpin:∀id x,K.pin id=some x->id<H.nx:=λid x hx=>Decidable.byContradiction λhn=>by
         have h1:=hi.pin id x hx;have h2:=hr.ob id;have h3:H.get id=.free:=by
          unfold Hp.get;have :Nat.blt id H.nx=false:=by
           cases hb:Nat.blt id H.nx
           ·rfl
           ·exact absurd (by simpa[Nat.blt_eq]using hb) hn
          simp only[this]
         rw[h3]at h2;have h4:ρ id=none:=h2;rw[h4]at h1;cases h1
        have g1:Go P K (dR P Q s) (.drw all L m left<|listed.setIfInBounds i true) [] n (F.seto oi.dst<|some ui) Hi:=IH _ _ _ _ _ _ _ (by rw[e1];exact λS w ρ a hr hi hF=>c S w ρ a hr hi hF);have g2:Go P K (dR P Q s) (.drw all L m left<|listed.setIfInBounds j true) [] n (F.seto oj.dst<|some uj) Hj:=IH _ _ _ _ _ _ _ (by rw[e2];exact λS w ρ a hr hi hF=>go_alike hal hpin c S w ρ a hr hi hF);exact ig (by rw[hrd];simp) hoi hoj hwi hwj xi xj g1 g2 S w ρ a hr hi hF
       ·exact hk2.elim
      ·exact hk2.elim
      ·exact hk2.elim
     ·exact hk.elim
     ·exact hk.elim
    ·exact h.elim
   ·exact h.elim
  ·exact h.elim
 ·exact h.elim
theorem ut:∀{R:YN} {i:Nat} {ps:List<|Nat×Operand} {v:V},vY T F all R=some (i,o,ps,v)->∃vs,oA F ps=some vs∧uI T all i vs=some (o,ps,v)
 |[],_,_,_,h=>by cases h
 | j ::r,i,ps,v,h=>by
  unfold vY at h;split at h
  ·rename_i hj;split at h
   ·rename_i vs hvs;split at h
    ·rename_i o' ps' v' hpb;simp only[aab,Prod.mk.injEq]at h;obtain⟨rfl,rfl,rfl,rfl⟩:=h;refine⟨vs,?_,hpb⟩;have :=hpb;unfold uI at this;rw[hj]at this;simp only at this
     repeat' (split at this)
     all_goals first
      |(cases this;done)
      |(simp only[dI,aab,Prod.mk.injEq]at this;obtain⟨_,rfl,_⟩:=this;exact hvs)
    ·exact ut h
   ·exact ut h
  ·exact ut h
theorem OL (hT:TabOk P T) (hm:P.follows .mixedOrders=true) (IH:∀p s F H K Q n,lZ P K Q n (ih p s F H)->Go P K Q p s n F H):∀(p:EP) (s:List EI) (F:Fm) (H:Hp),lZ P K Q n (JM T ih p s F H)->Go P K Q p s n F H
 | .code c,s,F,H,h=>by
  replace h:lZ P K Q n (Is T ih c s F H):=h;unfold Is at h;split at h
  ·exact Ko<|IH _ _ _ _ _ _ _ h
  ·exact DX<|IH _ _ _ _ _ _ _ h
  ·exact Ho<|IH _ _ _ _ _ _ _ h
  ·exact go_ret<|IH _ _ _ _ _ _ _ h
  ·exact GP<|IH _ _ _ _ _ _ _ h
  ·exact Nh<|IH _ _ _ _ _ _ _ h
  ·exact Mt<|IH _ _ _ _ _ _ _ h
  ·exact go_loop 1000000 (IH _ _ _ _ _ _ _ h)
  ·split at h
   ·exact Ed ‹_› (IH _ _ _ _ _ _ _ h)
   ·exact Fg ‹_› (IH _ _ _ _ _ _ _ h)
   ·exact h.elim
  ·exact go_region<|IH _ _ _ _ _ _ _ h
  ·split at h
   ·rename_i hs;simp only[cZ,dI]at h;exact GB _ _ _ rfl hm hs<|IH _ _ _ _ _ _ _ h
   ·exact h.elim
  ·exact h.elim
 | .ops all rest,s,F,H,h=>by
  replace h:lZ P K Q n (Fh T ih all rest s F H):=h;unfold Fh at h;split at h
  ·exact KF<|IH _ _ _ _ _ _ _ h
  ·split at h
   ·rw[Fm.puto_eq]at h;exact Jx ‹_› (IH _ _ _ _ _ _ _ h)
   ·obtain⟨u,H',hx,hk⟩:=tj (K:=K) (n:=n) hT IH (X:=lZ P K Q n) (λ_ _ h=>h) h;rw[Fm.puto_eq]at hk;exact Pm ‹_› hx (IH _ _ _ _ _ _ _ hk)
   ·exact h.elim
 | .ex e,s,F,H,h=>by
  replace h:lZ P K Q n (Ia ih e s F H):=h;unfold Ia at h;split at h
  ·split at h
   ·exact λS w ρ a hr hi hF=>h S w ρ a hr hi hF
   ·exact λS w ρ a hr hi hF=>h S w ρ a hr hi hF
   ·exact h.elim
  ·split at h
   ·exact GH<|IH _ _ _ _ _ _ _ h
   ·exact FC<|IH _ _ _ _ _ _ _ h
   ·exact FR<|IH _ _ _ _ _ _ _ h
   ·exact h.elim
  ·split at h
   ·split at h
    ·exact h.elim
    ·exact go_xloop<|IH _ _ _ _ _ _ _ h
   ·exact go_xloopE<|IH _ _ _ _ _ _ _ h
   ·exact go_xloopR<|IH _ _ _ _ _ _ _ h
   ·exact h.elim
  ·split at h
   ·exact LD<|IH _ _ _ _ _ _ _ h
   ·exact MT<|IH _ _ _ _ _ _ _ h
   ·exact LR<|IH _ _ _ _ _ _ _ h
   ·exact h.elim
  ·split at h
   ·exact ET<|IH _ _ _ _ _ _ _ h
   ·split at h
    ·exact EK ‹_› (IH _ _ _ _ _ _ _ h)
    ·exact FU ‹_› (IH _ _ _ _ _ _ _ h)
   ·exact DJ<|IH _ _ _ _ _ _ _ h
   ·exact h.elim
 | .drw all L m left listed,s,F,H,h=>by
  replace h:lZ P K Q n (IW T ih all L m left listed s F H):=h;unfold IW at h;split at h
  ·exact Fz ‹_› (IH _ _ _ _ _ _ _ h)
  ·rename_i i R hrd;cases left with
   |zero=>exact h.elim
   | succ left=>
    simp only[]at h;split at h
    ·split at h
     ·rename_i o ho;split at h
      ·rw[Fm.puto_eq]at h;exact go_d1S hrd ho ‹_› (IH _ _ _ _ _ _ _ h)
      ·obtain⟨u,H',hx,hk⟩:=tj (K:=K) (n:=n) hT IH (X:=lZ P K Q n) (λ_ _ h=>h) h;rw[Fm.puto_eq]at hk;exact Py hrd ho ‹_› hx (IH _ _ _ _ _ _ _ hk)
      ·exact h.elim
     ·exact h.elim
    ·split at h
     ·split at h
      ·rename_i o ho;split at h
       ·rename_i hc;simp only[aaa,Bool.not_eq_true']at hc;obtain⟨⟨hc1,hc2⟩,hc3⟩:=hc;split at h
        ·rw[Fm.puto_eq]at h;exact Io hc3 ho hc2 hc1 ‹_› (IH _ _ _ _ _ _ _ h)
        ·rename_i hw;split at h
         ·rename_i v hv;rw[Fm.puto_eq]at h;exact Nw hT hc3 ho hc2 hc1 hw hv<|IH _ _ _ _ _ _ _ h
         ·split at h
          ·rename_i id hid;split at h
           ·rename_i hL;simp only[aaa,Bool.not_eq_true']at hL;obtain⟨⟨hL1,hL2⟩,hL3⟩:=hL;split at h
            ·rename_i v ed hv;rw[Fm.puto_eq]at h;exact No hT hc3 hL2 hL3 ho hc2 hc1 hw hid hL1 hv<|IH _ _ _ _ _ _ _ h
            ·exact h.elim
           ·exact h.elim
          ·exact h.elim
        ·exact h.elim
       ·exact h.elim
      ·exact h.elim
     ·split at h
      ·rename_i i' o ps v hpo;rw[Fm.puto_eq]at h;obtain⟨vs,g1,g2⟩:=ut hpo;exact Ku g1<|Ft hT IH g2 left listed _ _ h
      ·split at h
       ·exact NZ hT IH hrd h
       ·exact h.elim
theorem JT(E:TabOk P T)(G:P.follows .mixedOrders=true):∀(k:Nat) (p:EP) (s:List EI) (F:Fm) (H:Hp) (K:Ctx) (Q:Exit->Act->World->Prop) (n:Nat),lZ P K Q n (run T k p s F H)->Go P K Q p s n F H
 |0,p,s,F,H,K,Q,n,h=>h
 |k+1,p,s,F,H,K,Q,n,h=>OL E G (λp s F H K Q n h=>JT E G k p s F H K Q n h) p s F H h
def Mu (T:Tab) (k:Nat) (fid:FuncId) (vs:List V) (H:Hp):Option (List V×Hp):=match T.fn fid with
 |some fn=>match fn.body with
  |some b=>match Nat.ble vs.length fn.ntmps with
   |true=>match run T k (.code b) [] (nZ fn.ntmps vs) H with
    |.ok _ F1 H1=>match tH T H1.get F1 fn.results.toList with
     |some rs=>some (rs,H1)
     |none=>none
    |_=>none
   |false=>none
  |none=>none
 |none=>none
theorem Oi(U:TabOk P T)(hm:P.follows .mixedOrders=true){vs rs:List V}{H H1:Hp}(h:Mu T k fid vs H=some (rs,H1)){w:World}{ρ:Nat->Option Value}(hr:HRel S w ρ H.get)(hx:LRel S w ρ vs xs):cf P fid=true∧
  Calls P fid xs.toArray w λe w'=>∃S' ρ' ys,e=.returned (st ys)∧HRel S' w' ρ' H1.get∧Inv ⟨w,S,λb=>∃id,own ρ id (H.get id) b,ρ⟩ S' w' ρ' H1.get∧LRel S' w' ρ' rs ys:=by
 unfold Mu at h;split at h
 ·rename_i fn Z;obtain⟨hf,he⟩:=U.fn _ _ Z;split at h
  ·rename_i b hb;split at h
   ·rename_i hl;split at h
    ·rename_i e F1 H1' G;split at h
     ·rename_i rs' E;simp only[aab,Prod.mk.injEq]at h;obtain⟨rfl,rfl⟩:=h;refine⟨he,?_⟩;have hi1:Inv ⟨w,S,λb=>∃id,own ρ id (H.get id) b,ρ⟩ S w ρ H.get:=⟨ChgP.refl _ _,λ_ h=>h,λ_ h=>.inl h,λid b hb=>.inl ⟨id,hb⟩,λ_ _ h=>h⟩;refine Av hf hb hl hr hi1 hx<|JT U hm k _ _ _ _ _ _ _ ?_;rw[G];intro S' w' ρ' a' J hi' hF';obtain⟨rl,O⟩:∃l:List ResultVar,fn.results=l.toArray:=⟨fn.results.toList,by simp⟩;rw[O]at E;refine ret_go U (rs:=rl) (by cases e<;>simp) O J hF' (by simpa using E) λx hvx=>?_;have hLR:=Hc hvx;obtain⟨ys,hys,rfl⟩:=hLR;exact⟨S',ρ',ys,I,J,hi',hys⟩
     ·cases h
    ·cases h
   ·cases h
  ·cases h
 ·cases h
end
def Dx:List YB->List V->Bool
 |[],[]=>true
 |s::r,.str l::q=>lEq s l&&Dx r q
 |_,_=>false
def FG(ls:List YB):V->Bool
 |.nils=>ls.isEmpty
 |.row sz els=>Nat.beq sz 1&&Dx ls els
 |_=>false
mutual
def treeB:Tree->V->Bool
 |.node k s ls ks,v=>match v with
  |.agg [.int .i64 k',.str s',l,r]=>iEq k k'&&lEq s s'&&FG ls l&&(match r with
   |.nils=>ks.isEmpty
   |.row sz els=>Nat.beq sz 4&&kidsB ks els
   |_=>false)
  |_=>false
def kidsB:YT->List V->Bool
 |[],vs=>match vs with
  |[]=>true
  |_=>false
 |t::r,vs=>match vs with
  |v::q=>treeB t v&&kidsB r q
  |[]=>false
end
section
variable{S:Nat->Prop}{w:World}
theorem Fw{ρ:Nat->Option Value}:∀{ls:List YB} {els:List V} {xs:List Value},Dx ls els=true->CRel S w ρ 1 els xs->els.length=ls.length∧xs=ls.map kg
 |[],[],xs,_,E=>by simp only[CRel]at E;subst E;exact⟨rfl,rfl⟩
 |s::r,v::q,xs,hb,E=>by
  cases v<;>simp only[Dx]at hb<;>first|(cases hb;done)|skip
  rename_i l;simp only[aaa]at hb;have G:=hb.1;rw[vW]at G;simp only[aaq]at G;subst G;simp only[CRel]at E;obtain⟨x,ys,rfl,_,J,O⟩:=E;simp only[VRel]at J;subst J;obtain⟨U,Z⟩:=Fw hb.2 O;exact⟨by simp[U],by simp[Z,Value.cells]⟩
 |[],_::_,_,hb,_=>by cases hb
 |_::_,[],_,hb,_=>by cases hb
theorem KX{ρ:Nat->Option Value}{ls:List YB}{v:V}{x:Value}(hb:FG ls v=true)(hx:VRel S w ρ v x):∃A m,x=.slice A ls.length m∧ls.length<=m∧m<=maxLen∧RowIn S w 1 A ls.length (ls.map kg):=by
 cases v<;>simp only[FG]at hb<;>first|(cases hb;done)|skip
 ·simp only[List.isEmpty_iff]at hb;subst hb;simp only[VRel]at hx;subst hx;exact⟨none,0,rfl,aaf _,by decide,RowIn.none_⟩
 ·rename_i sz els;simp only[aaa,Nat.beq_eq]at hb;obtain⟨rfl,hb⟩:=hb;simp only[VRel]at hx;obtain⟨A,c,xs,rfl,E,J,O,G⟩:=hx;obtain⟨U,rfl⟩:=Fw hb O;rw[U]at E G⊢;exact⟨A,c,I,E,J,G⟩
mutual
theorem treeB_ok{ρ:Nat->Option Value}:∀{t:Tree} {v:V} {x:Value},treeB t v=true->VRel S w ρ v x->∃c,x=.agg c.toArray∧TreeIs S w t c
 | .node k s ls ks,v,x,hb,hx=>by
  unfold treeB at hb;split at hb
  ·rename_i k' s' l r;simp only[aaa]at hb;obtain⟨⟨⟨hb1,hb2⟩,hb3⟩,hb4⟩:=hb;rw[yA]at hb1;rw[vW]at hb2;simp only[aaq]at hb1 hb2;subst hb1 hb2;simp only[VRel]at hx;obtain⟨xs,rfl,hl⟩:=hx;simp only[LRel]at hl;obtain⟨x0,_,rfl,h0,x1,_,rfl,h1,x2,_,rfl,h2,x3,_,rfl,h3,rfl⟩:=hl;simp only[VRel]at h0 h1;subst h0 h1;obtain⟨A,m,rfl,g1,g2,g3⟩:=KX hb3 h2;have kk:∃B n,x3=.slice B ks.length n∧ks.length<=n∧n<=maxLen∧∃cs,KidsAre S w ks cs∧RowIn S w 4 B ks.length cs:=by
    split at hb4
    ·simp only[List.isEmpty_iff]at hb4;subst hb4;simp only[VRel]at h3;subst h3;exact⟨none,0,rfl,aaf _,by decide,[],by simp only[KidsAre],RowIn.none_⟩
    ·rename_i sz els;simp only[aaa,Nat.beq_eq]at hb4;obtain⟨rfl,hb4⟩:=hb4;simp only[VRel]at h3;obtain⟨B,c,ys,rfl,q3,q4,q5,q6⟩:=h3;obtain⟨q7,q8⟩:=kidsB_ok hb4 q5;rw[q7]at q3 q6⊢;exact⟨B,c,rfl,q3,q4,ys,q8,q6⟩
    ·cases hb4
   obtain⟨B,n,rfl,k1,k2,cs,k3,k4⟩:=kk;exact⟨_,rfl,Oo g1 g2 k1 k2 g3 k3 k4⟩
  ·cases hb
theorem kidsB_ok{ρ:Nat->Option Value}:∀{ts:YT} {vs:List V} {xs:List Value},kidsB ts vs=true->CRel S w ρ 4 vs xs->vs.length=ts.length∧KidsAre S w ts xs
 |[],vs,xs,hb,hc=>by
  unfold kidsB at hb;split at hb
  ·simp only[CRel]at hc;subst hc;exact⟨rfl,by simp only[KidsAre]⟩
  ·cases hb
 | t::r,vs,xs,hb,hc=>by
  unfold kidsB at hb;split at hb
  ·rename_i v q;simp only[aaa]at hb;simp only[CRel]at hc;obtain⟨x,ys,rfl,_,h3,h4⟩:=hc;obtain⟨c,rfl,hT⟩:=treeB_ok hb.1 h3;obtain⟨h5,h6⟩:=kidsB_ok hb.2 h4;exact⟨by simp[h5],by simp only[KidsAre];exact⟨c,ys,by simp[Value.cells],hT,h6⟩⟩
  ·cases hb
end
end
def FX(T:Tab)(k:Nat)(fid:FuncId)(vs:List V):Option (List V):=match Mu T k fid vs ⟨0,[]⟩with
 |some (rs,H1)=>En 0 H1 rs λrs' _=>some rs'
 |none=>none
theorem yx(i:Nat):(⟨0,[]⟩:Hp).get i=.free:=by
 unfold Hp.get;have :Nat.blt i 0=false:=by cases i<;>rfl
 simp only[this]
theorem Nq{w:World}(E:SOk S w):HRel S w (λ_=>none) (⟨0,[]⟩:Hp).get:=
 ⟨λi=>by rw[yx];rfl,λi b hb=>by rw[yx]at hb;exact hb.elim,λi j b hb _=>by rw[yx]at hb;exact hb.elim,E⟩
theorem OV{P:Program}{T:Tab}(U:TabOk P T)(Z:P.follows .mixedOrders=true){vs rs:List V}(h:FX T k fid vs=some rs){w:World}(hg:SOk S w)(hx:LRel S w (λ_=>none) vs xs):
  Calls P fid xs.toArray w λe w'=>∃S' ρ' ys,e=.returned (st ys)∧SOk S' w'∧(∀b,S b->S' b)∧(∀b,S' b->S b∨w.heap.size<=b)∧Chg [] w w'∧LRel S' w' ρ' rs ys:=by
 unfold FX at h;split at h
 ·rename_i J H1 E;obtain⟨rs2,H2,e1,_,e3⟩:=BV 0 J H1;rw[e1]at h;injection h with h;subst h
  refine(Oi U Z E (Nq hg) hx).2.mono λe w' hR=>?_;obtain⟨S',ρ',ys,rfl,hr,hi,hl⟩:=hR;obtain⟨S2,a1,O,a3,a4⟩:=e3 _ S' w' ρ' ys hr hi hl;have G:∀b,¬∃id,own (λ_=>none) id ((⟨0,[]⟩:Hp).get id) b:=λb ⟨id,hb⟩=>by rw[yx]at hb;exact hb
  refine⟨S2,ρ',ys,I,a1.slt,O.s0,λb hb=>?_,⟨hi.chg.os,hi.chg.tape,hi.chg.output,hi.chg.size,λb hb _=>hi.chg.block b hb<|G b⟩,a4⟩;rcases O.s1 b hb with h|h|h
  ·exact .inl h
  ·exact absurd h<|G b
  ·exact .inr h
 ·cases h
def Mo(fid:FuncId)(vs:List V):Option V:=match Nat.beq fid 134 with
 |true=>match vs with
  |[.str s,.int .u8 (.ofNat c)]=>Ij (Lib.indexByte s c.toUInt8) λn=>some<|.int .i64 n
  |_=>none
 |false=>none
noncomputable def Ih:Tab:=⟨true,rR tyL,rR fnL,Mo,λf=>Nat.beq f 46⟩
theorem NM:TabOk prog Ih:=by
 refine⟨KR,Qh,λi vs v hv=>?_⟩;replace hv:Mo i vs=some v:=hv;unfold Mo at hv;split at hv
 ·rename_i hb;have :=aag hb;subst this;split at hv
  ·rename_i s c;rw[Gx]at hv;injection hv with hv;subst hv
   refine⟨by kernel_rfl,λS w ρ xs hx=>?_⟩;simp only[LRel]at hx;obtain⟨G,_,rfl,E,J,_,rfl,h1,rfl⟩:=hx;simp only[VRel]at E h1;subst E h1;exact⟨_,by simp only[VRel];rfl,IX _ _ _⟩
  ·cases hv
 ·cases hv
def zy(t:Tree):Option (List V)->Bool
 |some [v,.int .i64 a,.int .i64 e]=>treeB t v&&iEq a 0&&iEq e 0
 |_=>false
variable{l:YB}
theorem JU(h:zy t (FX Ih k 19 [.str l])=true){w:World}(hg:SOk S w):Calls prog 19 [kg l].toArray w λe w'=>∃S' c0 E G J,e=.returned (.tuple #[.agg #[c0,E,G,J],.int .i64 0,.int .i64 0])∧SOk S' w'∧(∀b,S b->S' b)∧(∀b,S' b->S b∨w.heap.size<=b)∧TreeIs S' w' t [c0,E,G,J]∧Chg [] w w':=by
 unfold zy at h;split at h
 ·rename_i v a e hr;simp only[aaa,yA,aaq]at h;obtain⟨⟨h1,rfl⟩,rfl⟩:=h;refine(OV NM (by kernel_rfl) hr hg (xs:=[kg l]) ⟨_,[],rfl,by simp only[VRel],rfl⟩).mono λe w' hR=>?_;obtain⟨S',ρ',ys,rfl,g0,g1,g2,g4,U⟩:=hR;simp only[LRel]at U;obtain⟨x0,_,rfl,h0,x1,_,rfl,h2,x2,_,rfl,Z,rfl⟩:=U;simp only[VRel]at h2 Z;subst h2 Z;obtain⟨c,rfl,O⟩:=treeB_ok h1 h0;have h4:=O.four
  match c,h4,O with
  |[c0,E,G,J],_,O=>exact⟨S',c0,E,G,J,rfl,g0,g1,g2,O,g4⟩
 ·cases h
section
variable{S:Nat->Prop}{w:World}{ρ:Nat->Option Value}
theorem Ex:∀ls:List YB,CRel S w ρ 1 (ls.map .str) (ls.map kg)
 |[]=>by simp[CRel]
 |s::r=>by simp only[aah,CRel];exact⟨kg s,r.map kg,by simp[Value.cells,kg],⟨rfl,rfl⟩,by unfold VRel;rfl,Ex r⟩
theorem DD:∀ls:YI,CRel S w ρ 1 (ls.map<|V.int .i64) (ls.map λz=>.int .i64 z)
 |[]=>by simp[CRel]
 |s::r=>by simp only[aah,CRel];exact⟨.int .i64 s,_,by simp[Value.cells],⟨rfl,rfl⟩,by unfold VRel;rfl,DD r⟩
mutual
theorem TreeIs.vrel:∀{ρ:Nat->Option Value} {t:Tree} {c:List Value},TreeIs S w t c->LRel S w ρ (am t) c
 |ρ,.node k s ls ks,c,h=>by simp only[TreeIs]at h;obtain⟨A,m,B,n,rfl,h1,h2,h3,h4,h5,cs,h6,h7⟩:=h;simp only[am,Tree.kind,Tree.text,Tree.leads,Tree.kids,LRel,VRel];exact⟨_,_,rfl,rfl,_,_,rfl,rfl,_,_,rfl,⟨A,m,_,by simp,by simpa using h1,h2,Ex ls,by simpa using h5⟩,_,_,rfl,⟨B,n,cs,by simp[fM],by simpa[fM]using h3,h4,KidsAre.crel h6,by simpa[fM]using h7⟩,rfl⟩
theorem KidsAre.crel:∀{ρ:Nat->Option Value} {ts:YT} {cs:List Value},KidsAre S w ts cs->CRel S w ρ 4 (kidsV ts) cs
 |ρ,[],cs,h=>by simp only[KidsAre]at h;simp only[kidsV,CRel];exact h
 |ρ,t::r,cs,h=>by simp only[KidsAre]at h;obtain⟨c,d,rfl,h1,h2⟩:=h;simp only[kidsV,CRel,kX];exact⟨.agg c.toArray,d,by simp[Value.cells],⟨by simp[Value.cells,h1.four],by simpa[Value.cells]using h1.one⟩,by simp only[VRel];exact⟨c,rfl,h1.vrel⟩,KidsAre.crel h2⟩
end
end
theorem Pe(h:zy t (FX Ih k 19 [.str l])=true):tI prog 19 [.str l] (.tup [.agg<|am t,.int .i64 0,.int .i64 0]):=by
 refine⟨I,I,λS w ρ xs hr hx=>?_⟩;simp only[LRel,VRel]at hx;obtain⟨x,ys,rfl,rfl,rfl⟩:=hx;refine(JU h hr.slt).mono ?_;rintro e w' ⟨S',c0,E,G,J,rfl,g0,g1,g2,U,O⟩;have g:=hr.chg0 O;refine⟨_,S',ρ,_,⟨0,[]⟩,I,I,⟨λi=>?_,λi b hb=>?_,λi j b hb _=>?_,g0⟩,⟨ChgP.of0 O,g1,λb hb=>(g2 b hb).elim .inl λh=>.inr<|.inr h,λid b hb=>.inl ⟨id,hb⟩,λid x h=>?_⟩,?_⟩
 ·have :=g.ob i;rw[yx]at this⊢;exact this
 ·rw[yx]at hb;exact hb.elim
 ·rw[yx]at hb;exact hb.elim
 ·simp only[uN]at h;split at h
  ·exact h
  ·cases h
 ·have Z:=TreeIs.vrel (ρ:=ρ) U;simp only[VRel];exact⟨[.agg #[c0,E,G,J],.int .i64 0,.int .i64 0],rfl,.agg #[c0,E,G,J],_,rfl,by simp only[VRel];exact⟨_,rfl,Z⟩,_,_,rfl,by simp only[VRel],_,_,rfl,by simp only[VRel],rfl⟩
abbrev TT:TypeId:=26
abbrev SPT:TypeId:=98
abbrev IN:TypeId:=3
variable{x:Operand}
variable{b:Nat}
section
variable{P:Program}{a:Act}{w:World}{n:Nat}{f:Nat->Option Value}
theorem Qz(h:Fr a n f):Fr a n (fA a):=⟨h.size,h.defers,λi v hi=>hi⟩
theorem BJ(h:Fr a n f)(hx:aE f x=some v):aE (fA a) x=some v:=by
 cases x with
 |tmp t=>exact h.get t v hx
 |_=>exact hx
theorem Gu{y:Operand}{t e:TypeId}{sz by_ O m c off:Nat}{z u:Value}{ns:List Value}(h:Fr a n f)(hx:aE f x=some u)(hy:aE f y=some (.slice (some ⟨b,off,none⟩) m c))(hu:w.ownsRow 0 e sz u O xs)(hn:ns.length=m*sz)(hc:∀j q,ns[j]?=some q->w.cell? ⟨b,off+j,none⟩=some q)(h1:∀q∈ns,q.oneCell'=true)(ht:P.underlying t=some (.slice e))
  (hi:(P.info? e).map (λi=>(i.zero,i.size,i.bytes))=some (some z,sz,by_)) (hzs:z.cells.size=sz) (hsz:0<sz) (U:Nat.ble by_ 1000=true) (hl:O+m<=1000000000) (ty:TypeId):
  ∃E w',Runs P a ty (.call {callee:=.builtin .append,args:=#[x,y],argTypes:=#[t,t]}) w (.value E) w'∧w'.ownsRow 0 e sz E (O+m) (xs++ns)∧Chg u.ownBlock.toList w w'∧(E.ownBlock=u.ownBlock∨E.ownBlock=some w.heap.size):=by
 obtain⟨i0,Z,G⟩:=Option.map_eq_some_iff.1 hi;simp only[Prod.mk.injEq]at G;obtain⟨hz,hs,hb0⟩:=G;have hb':by_<=1000:=Nat.le_of_ble_eq_true U;have hmul:=Nat.mul_le_mul hl hb';obtain⟨E,w',J,h2,h3,_,h5⟩:=run_append_own_at (P:=P) w 0 t ty e i0 z sz by_ ht Z hz hs hb0 hzs hsz u O xs hu ⟨b,off,none⟩ m c ns hn
  (λj q hq=>by rw[rr];exact hc j q hq) h1 (by simp only[maxLen];omega) (by omega) (aar _)
 refine⟨E,w',λ_ _ _ _=>?_,h2,Chg.grown h3,h5⟩;simp only[execOp,resolve,invoke,builtin,List.map_toArray,aah,aav,h.eval hx,h.eval hy];simp[J]
theorem JC{y:Operand}{t e:TypeId}{g c sz N o:Nat}(h:Fr a n f)(hx:aE f x=some (.pointer<|some ⟨g,o,none⟩))(hy:aE f y=some v)(hz:dm P t=some 1)(h1:v.oneCell'=true)(ho:w.ownsRow 0 e sz (.slice (some ⟨g,0,none⟩) N c) N xs)(J:o<N*sz)(ty:TypeId):
  ∃w',Runs P a ty (.store t x y) w .skip w'∧w'.ownsRow 0 e sz (.slice (some ⟨g,0,none⟩) N c) N (xs.set o v)∧Chg [g] w w':=by
 obtain⟨O,h2⟩:=ho;rcases h2 with⟨U,_⟩|⟨g',cap,cur,hv,hb,Z,E,h5,h6,h7⟩
 ·cases U
 simp only[Value.slice.injEq,aab,Addr.mk.injEq,and_true,true_and]at hv;obtain⟨rfl,rfl⟩:=hv;have hB:Blk w g e cur.toList:=by unfold Blk;rw[Z]
 have G:N*sz<=c*sz:=Nat.mul_le_mul_right _ E;obtain⟨w',r1,r2,r3⟩:=LC (P:=P) (t:=t) h hx hy hz h1 hB (by simp;omega) ty;refine⟨w',r1,⟨by simpa using O,.inr ⟨g,c,(cur.toList.set o v).toArray,I,hb,r2,E,h5,by simpa using h6,?_⟩⟩,r3⟩;rw[<-h7];simp[List.take_set]
end
def ftF:Nat->Nat->Option Nat:=ftG [(TT,3,3),(SPT,3,6)]
theorem QY:∀t i k,ftF t i=some k->io prog t i=some k:=DE _ (by kernel_rfl)
def DB(n:Nat):Nat->Pt->List It->(Nat->Option Value)->Pt×List It×(Nat->Option Value)
 |0,p,s,f=>(p,s,f)
 |k+1,p,s,f=>match iq ftF n 1 p s f with
  |some (p',s',f')=>DB n k p' s' f'
  |none=>(p,s,f)
section
variable{Q:Exit->Act->World->Prop}{w:World}{n:Nat}
theorem rGf:∀(k:Nat) {p p':Pt} {s s':List It} {f f':Nat->Option Value} {a:Act},Fr a n f->DB n k p s f=(p',s',f')->(∀a',Fr a' n f'->Pt.wp prog Q p' s' a' w)->Pt.wp prog Q p s a w
 |0,p,p',s,s',f,f',a,h,hr,kk=>by simp only[DB,Prod.mk.injEq]at hr;obtain⟨rfl,rfl,rfl⟩:=hr;exact kk a h
 | k+1,p,p',s,s',f,f',a,h,hr,kk=>by
  simp only[DB]at hr;split at hr
  ·rename_i p1 s1 f1 he;exact dL QY 1 p s f a h he λa' h'=>rGf k h' hr kk
  ·simp only[Prod.mk.injEq]at hr;obtain⟨rfl,rfl,rfl⟩:=hr;exact kk a h
end
theorem PD{w:World}{ks:YT}{cs:List Value}(U:KidsAre S w ks cs)(hi:i<ks.length):∃E G J O,TreeIs S w ks[i] [E,G,J,O]∧∀j,j<4->cs[i*4+j]?=([E,G,J,O]:List Value)[j]?:=by
 obtain⟨c0,Z,c2,c3,hT,h0,h1,h2,h3⟩:=U.at_ hi;refine⟨c0,Z,c2,c3,hT,λj hj=>?_⟩;rcases(by omega:j=0∨j=1∨j=2∨j=3)with rfl|rfl|rfl|rfl
 ·exact h0
 ·exact h1
 ·exact h2
 ·exact h3
section
variable{S:Nat->Prop}{w:World}
theorem CO{ρ:Nat->Option Value}:∀{ls:List YB} {xs:List Value},CRel S w ρ 1 (ls.map .str) xs->xs=ls.map kg
 |[],xs,h=>by simpa[CRel]using h
 |s::r,xs,h=>by simp only[aah,CRel,VRel]at h;obtain⟨x,ys,rfl,_,rfl,h2⟩:=h;rw[CO h2];simp[Value.cells,kg]
mutual
theorem LRel.tree:∀{ρ:Nat->Option Value} {t:Tree} {c:List Value},LRel S w ρ (am t) c->TreeIs S w t c
 |ρ,.node k s ls ks,c,h=>by simp only[am,Tree.kind,Tree.text,Tree.leads,Tree.kids,LRel,VRel]at h;obtain⟨_,_,rfl,rfl,_,_,rfl,rfl,_,_,rfl,⟨A,m,xs,rfl,h1,h2,h3,h4⟩,_,_,rfl,⟨B,n,cs,rfl,h5,h6,h7,h8⟩,rfl⟩:=h;have e:=CO h3;subst e;simp only[TreeIs];exact⟨A,m,B,n,by simp[fM],by simpa using h1,h2,by simpa[fM]using h5,h6,by simpa using h4,cs,CRel.kids h7,by simpa[fM]using h8⟩
theorem CRel.kids:∀{ρ:Nat->Option Value} {ts:YT} {cs:List Value},CRel S w ρ 4 (kidsV ts) cs->KidsAre S w ts cs
 |ρ,[],cs,h=>by simpa only[kidsV,CRel,KidsAre]using h
 |ρ,t::r,cs,h=>by simp only[kidsV,CRel,kX,VRel]at h;obtain⟨x,ys,rfl,⟨g1,g2⟩,⟨xs,rfl,h2⟩,h3⟩:=h;simp only[KidsAre];exact⟨xs,ys,by simp[Value.cells],LRel.tree h2,CRel.kids h3⟩
end
end
theorem Of{a:Act}{w:World}{n:Nat}{f:Nat->Option Value}{y z:Operand}{c:List Value}{k l:Int}{ty:TypeId}(h:Fr a n f)(hx:aE f x=some (.agg c.toArray))(U:c.length=4)(h1:c.all (·.oneCell')=true)(hy:aE f y=some (.int .i64 k))(hz:aE f z=some (.int .i64 l)):
  Runs prog a ty (.build SPT #[(0,x),(1,y),(2,z)]) w (.value<|.agg (c++([.int .i64 k,.int .i64 l,.slice none 0 0]:List Value)).toArray) w:=by
 match c,U,hx,h1 with
 |[c0,G,J,O],_,hx,h1=>
 simp only[List.all_cons,List.all_nil,Bool.and_true,aaa]at h1;have hb:=Gv (P:=prog) (S:=λ_=>False) (w:=w) (ρ:=ρ0) (ty:=ty) (t:=SPT) (ps:=[(0,x),(1,y),(2,z)]) (vs:=[(0,.agg [.raw c0,.raw G,.raw J,.raw O]),(1,.int .i64 k),(2,.int .i64 l)]) (ys:=[(0,.agg [c0,G,J,O].toArray),(1,.int .i64 k),(2,.int .i64 l)])
  (pl:=[(0,4),(4,1),(5,1),(6,1)]) (z:=[.int .i64 0,.string ⟨#[]⟩,.slice none 0 0,.slice none 0 0,.int .i64 0,.int .i64 0,.slice none 0 0]) (zv:=[.int .i64 0,.str [],.nils,.nils,.int .i64 0,.int .i64 0,.nils]) (place:=λi=>([(0,4),(4,1),(5,1),(6,1)]:List<|Nat×Nat)[i]?) (cs:=[.raw c0,.raw G,.raw J,.raw O,.int .i64 k,.int .i64 l,.nils])
  (Qz h) (by simp[eL,BJ h hx,BJ h hy,BJ h hz]) (by simp only[jH,VRel,LRel];exact⟨_,_,rfl,⟨_,rfl,_,_,rfl,⟨rfl,h1.1⟩,_,_,rfl,⟨rfl,h1.2.1⟩,_,_,rfl,⟨rfl,h1.2.2.1⟩,_,_,rfl,⟨rfl,h1.2.2.2⟩,rfl⟩,_,_,rfl,rfl,_,_,rfl,rfl,rfl⟩)
  (by kernel_rfl) (by simp[LRel,VRel]) (by kernel_rfl) (λi p h=>h) rfl
 obtain⟨Z,E,hr⟩:=hb;simp only[VRel,LRel]at E;obtain⟨_,rfl,_,_,rfl,⟨rfl,_⟩,_,_,rfl,⟨rfl,_⟩,_,_,rfl,⟨rfl,_⟩,_,_,rfl,⟨rfl,_⟩,_,_,rfl,rfl,_,_,rfl,rfl,_,_,rfl,rfl,rfl⟩:=E;exact hr w Agree.refl
def Fs(t:Tree):Prop:=∀(w:World) (S:Nat->Prop) (ct:List Value) (par ix:Int) (v:Value) (n:Nat) (xs:List Value),n+nN t<=1000000000->tbulk t<=1000000000->(∀b,S b->b<w.heap.size)->TreeIs S w t ct->w.ownsRow 0 SPT 7 v n xs->(∀b,v.ownBlock=some b->¬S b)->
 Calls prog 23 #[.agg ct.toArray,.int .i64 par,.int .i64 ix,v] w λe w'=>∃E ys,e=.returned E∧w'.ownsRow 0 SPT 7 E (n+nN t) (xs++ys)∧ChgP (λb=>v.ownBlock=some b) w w'∧(E.ownBlock=v.ownBlock∨∃b,E.ownBlock=some b∧w.heap.size<=b)∧
  CRel (λb=>S b∨(w.heap.size<=b∧b<w'.heap.size∧E.ownBlock≠some b)) w' ρ0 7 ((flatK t par ix n).map ae.w) ys
theorem MC{S':Nat->Prop}{w:World}{c:List Value}{par ix:Int}{kv:Value}{nums:YI}(Z:TreeIs S' w t c)(E:w.ownsRow 0 IN 1 kv nums.length<|nums.map<|Value.int .i64)(hS:∀b,kv.ownBlock=some b->S' b):VRel S' w ρ0 (ae.w ⟨t,par,ix,nums⟩) (.agg (c++[.int .i64 par,.int .i64 ix,kv]).toArray):=by
 simp only[VRel];have hv:=Z.vrel (ρ:=ρ0);obtain⟨A,m,rfl,G,J⟩:=cq E;refine⟨_,I,LRel.append (us:=[.int .i64 par,.int .i64 ix,.row 1<|List.map (V.int .i64) nums]) hv ?_⟩;simp only[LRel,VRel];refine⟨_,_,I,I,_,_,I,I,_,_,I,⟨A,m,nums.map<|Value.int .i64,by rw[aan],by rw[aan];exact G,J,?_,?_⟩,I⟩
 ·have :∀l:YI,CRel S' w ρ0 1 (l.map<|V.int .i64) (l.map<|Value.int .i64):=λl=>by
   induction l with
   |nil=>simp[CRel]
   |cons x r ih=>simp only[aah,CRel,VRel];exact⟨_,_,rfl,⟨rfl,rfl⟩,rfl,ih⟩
  exact this nums
 ·rw[aan];refine⟨by simp,λhn=>?_⟩;obtain⟨g,cap,O,_⟩:=E.form hn;injection O with e1 _ e3
  subst e1 e3;have U:=E.lt g rfl;exact⟨g,0,I,hS g I,U.2,λj hj=>by rw[Nat.zero_add];exact ij E hj⟩
theorem Mz{zs:List Value}{a0 a1 E G J O U u:Value}:(xs++[a0,a1,E,G,J,O,U]++zs).set (xs.length+6) u=xs++[a0,a1,E,G,J,O,u]++zs:=by
 rw[aai,List.set_append_right _ _<|by omega];simp
theorem MS(xs zs:List Value)(a0 a1 G J O U E:Value):(xs++[a0,a1,G,J,O,U,E]++zs)[xs.length+6]?=some E:=by
 rw[aai,List.getElem?_append_right<|by omega];simp
theorem Kd (t:Tree) (ih:∀(i:Nat) (u:Tree),t.kids[i]?=some u->Fs u):Fs t:=by
  obtain⟨k,s,ls,ks⟩:=t;intro w S ct par ix v n xs hn hbk hS hT hO hvS;have hT0:=hT;simp only[TreeIs]at hT;obtain⟨A,m,B',n',rfl,hm1,hm2,hm3,hm4,hA,kcs,hKT,hKR⟩:=hT;simp only[Tree.kids]at ih;simp only[tbulk]at hbk;simp only[nN]at hn;have hkl:=fP ks;have hnl:=vS ks;have hxl:xs.length=n*7:=hO.1;have hvlt:∀b,v.ownBlock=some b->b<w.heap.size:=λb hb=>(hO.lt b hb).2;obtain⟨A0,c0,hv0,hc0,hc1⟩:=cq hO;refine rE 49 func23 I I I ?_;intro a hf;refine rGf 60 hf I ?_;clear hf a;intro a hf;obtain⟨w1,b4,he,hB4,hx1,e4,l4⟩:=JR (P:=prog) (t:=TT) (x:=(.tmp 0)) hf rfl rfl w 0;refine rV hf I he ?_;clear he hf a;intro a hf;have hO1:w1.ownsRow 0 SPT 7 v n xs:=cR hO λb hb=>hx1.block b (hvlt b hb) nm0;subst hv0;refine rGf 60 hf I ?_;clear hf a;intro a hf;refine rV hf I (vZ hf underlying59 I) ?_;clear hf a;intro a hf;refine rGf 60 hf I ?_;clear hf a;intro a hf;refine rV hf I (Df (m:=4) hf I (by kernel_rfl) hB4 I) ?_;clear hf a;intro a hf;refine rGf 60 hf I ?_;clear hf a;intro a hf;refine rV hf I (Of hf I I I I I) ?_;clear hf a;intro a hf
  skip
  obtain⟨w2,g2,he,hG2,hx2,eg2,lg2⟩:=sb (P:=prog) (t:=59) (m:=1) (ps:=[(0,.tmp 18)]) (sz:=7) hf rfl underlying59 (by kernel_rfl) (z:=[.int .i64 0,.string ⟨#[]⟩,.slice none 0 0,.slice none 0 0,.int .i64 0,.int .i64 0,.slice none 0 0]) (by kernel_rfl) rfl rfl rfl rfl w1 0;refine rV hf I he ?_;clear he hf a;intro a hf;have s1:=hx1.size;have s2:=hx2.size;have hO2:w2.ownsRow 0 SPT 7 (.slice A0 n c0) n xs:=cR hO1 (λb hb=>hx2.block b (by have :=hvlt b hb;omega) nm0);have hB4':=hB4.c0 hx2;obtain⟨v1,w3,he,hO3,hx3,hv1⟩:=Gu (P:=prog) (x:=.tmp 14) (y:=.tmp 19) (t:=59) (z:=.agg #[.int .i64 0,.string ⟨#[]⟩,.slice none 0 0,.slice none 0 0,.int .i64 0,.int .i64 0,.slice none 0 0]) (by_:=112) hf rfl rfl hO2 rfl (λj q hq=>by rw[Nat.zero_add,hG2.cell];exact hq) (λq hq=>by simp[Value.cells]at hq;rcases hq with rfl|rfl|rfl|rfl|rfl|rfl|rfl<;>rfl) underlying59 (by kernel_rfl) rfl (by decide) rfl (by omega) 0;refine rV hf I he ?_;clear he hf a;intro a hf;have s3:=hx3.size;have hB4:=hB4'.chg hx3 (by
    intro hc;have :=hvlt b4 (by simpa using hc);omega)
  have hC:ChgP (λb=>(Value.slice A0 n c0).ownBlock=some b) w w3:=((ChgP.of0 hx1 (X:=λb=>(Value.slice A0 n c0).ownBlock=some b)).trans (ChgP.of0 hx2 (X:=λ_=>False)) (λ_ h=>h.elim)).trans (ChgP.of hx3) (λb hb=>.inl (by simpa using hb));have hv1':v1.ownBlock=(Value.slice A0 n c0).ownBlock∨∃b,v1.ownBlock=some b∧w.heap.size<=b:=hv1.imp id λh=>⟨_,h,by omega⟩;obtain⟨v,hv⟩:∃v,v=Value.slice A0 n c0:=⟨_,rfl⟩;rw[<-hv]at hC hv1' hvS hvlt;clear hx1 hx2 hx3 hO hO1 hO2 hG2 hB4' hv1;refine rGf 60 hf I ?_;clear hf a;intro a hf;refine rV hf I (Md hf I (by kernel_rfl) hB4 I) ?_;clear hf a;intro a hf;refine rV hf I (vZ hf underlying22 I) ?_;clear hf a;intro a hf;refine rGf 60 hf I ?_;clear hf a;intro a hf;have out:∀(w':World),ChgP (λb=>v.ownBlock=some b) w w'->∀x,S x->x<w.heap.size->w'.heap[x]?=w.heap[x]?:=λw' hc x h1 h2=>hc.block x h2 (λh=>hvS x h h1);refine rL (λmm a w'=>∃(i:Nat) (vi kv:Value) (zs:List Value),mm=ks.length-i∧i<=ks.length∧Fr a 49 (fm [(3,vi),(9,.int .i64 (n:Nat)),(22,.slice B' ks.length n'),(23,.int .i64 (ks.length:Nat)),(24,.int .i64 (i:Nat))])∧
      ChgP (λb=>v.ownBlock=some b) w w'∧w'.ownsRow 0 SPT 7 vi (n+1+nNs (ks.take i)) (xs++[.int .i64 k,kg s,.slice A ls.length m,.slice B' ks.length n',.int .i64 par,.int .i64 ix,kv]++zs)∧(vi.ownBlock=v.ownBlock∨∃b,vi.ownBlock=some b∧w.heap.size<=b)∧
      w'.ownsRow 0 IN 1 kv i ((fU (ks.take i)<|n+1).map<|Value.int .i64)∧(∀b,kv.ownBlock=some b->w.heap.size<=b∧vi.ownBlock≠some b)∧
      CRel (λb=>S b∨(w.heap.size<=b∧b<w'.heap.size∧vi.ownBlock≠some b∧kv.ownBlock≠some b)) w' ρ0 7 ((flatKs (ks.take i) n 0 (n+1)).map ae.w) zs) ks.length
    ⟨0,v1,.slice none 0 0,[],by omega,aar _,hf.pick ⟨rfl,rfl,rfl,rfl,rfl,trivial⟩,hC,by simpa[nNs,Value.cells]using hO3,hv1',by simpa[fU]using World.ownsRow_nil w3 0 IN 1,λb hb=>by simp[Value.ownBlock]at hb,by simp[flatKs,CRel]⟩ ?_
  clear hf a hC hO3 hv1' hB4;rintro _ a w7 ⟨i,vi,kv,zs,rfl,hi1,hf,hC,hO,hvi,hK,hkv,hZ⟩;have htl:nNs (ks.take i)<=nNs ks:=lM ks i;by_cases hlt:i<ks.length
  · skip
    obtain⟨kb,ko,rfl,hkS,hkb,hcell⟩:=hKR.2 (by omega);obtain⟨d0,d1,d2,d3,hT,hKc⟩:=PD hKT hlt;have hu:=List.getElem?_eq_getElem hlt;have htk:=hW hu;have htb:=bX hu;have on_T:=hT.one;have s7:=hC.size;replace hT:=hT.keepB (S':=S) (w':=w7) (λx h1 h2=>h1) λx h1 h2=>out w7 hC x h1 h2;have hK7:∀j,j<4->w7.cell? ⟨kb,ko+i*4+j,none⟩=([d0,d1,d2,d3]:List Value)[j]?:=λj hj=>by
      rw[World.cell?_of_block (a:=⟨kb,ko+i*4+j,none⟩)<|out w7 hC kb hkS hkb,aau,hcell _<|by omega];exact hKc j hj
    obtain⟨g,cap,rfl,_⟩:=hO.form (by omega);have hglt:=(hO.lt g rfl).2;have hgS:¬S g:=λh=>hvi.elim (λe=>hvS g (by rw[<-e];rfl) h) λ⟨b,e,hb⟩=>by simp only[Value.ownBlock,aab]at e;have :=hS g h;omega
    have hklt:∀b,kv.ownBlock=some b->b<w7.heap.size:=λb hb=>(hK.lt b hb).2;refine rGf 60 hf I ?_;clear hf a;intro a hf;refine rV hf rfl (Eo (c:=true) hf rfl rfl (by simp;omega)) ?_;clear hf a;intro a hf;refine rGf 60 hf I ?_;clear hf a;intro a hf;refine rV hf I (rj (sz:=4) (k:=i) hf underlying22 (by kernel_rfl) I I I hlt I) ?_;clear hf a;intro a hf;refine rV hf I (ex_loadN (cs:=[d0,d1,d2,d3]) (m:=4) hf I (by kernel_rfl) I hK7) ?_;clear hf a;intro a hf;obtain⟨w8,b11,he,hB11,hx8,e11,l11⟩:=eT a w7 0;refine rV hf I he ?_;clear he hf a;intro a hf;refine rGf 60 hf I ?_;clear hf a;intro a hf;obtain⟨w9,he,hB11',hx9⟩:=eN (.tmp 11) (.tmp 28) hf rfl rfl rfl on_T hB11 rfl 0;refine rS hf I he ?_;clear he hf a;intro a hf;have s8:=hx8.size;have s9:=hx9.size;have keep9:∀x,x<w7.heap.size->w9.heap[x]?=w7.heap[x]?:=λx hx=>(hx9.block x (by omega) (by simp;omega)).trans<|hx8.block x hx nm0;have hO9:=cR hO (w':=w9) λb hb=>keep9 b (hO.lt b hb).2;have hK9:=cR hK (w':=w9) λb hb=>keep9 b<|hklt b hb;have hlen:(xs++[.int .i64 k,kg s,.slice A ls.length m,.slice (some ⟨kb,ko,none⟩) ks.length n',.int .i64 par,.int .i64 ix,kv]++zs).length=(n+1+nNs (ks.take i))*7:=hO9.1;have hkc:w9.cell? ⟨g,n*7+6,none⟩=some kv:=by rw[ij hO9 (by omega),<-hxl];exact MS ..
    refine rGf 60 hf I ?_;clear hf a;intro a hf;refine rV hf I (rj (sz:=7) (k:=n) (r:=n*7) hf underlying59 (by kernel_rfl) I I I (by omega) (by omega)) ?_;clear hf a;intro a hf;refine rGf 60 hf I ?_;clear hf a;intro a hf;refine rV hf I (ex_load hf I (by kernel_rfl) hkc) ?_;clear hf a;intro a hf;refine rGf 60 hf I ?_;clear hf a;intro a hf;refine rV hf I (vZ hf underlying59 I) ?_;clear hf a;intro a hf;obtain⟨w10,g10,he,hG10,hx10,eg10,lg10⟩:=sb (P:=prog) (t:=36) (m:=1) (ps:=[(0,.tmp 37)]) (sz:=1) (z:=[.int .i64 0]) hf rfl underlying36 (by kernel_rfl) (by kernel_rfl) rfl rfl rfl rfl w9 0;refine rV hf I he ?_;clear he hf a;intro a hf;have s10:=hx10.size;have hO10:=cR hO9 (w':=w10) (λb hb=>hx10.block b ((hO9.lt b hb).2) nm0);have hK10:=cR hK9 (w':=w10) (λb hb=>hx10.block b ((hK9.lt b hb).2) nm0);obtain⟨kv',w11,he,hK11,hx11,hkv'⟩:=Gu (P:=prog) (x:=.tmp 35) (y:=.tmp 38) (t:=36) (z:=.int .i64 0) (by_:=8) hf rfl rfl hK10 rfl (λj q hq=>by rw[Nat.zero_add,hG10.cell];exact hq) (λq hq=>by simp[Value.cells]at hq;subst hq;rfl) underlying36 (by kernel_rfl) rfl (by decide) rfl (by omega) 0;refine rV hf I he ?_;clear he hf a;intro a hf;have s11:=hx11.size;have ngk:kv.ownBlock≠some g:=λe=>(hkv g e).2 rfl;have hO11:=cR hO10 (w':=w11) (λb hb=>by simp only[Value.ownBlock,aab]at hb;subst hb;exact hx11.block _ (by omega) (λhc=>ngk (by simpa using hc)))
    refine rV hf I (rj (sz:=7) (k:=n) (r:=n*7) hf underlying59 (by kernel_rfl) I I I (by omega)<|by omega) ?_;clear hf a;intro a hf;refine rGf 60 hf I ?_;clear hf a;intro a hf;obtain⟨w12,he,hO12,hx12⟩:=JC (P:=prog) (t:=36) (x:=.tmp 41) (y:=.tmp 39) hf rfl rfl (by kernel_rfl) (vu hK11) hO11 (by omega) 0;refine rS hf I he ?_;clear he hf a;intro a hf;have s12:=hx12.size;rw[<-hxl,Mz]at hO12;have hkb':∀b,kv'.ownBlock=some b->(kv.ownBlock=some b∨b=w10.heap.size):=λb hb=>hkv'.elim (λe=>.inl (by rw[<-e];exact hb)) (λe=>.inr (by rw[hb]at e;exact Option.some.inj e));have ng':kv'.ownBlock≠some g:=λe=>(hkb' g e).elim ngk λe=>by omega
    have hK12:=cR hK11 (w':=w12) (λb hb=>hx12.block b ((hK11.lt b hb).2) (by simp only[List.mem_singleton];intro e;subst e;exact ng' hb));have hB12:Blk w12 b11 TT [d0,d1,d2,d3]:=((hB11'.c0 hx10).chg hx11 (λhc=>by have :=hklt b11 (by simpa using hc);omega)).chg hx12 (by simp;omega);have keep12:∀x,x<w7.heap.size->x≠g->kv.ownBlock≠some x->w12.heap[x]?=w7.heap[x]?:=λx hx h1 h2=>(hx12.block x (by omega)<|by simpa using h1).trans ((hx11.block x (by omega) λhc=>h2<|by simpa using hc).trans<|(hx10.block x (by omega) nm0).trans<|keep9 x hx);have nS:∀x,S x->x<w7.heap.size∧x≠g∧kv.ownBlock≠some x:=λx hx=>⟨by have :=hS x hx;omega,λe=>hgS<|e▸hx,λe=>by have :=(hkv x e).1;have :=hS x hx;omega⟩;replace hT:=hT.keepB (S':=S) (w':=w12) (λx h1 h2=>h1) λx h1 h2=>keep12 x (nS x h1).1 (nS x h1).2.1 (nS x h1).2.2;have hC12:ChgP (λb=>v.ownBlock=some b) w w12:=by
      refine((((hC.trans (ChgP.of0 hx8 (X:=λ_=>False)) λ_ h=>h.elim).trans (ChgP.of hx9) (λb hb=>by simp at hb;omega)).trans (ChgP.of0 hx10 (X:=λ_=>False)) λ_ h=>h.elim).trans (ChgP.of hx11) λb hb=>.inr (hkv b<|by simpa using hb).1).trans (ChgP.of hx12) λb hb=>?_;simp only[List.mem_singleton]at hb;subst hb;exact hvi.imp (λe=>by rw[<-e];rfl) λ⟨c,e,hc⟩=>by simp only[Value.ownBlock,aab]at e;omega
    refine rGf 60 hf I ?_;clear hf a;intro a hf;refine rV hf I (Df (m:=4) hf I (by kernel_rfl) hB12 I) ?_;clear hf a;intro a hf;refine rGf 60 hf I ?_;clear hf a;intro a hf;refine rC hf I I (by kernel_rfl) (ih i ks[i] hu w12 S [d0,d1,d2,d3] (n:Nat) (i:Nat) _ _ _ (by omega) (by omega) (λb hb=>by have :=(nS b hb).1;omega) hT hO12 (λb hb=>by simp only[Value.ownBlock,aab]at hb;subst hb;exact hgS)) ?_
    rintro _ w13 ⟨v2,ys,rfl,hO13,hx13,hv2,hY⟩;refine⟨_,I,?_⟩;clear hf a;intro a hf;have s13:=hx13.size;have nv2:∀b,b<w12.heap.size->b≠g->v2.ownBlock≠some b:=λb h1 h2 e=>hv2.elim (λe2=>h2 (by rw[e]at e2;simpa[Value.ownBlock]using e2)) λ⟨c,e2,h3⟩=>by rw[e]at e2;have :=Option.some.inj e2;omega
    have hk'lt:∀b,kv'.ownBlock=some b->b<w12.heap.size:=λb hb=>(hK12.lt b hb).2;have hK13:=cR hK12 (w':=w13) (λb hb=>hx13.block b (hk'lt b hb) (λe=>by simp only[Value.ownBlock,aab]at e;subst e;exact ng' hb))
    refine rGf 60 hf I ?_;clear hf a;intro a hf;refine rV hf rfl (OU (r:=((i+1:Nat):Int)) hf rfl rfl (by simp)<|by omega) ?_;clear hf a;intro a hf;refine rGf 60 hf I ?_;clear hf a;intro a hf;refine rX ?_;have hlt3:i<(fU ks<|n+1).length:=by rw[ik];exact hlt
    refine⟨ks.length-(i+1),by omega,i+1,v2,kv',zs++ys,I,hlt,hf.pick ⟨I,I,I,I,I,trivial⟩,hC12.trans hx13 λb hb=>?_,?_,?_,?_,λb hb=>⟨?_,nv2 b (hk'lt b hb) λe=>ng'<|e▸hb⟩,?_⟩
    · simp only[Value.ownBlock,Option.some.injEq]at hb;subst hb;exact hvi.imp (λe=>by rw[<-e];rfl) λ⟨c,e,hc⟩=>by simp only[Value.ownBlock,aab]at e;omega
    ·rw[tt hu,<-aau,<-aai];exact hO13
    · rcases hv2 with e|⟨c,e,hc⟩
      ·rw[e];exact hvi
      ·exact .inr ⟨c,e,by omega⟩
    · rw[List.take_add_one,hu,Option.toList_some,CJ,List.map_append];exact hK13
    · rcases hkb' b hb with e|e
      ·exact(hkv b e).1
      ·omega
    · rw[List.take_add_one,hu,Option.toList_some,zS,List.map_append,Nat.zero_add,List.length_take,Nat.min_eq_left hi1];refine CRel.append (CRel.up ⟨λb hb=>?_,λb hb hbl=>?_,λ_ _ h=>h⟩ hZ) (CRel.up ⟨λb hb=>?_,λb _ _=>I,λ_ _ h=>h⟩ hY)
      · rcases hb with hb|⟨q1,q2,q3,q4⟩
        ·exact .inl hb
        · have qg:b≠g:=λe=>q3 (by rw[e];rfl);exact .inr ⟨q1,by omega,nv2 b (by omega) qg,λe=>(hkb' b e).elim q4 λe=>by omega⟩
      · have h3:b<w7.heap.size∧b≠g∧kv.ownBlock≠some b:=by
          rcases hb with hb|⟨q1,q2,q3,q4⟩
          ·exact nS b hb
          ·exact⟨q2,λe=>q3 (by rw[e];rfl),q4⟩
        exact(hx13.block b (by omega) (λe=>by simp only[Value.ownBlock,aab]at e;exact h3.2.1 e.symm)).trans<|keep12 b h3.1 h3.2.1 h3.2.2
      · rcases hb with hb|⟨q1,q2,q3⟩
        ·exact .inl hb
        ·exact .inr ⟨by omega,q2,q3,λe=>by have :=hk'lt b e;omega⟩
  have hi':i=ks.length:=by omega
  subst hi';rw[List.take_length]at hO hK hZ;refine rGf 60 hf I ?_;clear hf a;intro a hf;refine rV hf rfl (Eo (c:=false) hf rfl rfl<|by simp) ?_;clear hf a;intro a hf;refine rGf 60 hf I ?_;clear hf a;intro a hf;refine rO ?_;refine rGf 60 hf I ?_;clear hf a;intro a hf;have hT7:=hT0.keepB (S':=λb=>S b∨(w.heap.size<=b∧b<w7.heap.size∧vi.ownBlock≠some b)) (w':=w7) (λx h1 h2=>.inl h1) λx h1 h2=>out w7 hC x h1 h2;have hsp:=MC (par:=par) (ix:=ix) (nums:=fU ks<|n+1) hT7 (by rw[ik];exact hK) λb hb=>.inr ⟨(hkv b hb).1,(hK.lt b hb).2,(hkv b hb).2⟩;refine rT (rs:=[.tmp 8]) hf I ⟨_,_,I,I,I⟩ ⟨vi,[.int .i64 k,kg s,.slice A ls.length m,.slice B' ks.length n',.int .i64 par,.int .i64 ix,kv]++zs,I,?_,by rw[<-hv];exact hC,by rw[<-hv];exact hvi,?_⟩
  ·rw[<-aai,show n+nN (.node k s ls ks)=n+1+nNs ks by simp only[nN];omega];exact hO
  · simp only[flatK,List.map_cons,CRel];refine⟨_,zs,I,⟨I,?_⟩,hsp,CRel.up ⟨λb hb=>hb.imp id λh=>⟨h.1,h.2.1,h.2.2.1⟩,λb _ _=>I,λ_ _ h=>h⟩ hZ⟩;have :=vu hK;simp[Value.cells,Value.oneCell',kg]at this⊢;exact this
theorem LW:∀t,Fs t:=cP Kd
theorem Km(t:Tree)(par ix:Int)(ht:tbulk t<=1000000000):sv t par ix (flatK t par ix 0):=by
 refine⟨I,I,λS w ρ xs hr hx=>?_⟩;simp only[LRel]at hx;obtain⟨y0,_,rfl,E,y1,_,rfl,J,y2,_,rfl,O,y3,_,rfl,U,rfl⟩:=hx;simp only[VRel]at E J O U;obtain⟨ct,rfl,E⟩:=E;subst J O U;have hnb:=nN_bulk t;refine(LW t w S ct par ix (.slice none 0 0) 0 [] (by omega) ht hr.slt (LRel.tree E) (World.ownsRow_nil w 0 SPT 7) λb hb=>by cases hb).mono ?_;rintro e w' ⟨v',ys,rfl,G,Z,hv,hY⟩;have hch:Chg [] w w':=⟨Z.os,Z.tape,Z.output,Z.size,λb hb _=>Z.block b hb λh=>by cases h⟩;have g:=hr.chg0 hch;refine⟨_,λb=>S b∨(w.heap.size<=b∧b<w'.heap.size),ρ,_,⟨0,[]⟩,I,I,⟨λi=>?_,λi b hb=>?_,λi j b hb _=>?_,g.slt.up (ρ:=ρ0) (ρ':=ρ0) ⟨λ_ h=>.inl h,λ_ _ _=>I,λ_ _ h=>h⟩ (λb hb=>hb.elim (g.slt b) (·.2))⟩,⟨ChgP.of0 hch,λ_ h=>.inl h,λb hb=>hb.elim .inl λh=>.inr<|.inr h.1,λid b hb=>by rw[uK]at hb;exact hb.elim,λid x h=>?_⟩,?_⟩
 ·have :=g.ob i;rw[uK]at this⊢;exact this
 ·rw[uK]at hb;exact hb.elim
 ·rw[uK]at hb;exact hb.elim
 ·simp only[uN]at h;split at h
  ·exact h
  ·cases h
 ·simp only[VRel];rw[Nat.zero_add,aaj]at G;obtain⟨A,m,rfl,hm1,hm2⟩:=cq G;have hl:((flatK t par ix 0).map ae.w).length=nN t:=by rw[aan,flatK_len]
  refine⟨A,m,ys,by rw[hl],by rw[hl];exact hm1,hm2,CRel.up ⟨λb hb=>hb.imp id λh=>⟨h.1,h.2.1⟩,λb _ _=>I,λ_ _ h=>h⟩ hY,?_⟩;rw[hl];refine⟨G.1,λhn=>?_⟩;obtain⟨g',cap,hv',_⟩:=G.form hn;injection hv' with e1 _ e3
  subst e1 e3;have hg:=(G.lt g' rfl).2;have hge:w.heap.size<=g':=hv.elim (λe=>by cases e) λ⟨b,e,hb⟩=>by simp only[Value.ownBlock,aab]at e;omega
  exact⟨g',0,I,.inr ⟨hge,hg⟩,hg,λj hj=>by rw[Nat.zero_add];exact ij G hj⟩
def wL:List (YI×Tree)->Nat
 |[]=>0
 |x::r=>3+x.2.leads.length+wL r
theorem KH:∀a b,wL (a++b)=wL a+wL b
 |[],b=>by simp[wL]
 |x::r,b=>by simp only[aas,wL,KH r b];omega
mutual
theorem wL_bulk:∀(t:Tree) (q:YI),wL (nodK t q)<=3*tbulk t
 |.node k s l ks,q=>by have :=wL_bulks ks q 0;have :=xz l;simp only[nodK,wL,tbulk,Tree.leads];omega
theorem wL_bulks:∀(l:YT) (q:YI) (i:Nat),wL (nodKs l q i)<=3*kbulk l
 |[],_,_=>by simp[nodKs,wL]
 |t::r,q,i=>by
  have :=wL_bulk t<|q++[(i:Int)];have :=wL_bulks r q<|i+1;simp only[nodKs,KH,kbulk];omega
end
def pS(b:Int)(p:YT)(m:Nat)(t:Tree):List (YI×Tree)->List ai
 |[]=>[]
 |x::l=>lf b p m t x.1++pS b p m t l
def eF(b:Int)(p:YT):Nat->YT->List ai
 |_,[]=>[]
 |m,t::r=>pS b p m t (nodK t [])++eF b p (m+1) r
def okP(V:Tree->Bool)(p:YT):Bool:=decide (p.length<=8)&&p.all λt=>t.kind==1&&V t
def ba(V:Tree->Bool)(b:Int)(p:YT):aL×Int×Int:=
 if okP V p=true∧fx b=true then(if nNs p=0 then(⟨[]⟩,b,0)else if(bM b (nNs p:Nat)).2≠0 then(⟨[]⟩,0,(bM b (nNs p:Nat)).2)else(⟨nzF<|eF b p 0 p⟩,(bM b (nNs p:Nat)).1,0))else(⟨[]⟩,0,5)
theorem Ik(p:YT)(t:Tree):bS (p++[t])=bS p++[flatK t (-1) 0 0]:=by simp[bS]
theorem Er:∀(p:YT) (n:Nat) (t:Tree),dV n (p++[t])=dV n p++[((n+nNs p:Nat):Int)]
 |[],n,t=>by simp[dV,nNs]
 |u::r,n,t=>by simp only[aas,dV,Er r _ t,nNs];rw[show n+nN u+nNs r=n+(nN u+nNs r) by omega]
theorem GS:∀(p:YT) (n:Nat),(dV n p).length=p.length
 |[],n=>rfl
 |u::r,n=>by simp[dV,GS r]
theorem JP{n:Nat}{x:YI×Tree}(h:(nodK t [])[n]?=some x):atK t x.1=some x.2∧ay t x.1=n:=by obtain⟨r,h1,h2,E⟩:=nodK_num t [] n x h;rw[aaj]at h1;rw[h1];exact⟨h2,E⟩
theorem Cg{b k:Int}(hb:fx b=true)(E:1<=k):(bM b k).2=0∨(bM b k).2=17:=by
 have :1048576<=b∧b<34603008:=by simpa[fx]using hb
 rw[bM,if_pos ⟨hb,by omega⟩];split
 ·exact .inr I
 ·rw[if_neg<|by omega];exact .inl rfl
theorem QH {V:Tree->Bool} {b:Int} {p:List Tree} (hb:kbulk p<=100000000) (hV:∀t∈p,nd t<|V t) (hs:∀t∈p,V t=true->shapeK t=true) (hf:okP V p=true->Few p):ef p b (ba V b p).1 (ba V b p).2.1 (ba V b p).2.2:=by
 have hpl:=fP p;by_cases h8:8<((p.length:Nat):Int)
 ·have hn:okP V p=false:=by rw[okP,decide_eq_false<|by omega];rfl
  have e:ba V b p=(⟨[]⟩,0,5):=by rw[ba,if_neg (by rw[hn];simp)]
  rw[e];exact un 0 _ _ _ _ _<|⟨λ_=>⟨rfl,rfl,rfl⟩,λh=>absurd h8 h⟩
 ·
  have rest:okP V p=true->∃M,je M p b p.length (ba V b p).1 (ba V b p).2.1 (ba V b p).2.2:=λhok=>by
   have hF:=hf hok;have hall:∀t∈p,t.kind=1∧shapeK t=true:=λt ht=>by simp only[okP,aaa,List.all_eq_true,aaq]at hok;obtain⟨a1,a2⟩:=hok.2 t ht;exact⟨a1,hs t ht a2⟩
   have hp:dn p=true:=by
    clear hf hF hb hV hs hok hpl h8
    induction p with
    |nil=>rfl
    |cons t r ih=>
     obtain⟨a1,a2⟩:=hall t (by simp);simp only[dn,a1,a2,ih λx hx=>hall x<|by simp[hx]];rfl
   have n1:=AB b 1 (by omega);by_cases hbs:fx b=true
   rotate_left
   ·have e:ba V b p=(⟨[]⟩,0,5):=by rw[ba,if_neg λh=>hbs h.2]
    have e1:bM b 1=(0,5):=by rw[bM,if_neg λh=>hbs h.1]
    rw[e];rw[e1]at n1;exact⟨1,im 0 _ _ _ _ _ _<|⟨λh=>by omega,λ_=>⟨_,_,n1,λ_=>⟨I,I,I⟩,λh=>absurd I h⟩⟩⟩
   have hn1:=Cg hbs (k:=1) (by omega);have hnb:=nNs_bulk p;have cells:nNs p≠0->(bM b (nNs p:Nat)).2=0->∃M,jn M b (bS p) (dV 0 p) (bM b (nNs p:Nat)).1 (jT p) 0 [] ⟨nzF<|eF b p 0 p⟩ (bM b (nNs p:Nat)).1 0:=λh0 h1=>by
    have l2:∀k i (cs:List ai),k+i=p.length->cs.length+3*kbulk (p.drop i)<=1000000000->∃M,jn M b (bS p) (dV 0 p) (bM b (nNs p:Nat)).1 (jT p) i cs ⟨cs++nzF (eF b p i<|p.drop i)⟩ (bM b (nNs p:Nat)).1 0:=λk=>by
     induction k with
     |zero=>
      intro i cs hi hc;refine⟨1,tA 0 _ _ _ _ _ _ _ _ _ _ (⟨λh=>by simp[bS]at h;omega,λ_=>⟨?_,rfl,rfl⟩⟩)⟩;rw[List.drop_of_length_le<|by omega];simp[eF,nzF]
     | succ k ih=>
      intro i cs hi hc;obtain⟨t,ht⟩:∃t,p[i]?=some t:=⟨_,List.getElem?_eq_getElem (by omega)⟩;rw[bq ht,kbulk]at hc;rw[bq ht,eF,lJ];have hw:=wL_bulk t [];have hbt:=bX ht;have hnt:=nN_bulk t;have l3:∀j n (cs:List ai),j+n=nN t->cs.length+wL ((nodK t []).drop n)+3*kbulk (p.drop (i+1))<=1000000000->∃M,mv M b (bS p) (dV 0 p) (bM b (nNs p:Nat)).1 (jT p) (flatK t (-1) 0 0) cs n i i ⟨cs++nzF (pS b p i t ((nodK t []).drop n))++nzF (eF b p (i+1) (p.drop (i+1)))⟩ (bM b (nNs p:Nat)).1 0:=λj=>by
       induction j with
       |zero=>
        intro n cs hn hc;obtain⟨M,hM⟩:=ih (i+1) cs (by omega) (by omega);refine⟨M+1,tL M _ _ _ _ _ _ _ _ _ _ _ _ _ (⟨λh=>by rw[flatK_len]at h;omega,λ_=>⟨by omega,?_⟩⟩)⟩;rw[List.drop_of_length_le (by rw[nodK_nN];omega)];simpa[pS,nzF]using hM
       |succ j ihj=>
        intro n cs hn hc;obtain⟨x,hx⟩:∃x,(nodK t [])[n]?=some x:=⟨_,List.getElem?_eq_getElem (by rw[nodK_nN];omega)⟩;obtain⟨hat,hnum⟩:=JP hx;rw[bq hx,wL]at hc;have hr:=Gr (b:=b) (cs:=cs) hb hp hF ht hat (by omega);rw[hnum]at hr;have hcl:(nzF (lf b p i t x.1)).length<=3+x.2.leads.length:=aap (BI _) (by rw[DT,eK hat];omega);obtain⟨M,hM⟩:=ihj (n+1) (cs++nzF (lf b p i t x.1)) (by omega) (by rw[aac];omega);refine⟨M+1,tL M _ _ _ _ _ _ _ _ _ _ _ _ _ (⟨λ_=>⟨_,hr,by omega,?_⟩,λh=>by rw[flatK_len]at h;omega⟩)⟩;rw[bq hx,pS,lJ,<-aai cs];exact hM
      obtain⟨M,hM⟩:=l3 (nN t) 0 cs (by omega) (by rw[List.drop_zero];omega);rw[List.drop_zero,aai]at hM;exact⟨M+1,tA M _ _ _ _ _ _ _ _ _ _<|⟨λ_=>⟨_,eQ ht,hM⟩,λh=>by simp[bS]at h;omega⟩⟩
    have :=l2 p.length 0 [] (by omega) (by simp;omega)
    rwa [List.drop_zero,aaj]at this
   have l1:∀k i,k+i=p.length->∃M,mg M p b (bS<|p.take i) (dV 0<|p.take i) (List.replicate i []) (nNs<|p.take i) i (ba V b p).1 (ba V b p).2.1 (ba V b p).2.2:=λk=>by
    induction k with
    | zero=>
     intro i hi;rw[List.take_of_length_le (show p.length<=i by omega),show i=p.length by omega];have nx:=AB b (nNs p:Nat) (by omega);by_cases h0:nNs p=0
     ·have e:ba V b p=(⟨[]⟩,b,0):=by rw[ba,if_pos ⟨hok,hbs⟩,if_pos h0]
      rw[e];exact⟨1,lE 0 _ _ _ _ _ _ _ _ _ _<|⟨λh=>by omega,λ_=>⟨λ_=>⟨I,I,I⟩,λh=>absurd (by omega) h⟩⟩⟩
     by_cases h1:(bM b (nNs p:Nat)).2=0
     ·obtain⟨M,hM⟩:=cells h0 h1;have e:ba V b p=(⟨nzF<|eF b p 0 p⟩,(bM b (nNs p:Nat)).1,0):=by rw[ba,if_pos ⟨hok,hbs⟩,if_neg h0,if_neg (by rw[h1];simp)]
      rw[e];have v1:=Gc (b:=b) (cs:=[]) hb (List.replicate p.length []) (by simp);have v2:=KD (b:=b) (cs:=[]) hb (dQ (List.replicate p.length [])<|ss 0 p) (by simp[Al]);exact⟨M+1,lE M _ _ _ _ _ _ _ _ _ _<|⟨λh=>by omega,λ_=>⟨λh=>absurd h (by omega),λ_=>⟨_,_,nx,λh=>absurd h1 h,λ_=>⟨_,v1,_,v2,hM⟩⟩⟩⟩⟩
     ·have e:ba V b p=(⟨[]⟩,0,(bM b (nNs p:Nat)).2):=by rw[ba,if_pos ⟨hok,hbs⟩,if_neg h0,if_pos h1]
      rw[e];exact⟨1,lE 0 _ _ _ _ _ _ _ _ _ _<|⟨λh=>by omega,λ_=>⟨λh=>absurd h (by omega),λ_=>⟨_,_,nx,λ_=>⟨I,I,I⟩,λh=>absurd h h1⟩⟩⟩⟩
    |succ k ih=>
     intro i hi;obtain⟨t,ht⟩:∃t,p[i]?=some t:=⟨_,List.getElem?_eq_getElem (by omega)⟩;have hbt:=bX ht;obtain⟨M,hM⟩:=ih (i+1) (by omega);have htk:p.take (i+1)=p.take i++[t]:=by rw[List.take_add_one,ht];rfl
     have hnl:=hW ht;have hfl:(flatK t (-1) 0 0).length=nN t:=flatK_len ..;rw[htk,Ik,Er,zw,Nat.zero_add,show nNs [t]=nN t by simp[nNs],<-hfl,List.replicate_succ']at hM;refine⟨M+1,lE M _ _ _ _ _ _ _ _ _ _<|⟨λ_=>⟨t,ht,_,Km t (-1) 0 (by omega),?_,?_,?_,by rw[hfl];omega,by omega,hM⟩,λh=>by omega⟩⟩
     ·simp[bS];omega
     ·simp[GS];omega
     ·simp;omega
   obtain⟨M,hM⟩:=l1 p.length 0 (by omega);refine⟨M+1,im M _ _ _ _ _ _<|⟨λh=>by omega,λ_=>⟨_,_,n1,λh=>by omega,λ_=>?_⟩⟩⟩;simpa[bS,dV,nNs]using hM
  have l0:∀k i,k+i=p.length->(∀(j:Nat) t,j<i->p[j]?=some t->t.kind=1∧V t=true)->∃M,je M p b i (ba V b p).1 (ba V b p).2.1 (ba V b p).2.2:=λk=>by
   induction k with
   |zero=>
    intro i hi hh;rw[show i=p.length by omega];refine rest ?_;simp only[okP,aaa,aat,List.all_eq_true,aaq];refine⟨by omega,λt ht=>?_⟩;obtain⟨j,hj,e⟩:=aaA ht;exact hh j t (by omega) (by rw[List.getElem?_eq_getElem hj,e])
   | succ k ih=>
    intro i hi hh;obtain⟨t,ht⟩:∃t,p[i]?=some t:=⟨_,List.getElem?_eq_getElem (by omega)⟩;have bad:¬(t.kind=1∧V t=true)->ba V b p=(⟨[]⟩,0,5):=λhn=>by
     rw[ba,if_neg];intro h;have :=h.1;simp only[okP,aaa,aat,List.all_eq_true,aaq]at this;exact hn<|this.2 t (List.mem_of_getElem? ht)
    have hv:=hV t<|List.mem_of_getElem? ht;by_cases h1:t.kind=1
    ·by_cases h2:V t=true
     ·obtain⟨M,hM⟩:=ih (i+1) (by omega) (λj u hj hu=>by
       by_cases hlt:j<i
       ·exact hh j u hlt hu
       ·have :j=i:=by omega
        subst this;rw[ht]at hu;injection hu with hu
        subst hu;exact⟨h1,h2⟩)
      exact⟨M+1,im M _ _ _ _ _ _<|⟨λ_=>⟨t,ht,λh=>absurd h1 h,λ_=>⟨_,hv,λh=>absurd h2 (by rw[h];simp),λ_=>⟨by omega,hM⟩⟩⟩,λh=>by omega⟩⟩
     ·rw[bad λh=>h2 h.2];exact⟨1,im 0 _ _ _ _ _ _<|⟨λ_=>⟨t,ht,λh=>absurd h1 h,λ_=>⟨_,hv,λ_=>⟨I,I,I⟩,λh=>absurd h h2⟩⟩,λh=>by omega⟩⟩
    ·rw[bad λh=>h1 h.1];exact⟨1,im 0 _ _ _ _ _ _<|⟨λ_=>⟨t,ht,λ_=>⟨I,I,I⟩,λh=>absurd h h1⟩,λh=>by omega⟩⟩
  obtain⟨M,hM⟩:=l0 p.length 0 (by omega) (λj t hj=>by omega);exact un M _ _ _ _ _<|⟨λh=>absurd h h8,λ_=>hM⟩
def idR(b:Int)(n k:Nat):YI:=(List.range k).map λc=>(bM b ((n+c+1:Nat):Int)).1
def gQ(b:Int):Nat->YT->List YI
 |_,[]=>[]
 |n,t::r=>idR b n (nN t)::gQ b (n+nN t) r
theorem Ff(b:Int):∀(l:YT) (n m:Nat) (t:Tree),l[m]?=some t->(gQ b n l)[m]?=some (idR b (n+nNs (l.take m))<|nN t)
 |[],n,m,t,h=>by simp at h
 |u::r,n,0,t,h=>by simp only[List.getElem?_cons_zero,aab]at h;subst h;simp[gQ,nNs]
 |u::r,n,m+1,t,h=>by simp only[gQ,List.getElem?_cons_succ,List.take_succ_cons,nNs];rw[Ff b r _ m t (by simpa using h),aau]
theorem NN{b:Int}{p:YT}{m c:Nat}(ht:p[m]?=some t)(E:c<nN t):∃row,(gQ b 0 p)[m]?=some row∧row[c]?=some (idK b p m c):=by have h:=Ff b p 0 m t ht;rw[Nat.zero_add]at h;refine⟨_,h,?_⟩;rw[idR,List.getElem?_map,List.getElem?_range E];rfl
theorem CG(b:Int):∀(l:YT) (n:Nat) (t:Tree),gQ b n (l++[t])=gQ b n l++[idR b (n+nNs l)<|nN t]
 |[],n,t=>by simp[gQ,nNs]
 |u::r,n,t=>by simp only[aas,gQ,CG b r _ t,nNs];rw[show n+nN u+nNs r=n+(nN u+nNs r) by omega]
theorem EW(b:Int):∀(l:YT) (n:Nat),(gQ b n l).length=l.length
 |[],_=>rfl
 |u::r,n=>by simp[gQ,EW b r]
theorem mF{u:Tree}{q:YI}(h:atK t q=some u):q.length<=tbulk t∧tbulk u<=tbulk t:=by
 have :=nodK_bnd t [] _<|zd h;simp only[aae,Nat.zero_add]at this;omega
theorem zi{u:Tree}{q:YI}(h:atK t q=some u)(E:q.length<=1000000000):bF t q u true:=by have :=Mw t q E;rw[h]at this;exact this
section
variable{b:Int}{p:YT}(hb:kbulk p<=100000000)(hp:dn p=true){m:Nat}{t u:Tree}{q:YI}(ht:p[m]?=some t)(hq:atK t q=some u)
include hb ht hq
theorem vM:∃row n,(gQ b 0 p)[m]?=some row∧ch t q n∧n=((ay t q:Nat):Int)∧row[ay t q]?=some (idK b p m<|ay t q):=by
 have E:=bX ht;have hs:=mF hq;obtain⟨row,h1,h2⟩:=NN (b:=b) ht<|tc hq;exact⟨row,_,h1,Mx hq (by omega) (by omega),I,h2⟩
include hp
theorem CE:ma p (gQ b 0 p) (m:Int) q (fQ b p m t q):=by
 have hbt:=bX ht;have hs:=mF hq;have hu:=eK hq;have htx:=cN u;have hml:=(List.getElem?_eq_some_iff.1 ht).1;obtain⟨hk1,hst⟩:=si hp ht;have none_:usK p m t q=none->fQ b p m t q=⟨u.kind,false,u.text,0⟩:=λh=>by rw[fQ,h,hu]
 have some_:∀{v:ah},usK p m t q=some v->fQ b p m t q=⟨u.kind,decide (u.kind=16∨u.kind=9)&&decide (v.module=(m:Int))&&EU u.text,[],idK b p v.module.toNat v.number.toNat⟩:=λ{v} h=>by rw[fQ,h,hu]
 refine ww 20 _ _ _ _ _ (⟨m,I,t,ht,u,true,zi hq (by omega),λh12=>?_,λh12=>?_⟩)
 ·
  cases q with
  |nil=>
   simp only[atK,aab]at hq;subst hq;omega
  | cons d r=>
   have hq':=hq;simp only[atK]at hq';split at hq'
   ·cases hq'
   rename_i hd;split at hq'
   ·cases hq'
   rename_i f hf;obtain⟨d,rfl⟩:∃n:Nat,d=n:=⟨d.toNat,by omega⟩;rw[Int.toNat_natCast]at hf;have hbf:=cm hf;have hr:=mF hq';have hrl:r.length<=100000000:=by omega
   by_cases hfi:jr f=true
   ·have hB:=LU f r u.text hfi (by omega) (by omega) (λx hx=>by have :=(Bp hx).2;omega);by_cases hfd:(te f r u.text).2=true
    ·have hus:usK p m t ((d:Int)::r)=some ⟨(m:Int),((ay t ((d:Int)::(te f r u.text).1):Nat):Int)⟩:=by
      rw[usK,hu,if_pos h12];simp only[List.getD_cons_zero,List.drop_succ_cons,List.drop_zero];rw[lL hf,if_pos ⟨hfi,hfd⟩]
     obtain⟨x,hx1,hx2⟩:=xR hfd;obtain⟨z,hz,rfl⟩:=List.mem_map.1 hx1;simp only[de]at hx2;obtain⟨hzs,hzl⟩:=Bp hz;cases hw:atK f z with
     |none=>rw[hw]at hzs;cases hzs
     |some w=>
      have hz1:(te f r u.text).1=z:=hx2.symm;have hat:atK t ((d:Int)::z)=some w:=by rw[atK,if_neg (by omega),Int.toNat_natCast,hf];exact hw
      obtain⟨row,n,g1,g2,rfl,g4⟩:=vM (b:=b) hb ht hat;refine kx 19 _ _ _ _ _ _ (⟨m,rfl,t,ht,_,rfl,d,rfl,f,hf,by simp,_,_,hB,λ_=>?_,λh=>by rw[show(fy ((arP f r).map<|de f) u.text).2=true from hfd]at h;cases h⟩);have hz1':(fy ((arP f r).map<|de f) u.text).1=z:=hz1;rw[hz1',some_ hus,hz1,h12];refine wi 18 _ _ _ _ _ _ _ (⟨_,rfl,by simp;omega,m,rfl,row,g1,m,rfl,t,ht,_,by rw[List.singleton_append];exact g2,_,rfl,_,g4,?_⟩);simp[h12]
    ·have hus:usK p m t ((d:Int)::r)=none:=by
      rw[usK,hu,if_pos h12];simp only[List.getD_cons_zero,List.drop_succ_cons,List.drop_zero];rw[lL hf,if_neg λh=>hfd h.2]
     rw[none_ hus];refine kx 19 _ _ _ _ _ _ (⟨m,rfl,t,ht,_,rfl,d,rfl,f,hf,by simp,_,_,hB,λh=>absurd h hfd,λ_=>rfl⟩)
   ·have hus:usK p m t ((d:Int)::r)=none:=by
     rw[usK,hu,if_pos h12];simp only[List.getD_cons_zero,List.drop_succ_cons,List.drop_zero];rw[lL hf,if_neg λh=>hfi h.1]
    have hB:gN f r u.text [] false:=pm 0 _ _ _ _ _ (⟨_,Kx f (by omega),λ_=>⟨rfl,rfl⟩,λh=>absurd h hfi⟩);rw[none_ hus];exact kx 19 _ _ _ _ _ _ (⟨m,rfl,t,ht,_,rfl,d,rfl,f,hf,by simp,_,_,hB,λh=>(by cases h),λ_=>rfl⟩)
 ·
  have find:∀w:YB,w.length<=1000000000->fW p (m:Int) w (cx p (m:Int) w).1 (cx p (m:Int) w).2.1 (cx p (m:Int) w).2.2:=λw hw=>QF (by omega) (by omega) (by omega) hw;have use4:(u.kind=16∨u.kind=9)->ly 10 p (gQ b 0 p) (m:Int) u (fQ b p m t q):=λhk=>by
   refine vJ 9 _ _ _ _ _ (⟨_,_,_,find u.text (by omega),λhl=>?_,λhl=>?_⟩)
   ·obtain⟨j,d,tm,f,e1,e2,htm,hf⟩:=sZ hl;have hus:usK p m t q=some ⟨(j:Int),((ay tm [(d:Int)]:Nat):Int)⟩:=by
     rw[usK,hu,if_neg h12,if_pos hk,if_pos hl,e1,e2,iU htm]
    rw[some_ hus,e1,e2];obtain⟨row,n,g1,g2,rfl,g4⟩:=vM (b:=b) hb htm<|jY hf;have hdef:lV p (gQ b 0 p) (j:Int) (d:Int) (idK b p j<|ay tm [(d:Int)]):=xa 0 _ _ _ _ _<|⟨j,rfl,row,g1,j,rfl,tm,htm,_,g2,_,rfl,_,g4,rfl⟩;refine wf 8 _ _ _ _ _ _ _ (⟨_,hdef,λhm=>⟨_,Mm u.text (by omega),?_⟩,λhm=>?_⟩)
    ·have hjm:j=m:=by omega
     simp[hk,hm,hjm]
    ·simp[hm]
   ·have hus:usK p m t q=none:=by
     rw[usK,hu,if_neg h12,if_pos hk,if_neg (by rw[hl];simp)]
    rw[none_ hus]
  have rest5:¬(u.kind=16∨u.kind=9)->ld 10 p (gQ b 0 p) (m:Int) q u (fQ b p m t q):=λhk=>by
   refine vk 9 _ _ _ _ _ _<|⟨λh17=>?_,λh17=>?_⟩
   ·rcases List.eq_nil_or_concat q with rfl|⟨r,i,rfl⟩
    ·simp only[atK,aab]at hq;subst hq;omega
    rw[List.concat_eq_append]at hq hu none_ some_ hs⊢;obtain⟨w,c,rfl,hw,hc⟩:=pk hq;have el:(r++[(c:Int)]).length-1=r.length:=by simp
    have et:(r++[(c:Int)]).take r.length=r:=by simp
    have eg:(r++[(c:Int)]).getD r.length 0=(c:Int):=by simp[List.getD_eq_getElem?_getD]
    have eg':(r++[(c:Int)])[r.length]?=some (c:Int):=by simp
    have ei:(((r++[(c:Int)]).length:Nat):Int)-1=((r.length:Nat):Int):=by simp
    have hsw:=mF hw;have htw:=cN w;have hutx:u.text=[]:=by have :=rD _ t u hst hq;rw[ee,h17]at this;simp only[aaa]at this;simpa[uA]using this.1.2
    refine vm 8 _ _ _ _ _ _ (⟨m,rfl,t,ht,_,ei,by simp,w,true,by rw[et];exact zi hw (by omega),?_⟩);refine wb 7 _ _ _ _ _ _ _ (⟨_,ei,_,eg',_,_,_,find w.text (by omega),λhl=>?_,λhl=>?_⟩)
    ·obtain⟨j,d,tm,f,e1,e2,htm,hf⟩:=sZ hl;refine⟨j,e1,tm,htm,d,e2,f,hf,?_⟩;rw[e1,e2];by_cases hlt:(c:Int)<(f.kids.length:Int)-2
     ·have hus:usK p m t (r++[(c:Int)])=some ⟨(j:Int),((ay tm [(d:Int),(c:Int)]:Nat):Int)⟩:=by
       rw[usK,hu,if_neg h12,if_neg hk,if_pos h17,el,et,eg,eK hw,if_pos ⟨hl,by rw[e1,e2,iU htm,lL hf];exact hlt⟩,e1,e2,iU htm]
      obtain⟨k,hk'⟩:∃k,f.kids[c]?=some k:=⟨_,List.getElem?_eq_getElem<|by omega⟩;have hat:atK tm [(d:Int),(c:Int)]=some k:=by rw[atK,if_neg (by omega),Int.toNat_natCast,hf];exact jY hk'
      obtain⟨row,n,g1,g2,rfl,g4⟩:=vM (b:=b) hb htm hat;rw[some_ hus,decide_eq_true hlt];refine kC 6 _ _ _ _ _ _ _ _ (⟨λ_=>?_,λh=>by cases h⟩);refine uT 5 _ _ _ _ _ _ _<|⟨j,I,row,g1,j,I,tm,htm,_,g2,_,I,_,g4,?_⟩;simp[hk,hutx]
     ·have hus:usK p m t (r++[(c:Int)])=none:=by
       rw[usK,hu,if_neg h12,if_neg hk,if_pos h17,el,et,eg,eK hw,if_neg λh=>hlt (by have :=h.2;rwa [e1,e2,iU htm,lL hf]at this)]
      rw[none_ hus,decide_eq_false hlt];exact kC 6 _ _ _ _ _ _ _ _ (⟨λh=>(by cases h),λ_=>rfl⟩)
    ·have hus:usK p m t (r++[(c:Int)])=none:=by
      rw[usK,hu,if_neg h12,if_neg hk,if_pos h17,el,et,eg,eK hw,if_neg (λh=>by have :=h.1;rw[hl]at this;cases this)]
     rw[none_ hus];exact kC 6 _ _ _ _ _ _ _ _ (⟨λh=>(by cases h),λ_=>rfl⟩)
   ·have hus:usK p m t q=none:=by
     rw[usK,hu,if_neg h12,if_neg hk,if_neg h17]
    rw[none_ hus]
  refine wd 19 _ _ _ _ _ _<|⟨λh16=>?_,λh16=>?_⟩
  ·exact po 10 _ _ _ _ _ _ _ (⟨λ_=>use4<|.inl h16,λh=>(by cases h)⟩)
  ·exact po 10 _ _ _ _ _ _ _ (⟨λh=>use4 (.inr<|by simpa using h),λh=>rest5 λh'=>h'.elim h16<|by simpa using h⟩)
end
theorem PM{k n i:Int}(h:gb k n i 1=true):False:=by
 unfold gb at h
 repeat' split at h
 all_goals first|omega|(revert h;simp[my,nh,sF])
theorem Ns{k:Int}:fw k=1↔k=1:=by
 unfold fw
 repeat' split
 all_goals omega
theorem DC{c:Nat}:(ry t (c:Int)).1=0↔(c:Int)<ca t:=by
 unfold ry;split
 ·rename_i h;exact⟨λ_=>h,λ_=>rfl⟩
 ·rename_i h;simp only;constructor<;>intro h'<;>omega
theorem Rh{c:Nat}:(ry t (c:Int)).2=ca t:=by unfold ry;split<;>rfl
section
variable{b:Int}{p:YT}(hb:kbulk p<=100000000)(hp:dn p=true){m:Nat}{t u:Tree}{q:YI}(ht:p[m]?=some t)(hq:atK t q=some u)
include hb hp ht hq
theorem yw{txt:YB}(hx:∀(r:YI) (c:Nat) (w:Tree),q=r++[(c:Int)]->atK t r=some w->(c:Int)<ca w->txt=(sY (ca w).toNat).getD c []):ff p (gQ b 0 p) (m:Int) q txt (lf b p m t q):=by
 have hbt:=bX ht;have hs:=mF hq;have hu:=eK hq;have hll:=uB u;obtain⟨hk1,hst⟩:=si hp ht;obtain⟨row,n,g1,g2,rfl,g4⟩:=vM (b:=b) hb ht hq;have l2:∀k i (cs:List ai),k+i=u.leads.length->cs.length+k<=1000000000->du (k+1) u (idK b p m<|ay t q) cs i (cs++ldK (idK b p m<|ay t q) i (u.leads.drop i)):=λk=>by
  induction k with
  |zero=>
   intro i cs hi hc;refine gf 0 _ _ _ _ _ (⟨λh=>by omega,λ_=>?_⟩);rw[List.drop_of_length_le<|by omega];simp[ldK]
  |succ k ih=>
   intro i cs hi hc;obtain⟨s,hs'⟩:∃s,u.leads[i]?=some s:=⟨_,List.getElem?_eq_getElem (by omega)⟩;have :=ih (i+1) (cs++[⟨idK b p m (ay t q),((8+i:Nat):Int),⟨0,false,s,0⟩⟩]) (by omega) (by simp;omega);refine gf (k+1) _ _ _ _ _ (⟨λ_=>⟨by omega,s,hs',by simp;omega,?_⟩,λh=>by omega⟩);rw[bq hs',ldK];simpa using this
 have ec:lf b p m t q=[⟨idK b p m<|ay t q,1,⟨fw u.kind,false,[],0⟩⟩]++[⟨idK b p m<|ay t q,2,fS b p m t q⟩]++[if fw u.kind=5 then⟨idK b p m<|ay t q,4,fQ b p m t q⟩else⟨idK b p m<|ay t q,3,⟨0,false,u.text,0⟩⟩]++ldK (idK b p m<|ay t q) 0 u.leads:=by rw[lf,hu]
 have l0:∀cs:List ai,cs.length<=2->dx (u.leads.length+2) p (gQ b 0 p) (m:Int) q u (idK b p m<|ay t q) (fw u.kind) cs (cs++[if fw u.kind=5 then⟨idK b p m<|ay t q,4,fQ b p m t q⟩else⟨idK b p m<|ay t q,3,⟨0,false,u.text,0⟩⟩]++ldK (idK b p m<|ay t q) 0 u.leads):=λcs hc=>by
  refine pE (u.leads.length+1) _ _ _ _ _ _ _ _ _ (⟨λh5=>⟨_,CE hb hp ht hq,by simp;omega,?_⟩,λh5=>⟨by simp;omega,?_⟩⟩)
  ·rw[if_pos h5];have :=l2 u.leads.length 0 (cs++[⟨idK b p m<|ay t q,4,fQ b p m t q⟩]) (by omega) (by simp;omega)
   rwa [List.drop_zero]at this
  ·rw[if_neg h5];have :=l2 u.leads.length 0 (cs++[⟨idK b p m<|ay t q,3,⟨0,false,u.text,0⟩⟩]) (by omega) (by simp;omega)
   rwa [List.drop_zero]at this
 rcases List.eq_nil_or_concat q with rfl|⟨r,i,rfl⟩
 ·have hut:t=u:=by simpa[atK]using hq
  have hk:u.kind=1:=by rw[<-hut];exact hk1
  have e1:fw u.kind=1:=Ns.2 hk;have eh:fS b p m t []=⟨1,false,[],0⟩:=by simp[fS]
  refine qB (u.leads.length+2) _ _ _ _ _ _ (⟨m,rfl,t,ht,u,true,zi hq (by simp),m,rfl,row,g1,m,rfl,t,ht,_,g2,_,rfl,_,g4,_,DU _,λ_=>⟨by simp,?_⟩,λh=>absurd e1 h⟩);have :=l0 ([⟨idK b p m<|ay t [],1,⟨fw u.kind,false,[],0⟩⟩]++[⟨idK b p m<|ay t [],2,⟨1,false,[],0⟩⟩]) (by simp);rw[ec,eh];exact this
 ·rw [List.concat_eq_append]at *;obtain⟨w,c,rfl,hw,hc⟩:=pk hq;have el:(r++[(c:Int)]).length-1=r.length:=by simp
  have et:(r++[(c:Int)]).take r.length=r:=by simp
  have eg:(r++[(c:Int)]).getD r.length 0=(c:Int):=by simp[List.getD_eq_getElem?_getD]
  have eg':(r++[(c:Int)])[r.length]?=some (c:Int):=by simp
  have ei:(((r++[(c:Int)]).length:Nat):Int)-1=((r.length:Nat):Int):=by simp
  have hsw:=mF hw;have hcl:=(List.getElem?_eq_some_iff.1 hc).1;have hkw:=cb w;have hnk:fw u.kind≠1:=λh=>by have hk:=Ns.1 h;have :=rD r t w hst hw;rw[ee]at this;simp only[aaa]at this;have h1:=(qp this.2 hc).1;rw[hk]at h1;exact PM h1
  obtain⟨row',n',k1,k2,rfl,k4⟩:=vM (b:=b) hb ht hw;have eh:fS b p m t (r++[(c:Int)])=if(c:Int)<ca w then⟨0,false,(sY (ca w).toNat).getD c [],idK b p m<|ay t r⟩else⟨(c:Int)-ca w+1,false,[],idK b p m<|ay t r⟩:=by rw[fS,if_neg (by simp),el,et,eg,eK hw,Int.toNat_natCast]
  refine qB (u.leads.length+5) _ _ _ _ _ _ (⟨m,I,t,ht,u,true,zi hq (by omega),m,I,row,g1,m,I,t,ht,_,g2,_,I,_,g4,_,DU _,λh=>absurd h hnk,λ_=>?_⟩);refine vg (u.leads.length+4) _ _ _ _ _ _ _ _ _ (⟨_,ei,by simp,m,rfl,t,ht,w,true,by rw[et];exact zi hw (by omega),_,ei,_,eg',_,_,KZ hcl (by omega),m,rfl,row',k1,m,rfl,t,ht,_,by rw[et];exact k2,_,rfl,_,k4,?_⟩);rw[ec,eh];have mono:∀cs:List ai,cs.length<=2->dx (u.leads.length+3) p (gQ b 0 p) (m:Int) (r++[(c:Int)]) u (idK b p m<|ay t<|r++[(c:Int)]) (fw u.kind) cs (cs++[if fw u.kind=5 then⟨idK b p m<|ay t<|r++[(c:Int)],4,fQ b p m t<|r++[(c:Int)]⟩else⟨idK b p m<|ay t<|r++[(c:Int)],3,⟨0,false,u.text,0⟩⟩]++ldK (idK b p m<|ay t<|r++[(c:Int)]) 0 u.leads):=λcs hc'=>by
   have l2':∀k i (cs:List ai),k+i=u.leads.length->cs.length+k<=1000000000->du (k+2) u (idK b p m<|ay t<|r++[(c:Int)]) cs i (cs++ldK (idK b p m<|ay t<|r++[(c:Int)]) i (u.leads.drop i)):=λk=>by
    induction k with
    |zero=>
     intro i cs hi hc;refine gf 1 _ _ _ _ _ (⟨λh=>by omega,λ_=>?_⟩);rw[List.drop_of_length_le<|by omega];simp[ldK]
    |succ k ih=>
     intro i cs hi hc;obtain⟨s,hs'⟩:∃s,u.leads[i]?=some s:=⟨_,List.getElem?_eq_getElem (by omega)⟩;have :=ih (i+1) (cs++[⟨idK b p m (ay t (r++[(c:Int)])),((8+i:Nat):Int),⟨0,false,s,0⟩⟩]) (by omega) (by simp;omega);refine gf (k+2) _ _ _ _ _ (⟨λ_=>⟨by omega,s,hs',by simp;omega,?_⟩,λh=>by omega⟩);rw[bq hs',ldK];simpa using this
   refine pE (u.leads.length+2) _ _ _ _ _ _ _ _ _ (⟨λh5=>⟨_,CE hb hp ht hq,by simp;omega,?_⟩,λh5=>⟨by simp;omega,?_⟩⟩)
   ·rw[if_pos h5];have :=l2' u.leads.length 0 (cs++[⟨idK b p m<|ay t<|r++[(c:Int)],4,fQ b p m t<|r++[(c:Int)]⟩]) (by omega) (by simp;omega)
    rwa [List.drop_zero]at this
   ·rw[if_neg h5];have :=l2' u.leads.length 0 (cs++[⟨idK b p m<|ay t<|r++[(c:Int)],3,⟨0,false,u.text,0⟩⟩]) (by omega) (by simp;omega)
    rwa [List.drop_zero]at this
  refine vn (u.leads.length+3) _ _ _ _ _ _ _ _ _ _ _ (⟨λh0=>⟨by simp,?_⟩,λh0=>⟨by simp,?_⟩⟩)
  ·have hlt:=DC.1 h0;rw[if_pos hlt,h0,hx r c w rfl hw hlt];exact mono _ (by simp)
  ·have hlt:¬(c:Int)<ca w:=λh=>h0<|DC.2 h;have e:(ry w (c:Int)).1=(c:Int)-ca w+1:=by rw[ry,if_neg hlt]
   rw[if_neg hlt,e];exact mono _ (by simp)
end
theorem uw{b k N:Int}(hb:fx b=true)(h1:1<=k)(h2:k<=N)(h:(bM b N).2=0):bM b k=(b+k,0):=by
 have E:1048576<=b∧b<34603008:=by simpa[fx]using hb
 rw[bM,if_pos ⟨hb,by omega⟩]at h⊢;split at h
 ·cases h
 ·rename_i hn;rw[if_neg (by omega),if_neg<|by omega]
theorem LK {V:Tree->Bool} {b:Int} {p:List Tree} (hb:kbulk p<=100000000) (hV:∀t∈p,bV t<|V t) (hs:∀t∈p,V t=true->shapeK t=true) (hf:okP V p=true->Few p):fR p b (ba V b p).1 (ba V b p).2.1 (ba V b p).2.2:=by
 have hpl:=fP p;have hval:iv p (okP V p):=Kh hV;have bad:¬(okP V p=true∧fx b=true)->ba V b p=(⟨[]⟩,0,5):=λh=>by rw[ba,if_neg h]
 by_cases hok:okP V p=true
 rotate_left
 ·rw[bad λh=>hok h.1];exact lU 0 _ _ _ _ _<|⟨_,hval,λ_=>⟨rfl,rfl,rfl⟩,λh=>absurd h hok⟩
 by_cases hbs:fx b=true
 rotate_left
 ·rw[bad λh=>hbs h.2];exact lU 0 _ _ _ _ _ (⟨_,hval,λh=>absurd hok (by rw[h];simp),λ_=>⟨_,Ch b,λ_=>⟨rfl,rfl,rfl⟩,λh=>absurd h hbs⟩⟩)
 have hF:=hf hok;have hbb:1048576<=b∧b<34603008:=by simpa[fx]using hbs
 have hall:∀t∈p,t.kind=1∧shapeK t=true:=λt ht=>by simp only[okP,aaa,List.all_eq_true,aaq]at hok;obtain⟨a1,a2⟩:=hok.2 t ht;exact⟨a1,hs t ht a2⟩
 have hp:dn p=true:=by
  clear hf hF hb hV hs hok hpl hval bad
  induction p with
  |nil=>rfl
  |cons t r ih=>
   obtain⟨a1,a2⟩:=hall t (by simp);simp only[dn,a1,a2,ih λx hx=>hall x<|by simp[hx]];rfl
 have hnb:=nNs_bulk p;have l2:∀k i (cs:List ai),k+i=p.length->cs.length+3*kbulk (p.drop i)<=1000000000->∃M,iz M p b i cs (nNs p) (gQ b 0 p) ⟨nzF<|cs++eF b p i (p.drop i)⟩ (b+((nNs p:Nat):Int)) 0:=λk=>by
  induction k with
  |zero=>
   intro i cs hi hc;refine⟨1,qb 0 _ _ _ _ _ _ _ _ _ (⟨λh=>by omega,λ_=>⟨_,OX cs (by omega),by constructor<;>omega,?_,I,I⟩⟩)⟩;rw[List.drop_of_length_le<|by omega];simp[eF]
  | succ k ih=>
   intro i cs hi hc;obtain⟨t,ht⟩:∃t,p[i]?=some t:=⟨_,List.getElem?_eq_getElem (by omega)⟩;rw[bq ht,kbulk]at hc;rw[bq ht,eF];have hw:=wL_bulk t [];have hbt:=bX ht;have hnt:=nN_bulk t;have hpa:(mz (nodK t [])).length=nN t:=by rw[mz,aan,nodK_nN]
   have l3:∀j n (cs:List ai),j+n=nN t->cs.length+wL ((nodK t []).drop n)+3*kbulk (p.drop<|i+1)<=1000000000->∃M,dH M p b (mz<|nodK t []) cs n i (gQ b 0 p) (nNs p) ⟨nzF<|cs++(pS b p i t ((nodK t []).drop n)++eF b p (i+1) (p.drop<|i+1))⟩ (b+((nNs p:Nat):Int)) 0:=λj=>by
    induction j with
    |zero=>
     intro n cs hn hc;obtain⟨M,hM⟩:=ih (i+1) cs (by omega) (by omega);refine⟨M+1,lC M _ _ _ _ _ _ _ _ _ _ _ (⟨λh=>by omega,λ_=>⟨by omega,?_⟩⟩)⟩;rw[List.drop_of_length_le (by rw[nodK_nN];omega),pS,aaj];exact hM
    | succ j ihj=>
     intro n cs hn hc;obtain⟨x,hx⟩:∃x,(nodK t [])[n]?=some x:=⟨_,List.getElem?_eq_getElem (by rw[nodK_nN];omega)⟩;obtain⟨hat,hnum⟩:=JP hx;have hpx:(mz (nodK t []))[n]?=some x.1:=by rw[mz,List.getElem?_map,hx];rfl
     have hsm:=mF hat;rw[bq hx,wL]at hc;have hcl:(lf b p i t x.1).length=3+x.2.leads.length:=by rw[DT,eK hat]
     obtain⟨M,hM⟩:=ihj (n+1) (cs++lf b p i t x.1) (by omega) (by rw[aac];omega);rw[aai]at hM;rw[bq hx,pS,aai];obtain⟨q,u⟩:=x;simp only at hat hpx hcl hM hsm hc⊢;rcases List.eq_nil_or_concat q with rfl|⟨r,c,rfl⟩
     ·have hcells:=yw (b:=b) hb hp ht hat (txt:=[]) (λr c w h=>by simp at h);exact⟨M+1,lC M _ _ _ _ _ _ _ _ _ _ _<|⟨λ_=>⟨_,hpx,λh=>by simp at h,λ_=>⟨_,hpx,_,hcells,by rw[aac];omega,hM⟩⟩,λh=>by omega⟩⟩
     ·rw[List.concat_eq_append]at *;obtain⟨w,d,rfl,hw',hd⟩:=pk hat;have et:(r++[(d:Int)]).take r.length=r:=by simp
      have eg':(r++[(d:Int)])[r.length]?=some (d:Int):=by simp
      have ei:(((r++[(d:Int)]).length:Nat):Int)-1=((r.length:Nat):Int):=by simp
      have hsw:=mF hw';have hk4:=hF i t w r ht hw';have hlk:=EC w;have hdl:=(List.getElem?_eq_some_iff.1 hd).1;refine⟨M+3,lC (M+2) _ _ _ _ _ _ _ _ _ _ _<|⟨λ_=>⟨_,hpx,λ_=>?_,λh=>absurd (by simp) h⟩,λh=>by omega⟩⟩;refine xu (M+1) _ _ _ _ _ _ _ _ _ _ _ (⟨_,hpx,_,hpx,_,ei,_,eg',t,ht,_,hpx,_,hpx,_,ei,by simp,w,true,by rw[et];exact zi hw' (by omega),?_⟩);refine xO M _ _ _ _ _ _ _ _ _ _ _ _ _ (⟨_,_,KZ hdl (by omega),λh0=>?_,λh0=>?_⟩)
      ·have hlt:=DC.1 h0;obtain⟨N,hN⟩:∃N:Nat,ca w=N:=⟨(ca w).toNat,by omega⟩;have hcells:=yw (b:=b) hb hp ht hat (txt:=(sY N).getD d []) (λr' c' w' h hw'' _=>by
        have hinj:=List.append_inj' h rfl;obtain⟨rfl,h2⟩:=hinj;have :d=c':=by simp at h2;omega
        subst this;rw[hw']at hw'';injection hw'' with hw''
        subst hw'';rw[hN,Int.toNat_natCast])
       rw[hN]at hlt;refine⟨_,by rw[Rh,hN];exact JE N (by omega),d,I,_,?_,_,hpx,_,hcells,by rw[aac];omega,by omega,hM⟩;rw[List.getD_eq_getElem?_getD,List.getElem?_eq_getElem (by rw[DQ];omega)];rfl
      ·have hlt:¬(d:Int)<ca w:=λh=>h0 (DC.2 h);have hcells:=yw (b:=b) hb hp ht hat (txt:=[]) (λr' c' w' h hw'' hlt'=>by
        have hinj:=List.append_inj' h rfl;obtain⟨rfl,h2⟩:=hinj;have :d=c':=by simp at h2;omega
        subst this;rw[hw']at hw'';injection hw'' with hw''
        subst hw'';exact absurd hlt' hlt)
       exact⟨_,hpx,_,hcells,by rw[aac];omega,by omega,hM⟩
   obtain⟨M,hM⟩:=l3 (nN t) 0 cs (by omega) (by rw[List.drop_zero];omega);rw[List.drop_zero]at hM;exact⟨M+1,qb M _ _ _ _ _ _ _ _ _<|⟨λ_=>⟨t,ht,_,Ol t (by omega),hM⟩,λh=>by omega⟩⟩
 have l0:∀k i,k+i=p.length->(∀c:Nat,1<=c->c<=nNs (p.take i)->(bM b c).2=0)->∃M,iD M p b (gQ b 0<|p.take i) i (nNs<|p.take i) (ba V b p).1 (ba V b p).2.1 (ba V b p).2.2:=λk=>by
  induction k with
  | zero=>
   intro i hi hn;rw[List.take_of_length_le (show p.length<=i by omega)]at hn⊢;obtain⟨M,hM⟩:=l2 p.length 0 [] (by omega) (by simp;omega);rw[List.drop_zero,aaj]at hM;have e:ba V b p=(⟨nzF (eF b p 0 p)⟩,b+((nNs p:Nat):Int),0):=by
    rw[ba,if_pos ⟨hok,hbs⟩];by_cases h0:nNs p=0
    ·have :p=[]:=by
      have :=vS p;exact List.length_eq_zero_iff.1 (by omega)
     subst this;simp[nNs,eF,nzF]
    ·have h1:=hn (nNs p) (by omega)<|aaf _;have h2:=uw hbs (k:=((nNs p:Nat):Int)) (N:=((nNs p:Nat):Int)) (by omega) (by omega) h1;rw[if_neg h0,if_neg (by rw[h1];simp),h2]
   rw[e];exact⟨M+1,pQ M _ _ _ _ _ _ _ _<|⟨λh=>by omega,λ_=>hM⟩⟩
  | succ k ih=>
   intro i hi hn;obtain⟨t,ht⟩:∃t,p[i]?=some t:=⟨_,List.getElem?_eq_getElem (by omega)⟩;have hbt:=bX ht;have hnl:=hW ht;have hnt:=tt ht;have htk:p.take (i+1)=p.take i++[t]:=by rw[List.take_add_one,ht];rfl
   have l1:∀j c,j+c=nN t->(∀d:Nat,1<=d->d<=nNs (p.take i)+c->(bM b d).2=0)->∃M,iE M p b (nNs (p.take i)+c) (idR b (nNs<|p.take i) c) ((j:Nat):Int) (gQ b 0<|p.take i) i (ba V b p).1 (ba V b p).2.1 (ba V b p).2.2:=λj=>by
    induction j with
    |zero=>
     intro c hc hn;obtain⟨M,hM⟩:=ih (i+1) (by omega) (by rw[hnt];intro d h1 h2;exact hn d h1 (by omega));refine⟨M+1,lx M _ _ _ _ _ _ _ _ _ _ (⟨λh=>by omega,λ_=>⟨by simp[EW];omega,by omega,?_⟩⟩)⟩;rw[htk,CG,zw,Nat.zero_add,show nNs [t]=nN t by simp[nNs]]at hM;rw[show c=nN t by omega];exact hM
    | succ j ihj=>
     intro c hc hn;have nx:=Nl b ((nNs (p.take i)+c+1:Nat):Int) (by omega);have hor:=Cg hbs (k:=((nNs (p.take i)+c+1:Nat):Int)) (by omega);by_cases h0:(bM b ((nNs (p.take i)+c+1:Nat):Int)).2=0
     ·obtain⟨M,hM⟩:=ihj (c+1) (by omega) (λd h1 h2=>by
       by_cases h:d<=nNs (p.take i)+c
       ·exact hn d h1 h
       ·rw[show d=nNs (p.take i)+c+1 by omega];exact h0)
      refine⟨M+1,lx M _ _ _ _ _ _ _ _ _ _<|⟨λ_=>⟨by omega,_,_,nx,λh=>absurd h0 h,λ_=>⟨by simp[idR];omega,by constructor<;>omega,?_⟩⟩,λh=>by omega⟩⟩;rw[show((j+1:Nat):Int)-1=(j:Int) by omega,show idR b (nNs<|p.take i) c++[(bM b ((nNs (p.take i)+c+1:Nat):Int)).1]=idR b (nNs<|p.take i) (c+1)from wC _ _];exact hM
     ·have h17:(bM b ((nNs (p.take i)+c+1:Nat):Int)).2=17:=by omega
      have hN:(bM b ((nNs p:Nat):Int)).2≠0:=λh=>h0 (by rw[uw hbs (by omega) (by omega) h]);have hN17:=Cg hbs (k:=((nNs p:Nat):Int)) (by omega);have e:ba V b p=(⟨[]⟩,0,17):=by rw[ba,if_pos ⟨hok,hbs⟩,if_neg (by omega),if_pos hN,show(bM b ((nNs p:Nat):Int)).2=17 by omega]
      rw[e];exact⟨1,lx 0 _ _ _ _ _ _ _ _ _ _<|⟨λ_=>⟨by omega,_,_,nx,λ_=>⟨I,I,h17⟩,λh=>absurd h h0⟩,λh=>by omega⟩⟩
   obtain⟨M,hM⟩:=l1 (nN t) 0 (by omega) (by rw[Nat.add_zero];exact hn);exact⟨M+1,pQ M _ _ _ _ _ _ _ _<|⟨λ_=>⟨t,ht,_,Co t (by omega),hM⟩,λh=>by omega⟩⟩
 obtain⟨M,hM⟩:=l0 p.length 0 (by omega) (λc h1 h2=>by simp[nNs]at h2;omega);exact lU M _ _ _ _ _ (⟨_,hval,λh=>absurd hok (by rw[h];simp),λ_=>⟨_,Ch b,λh=>absurd hbs (by rw[h];simp),λ_=>by simpa[gQ,nNs]using hM⟩⟩)
theorem KB:(prog.info? 140).map (·.size)=some 2:=by kernel_rfl
theorem Me:(prog.info? 5).map (λi=>(i.zero,i.size,i.bytes))=some (some<|.int .u8 0,1,1):=by kernel_rfl
theorem Kl:prog.cellsOf 5=1:=by kernel_rfl
theorem QP:liesAt prog prog.depth 142 (3/prog.cellsOf 142) 0 140 1=true:=by kernel_rfl
abbrev PrB(b:Nat)(p v:Value)(last:YB)(w:World):Prop:=w.heap[b]?=some (.cells #[p,v,.string ⟨last.toArray⟩] 142 (0,0))
abbrev Buf(v:Value)(l:YB)(w:World):Prop:=w.ownsRow 0 5 1 v l.length (Lib.byteCells l)
theorem Af{w:World}{o:Obj}(h:w.heap[b]?=some o):b<w.heap.size:=by
 rcases Nat.lt_or_ge b w.heap.size with h'|h'
 ·exact h'
 ·simp[Array.getElem?_eq_none h']at h
set_option maxHeartbeats 1000000 in
theorem Cc(b:Nat)(w:World)(G:w.cell? ⟨b,0,none⟩=some (.pointer<|some ⟨b,0,none⟩)):
  Calls prog 198 #[.pointer<|some ⟨b,0,none⟩] w λe w'=>e=.returned (.tuple #[])∧w=w':=by
 obtain⟨j,E,_⟩:=Option.map_eq_some_iff.1 KB
 go_enter func198,ntmps198
 go_wp2
 rw[Lib.run_neq_ptr_same w _ underlying138 E]
 go_wp2
 go_end0
 exact⟨I,I⟩
set_option maxHeartbeats 1000000 in
theorem AL(b:Nat)(w:World)(U:w.cell? ⟨b,0,none⟩=some (.pointer none))(E:w.shape? b=some (142,3))(O:w.frozen? ⟨b,0,none⟩=false):
  Calls prog 198 #[.pointer<|some ⟨b,0,none⟩] w λe w'=>e=.returned (.tuple #[])∧w'=w.setCell ⟨b,0,none⟩ (.pointer<|some ⟨b,0,none⟩):=by
 obtain⟨j,J,G⟩:=Option.map_eq_some_iff.1 KB
 go_enter func198,ntmps198
 go_wp2
 rw[Lib.run_to_unsafe w ⟨b,0,none⟩ underlying138 underlying223 J (by rw[G];decide) E<|Nat.succ_pos _];simp only[Result.andThen];rw[Oper.upon_value]
 go_wp2
 rw[run_callFunc_extern func214 (by kernel_rfl) (by kernel_rfl) (by kernel_rfl) (e:=Extern.AbiNoEscape.same)<|by kernel_rfl];rw[Lib.run_noEscape];simp only[Result.andThen];rw[Oper.upon_value]
 go_wp2
 rw[Lib.run_from_unsafe w ⟨b,0,none⟩ underlying223 underlying138 J E QP];simp only[Result.andThen];rw[Oper.upon_value]
 go_wp2
 go_end0
 exact⟨I,I⟩
theorem JY(w:World)(b i:Nat)(u:Value):ChgP (·=b) w (w.setCell ⟨b,i,none⟩ u):=⟨rfl,rfl,rfl,by simp[World.setCell],λk _ E=>Below.heap_setCell _ _ _ _ E⟩
theorem JZ{w:World}{u:Value}(h:Buf v l w)(E:v.ownBlock≠some b):Buf v l (w.setCell ⟨b,i,none⟩ u):=
 h.kept (row:=some b) ⟨rfl,rfl,rfl,by simp[World.setCell],λk _ G=>Below.heap_setCell _ _ _ _ λe=>G<|by simp[e]⟩ (Or.inr E)
theorem HJ{p:Value}{last:YB}{w:World}(hp:p=.pointer none∨p=.pointer (some ⟨b,0,none⟩))(E:PrB b p v last w)(G:Buf v l w):
  Calls prog 198 #[.pointer<|some ⟨b,0,none⟩] w λe w'=>e=.returned (.tuple #[])∧PrB b (.pointer<|some ⟨b,0,none⟩) v last w'∧Buf v l w'∧ChgP (·=b) w w':=by
 have J:w.cell? ⟨b,0,none⟩=some p:=by rw[Lib.cell_of_heap E];rfl
 have O:v.ownBlock≠some b:=Lib.ownBlock_ne G E (by decide);rcases hp with rfl|rfl
 ·refine(AL b w J (by simp[World.shape?,E])<|Lib.frozen_of_heap E 0).mono ?_;rintro e w' ⟨rfl,rfl⟩;exact⟨rfl,by simp[PrB,World.setCell,Array.getElem?_modify,E],JZ G O,JY _ _ _ _⟩
 ·refine(Cc b w J).mono ?_;rintro e w' ⟨rfl,rfl⟩;exact⟨I,E,G,ChgP.refl _ _⟩
section
open Go.Lib
variable{P:Program}
theorem Jj(w:World)(t u ty e:TypeId)(i:TypeInfo)(ht:P.underlying t=some (.slice e))(O:P.underlying u=some .string)(hi:P.info? e=some i)(hz:i.zero=some (.int .u8 0))(hsize:i.size=1)(G:i.bytes=1)
  (v:Value) (n:Nat) (xs:List Value) (E:w.ownsRow 0 e 1 v n xs) (s:ByteArray) (Z:n+s.size<=maxLen) (hbytes:n+s.size<=140737488355328):
  ∃J w',(Builtin.append_ #[t,u] ty #[v,.string s]).run P w=.ok J w'∧w'.ownsRow 0 e 1 J (n+s.size) (xs++strCells s)∧w.grownBy w' v.ownBlock∧∀g,J.ownBlock=some g->v.ownBlock=some g∨w.heap.size<=g:=by
 obtain⟨J,w',hr,h2,h3,h4⟩:=run_append_own_string (P:=P) w 0 t u ty e i ht O hi hz hsize G v n xs E s Z hbytes<|aar _;refine⟨J,w',hr,h2,h3,λg U=>?_⟩;have hxl:xs.length=n:=by simpa using E.1
 rcases E.2 with⟨rfl,rfl⟩|⟨g0,cap,cur,rfl,hbg,hgh,hnc,hcm,hcs,htake⟩
 ·by_cases hm:s.size=0
  ·have :=h4.2 ⟨rfl,hm⟩;subst this;cases U
  ·rw[run_append_nil_string (P:=P) w t u ty e i (.int .u8 0) ht O hi hz s (by omega) (by omega) (by rw[G];omega)]at hr;cases hr;cases U;exact .inr<|aaf _
 ·by_cases hroom:n+s.size<=cap
  ·rw[run_append_room_string (P:=P) w t u ty e i ht O hi hsize g0 n cap cur hgh s hroom (by simp at hcs;omega)]at hr;cases hr;exact .inl U
  ·rw[run_append_grow_string (P:=P) w t u ty e i (.int .u8 0) ht O hi hz ⟨g0,0,none⟩ n cap xs (by rw[hsize];simpa using hxl) (E.cells (g:=g0) rfl) s (by omega) (by omega) (by rw[G];exact growslice_fits (by omega)<|by omega)]at hr;cases hr;cases U;exact .inr<|aaf _
theorem DM{w:World}{ops:Array Oper}{rest:List Oper}{o:Oper}{a:Act}{Q:Exit->Act->World->Prop}(J:o.guard=none)(sl x:Operand)(t u:TypeId)
  (ho:o.op=.call {callee:=.builtin .append,args:=#[sl,x],argTypes:=#[t,u]})
  (e:TypeId) (i:TypeInfo) (ht:P.underlying t=some (.slice e)) (Z:P.underlying u=some .string) (hi:P.info? e=some i) (hz:i.zero=some (.int .u8 0)) (hsize:i.size=1) (O:i.bytes=1)
  (v:Value) (n:Nat) (xs:List Value) (hs:a.eval sl=v) (E:w.ownsRow 0 e 1 v n xs) (s:ByteArray) (hx:a.eval x=.string s)
  (U:n+s.size<=maxLen) (hbytes:n+s.size<=140737488355328)
  (h:∀G w',w'.ownsRow 0 e 1 G (n+s.size) (xs++strCells s)->w.grownBy w' v.ownBlock->(∀g,G.ownBlock=some g->v.ownBlock=some g∨w.heap.size<=g)->wpList P ops Q rest (a.put o.dst G) w'):wpList P ops Q (o::rest) a w:=by
 refine wpList_plain J λK hK=>?_;obtain⟨G,w',hr,h2,h3,h4⟩:=Jj w t u o.type e i ht Z hi hz hsize O v n xs E s U hbytes;unfold Oper.wp execOp;simp only[ho,resolve,invoke,builtin,Sem.run_bind,Sem.run_pure,Result.andThen_ok,List.map_toArray,aah,aav,hs,hx,hr];exact hK _ _<|h G w' h2 h3 h4
end
set_option maxHeartbeats 2000000 in
theorem Ea{p:Value}{last s:YB}{w:World}(hp:p=.pointer none∨p=.pointer (some ⟨b,0,none⟩))(U:PrB b p v last w)(hown0:Buf v l w)(hlen:l.length+s.length<=140737488355328):
  Calls prog 178 #[.pointer<|some ⟨b,0,none⟩,.string ⟨s.toArray⟩] w λe w'=>e=.returned (.tuple #[.int .i64 s.length,.nilIface])∧∃v',PrB b (.pointer<|some ⟨b,0,none⟩) v' last w'∧Buf v' (l++s) w'∧(∀g,v'.ownBlock=some g->v.ownBlock=some g∨w.heap.size<=g)∧ChgP (λk=>k=b∨v.ownBlock=some k) w w':=by
 obtain⟨i0,hi,hz0,hz1,hz2⟩:=vc Me;have HB:=Lib.hid U;have HO:=Lib.hid hown0;clear U hown0
 go_enter func178,ntmps178
 go_wp2_with (go_at_call 198;refine(HJ (l:=l) hp HB.out HO.out).mono ?_)
 rintro e w1 ⟨rfl,O,G,hc1⟩;have hne:v.ownBlock≠some b:=Lib.ownBlock_ne G O (by decide);have HBk:=Lib.hid O;have HC:=Lib.hid hc1;clear hc1;have c1:w1.cell? ⟨b,1,none⟩=some v:=by rw[Lib.cell_of_heap O];rfl
 clear O
 go_wp2_with (at_builtin;refine DM rfl _ _ 115 9 rfl 5 i0 underlying115 underlying9 hi hz0 hz1 hz2 _ _ _ rfl G ⟨s.toArray⟩ rfl ?c3 ?c4 ?_)
 case c3=>unfold maxLen;simp only[List.size_toArray,ByteArray.size];omega
 case c4=>simp only[List.size_toArray,ByteArray.size];omega
 intro v' w2 E hgrow Z;have hlt:b<w1.heap.size:=Af HBk.out;have J:PrB b (.pointer (some ⟨b,0,none⟩)) v last w2:=by show w2.heap[b]?=_;rw[hgrow.block b hlt λe=>hne e.symm];exact HBk.out
 have d1:w2.cell? ⟨b,1,none⟩=some v:=by rw[Lib.cell_of_heap J];rfl
 have f1:w2.frozen? ⟨b,1,none⟩=false:=Lib.frozen_of_heap J 1;have hown2:Buf v' (l++s) w2:=by
  have e1:Lib.byteCells (l++s)=Lib.byteCells l++Lib.strCells ⟨s.toArray⟩:=by simp[Lib.byteCells,Lib.strCells]
  show w2.ownsRow _ _ _ _ (l++s).length (Lib.byteCells<|l++s);rw[e1,aac];exact E
 obtain⟨ao,n',cap,hv'⟩:∃ao n' cap,v'=.slice ao n' cap:=by
  rcases E.2 with⟨hv,_⟩|⟨g,cap,cur,hv,_⟩
  ·exact⟨_,_,_,hv⟩
  ·exact⟨_,_,_,hv⟩
 subst hv';have hne2:=Lib.ownBlock_ne hown2 J (by decide);have HG:=Lib.hid hgrow;have HN:=Lib.hid Z;have HO2:=Lib.hid hown2;have HB2:=Lib.hid J;clear hgrow G E hown2 J Z
 go_wp2
 go_ret2
 refine⟨by simp,.slice ao n' cap,by simp[PrB,World.setCell,Array.getElem?_modify,HB2.out],JZ HO2.out hne2,λg hg=>?_,?_⟩
 ·rcases HN.out g hg with h|h
  ·exact .inl h
  ·exact .inr<|aap HC.out.size h
 ·have h1:ChgP (λk=>k=b∨v.ownBlock=some k) w w1:=HC.out.mono λk e=>.inl e;have h2:ChgP (λk=>k=b∨v.ownBlock=some k) w1 w2:=⟨HG.out.os,HG.out.tape,HG.out.output,HG.out.size,λk hk hn=>HG.out.block k hk λe=>hn<|.inr e.symm⟩;exact(h1.trans h2 λk e=>.inl e).trans ((JY w2 b 1 _).mono λk e=>.inl e) λk e=>.inl e
theorem zt(X:Nat->Prop)(w:World):ChgP X w w.drew:=⟨rfl,rfl,rfl,aaf _,λ_ _ _=>rfl⟩
theorem MA(X:Nat->Prop)(w:World)(o:Obj):ChgP X w (w.alloc o):=⟨rfl,rfl,rfl,by simp,λk E _=>Below.heap_alloc _ _ _ E⟩
theorem Kj(w:World)(g n:Nat):ChgP (·=g) w (w.freeze ⟨g,0,none⟩ n):=by
 unfold World.freeze;split
 ·exact ChgP.refl _ _
 ·exact⟨rfl,rfl,rfl,by simp,λk E hn=>by simp only[Array.getElem?_modify];rw[if_neg (λe=>hn e.symm)]⟩
theorem zE(W:World)(q:Option Addr):(Builtin.unsafeString_ #[187,3] 9 #[.pointer q,.int .i64 0]).run prog W=.ok (.string .empty) W:=
 Lib.run_unsafeString_none W _ _ _ q
set_option maxHeartbeats 2000000 in
theorem BU{p:Value}{last:YB}{w:World}(G:PrB b p v last w)(E:Buf v l w):
  Calls prog 93 #[.pointer<|some ⟨b,0,none⟩] w λe w'=>e=.returned (.string ⟨l.toArray⟩)∧ChgP (λk=>k=b∨v.ownBlock=some k) w w':=by
 have hlt:b<w.heap.size:=Af G;by_cases h0:l=[]
 ·subst h0;have hUS:=zE;rcases E.2 with⟨rfl,_⟩|⟨g,cap,cur,rfl,hbg,Z,_⟩
  ·have c1:w.drew.cell? ⟨b,1,none⟩=some (.slice none 0 0):=by
    have :w.drew.heap[b]?=some (.cells #[p,.slice none 0 0,.string ⟨last.toArray⟩] 142 (0,0)):=G;rw[Lib.cell_of_heap this];rfl
   have J:(Builtin.unsafeSliceData_ #[115] 187 #[.slice none 0 0]).run prog w.drew=.ok (.pointer none) w.drew:=rfl;clear G E
   go_enter func93,ntmps93
   go_wp2
   go_region
   all_goals (go_wp2;go_ret;exact⟨rfl,zt _ w⟩)
  ·by_cases O:cap=0
   ·subst O;have c1:w.drew.cell? ⟨b,1,none⟩=some (.slice (some ⟨g,0,none⟩) 0 0):=by
     have :w.drew.heap[b]?=some (.cells #[p,.slice (some ⟨g,0,none⟩) 0 0,.string ⟨last.toArray⟩] 142 (0,0)):=G;rw[Lib.cell_of_heap this];rfl
    have J:(Builtin.unsafeSliceData_ #[115] 187 #[.slice (some ⟨g,0,none⟩) 0 0]).run prog w.drew=.ok (.pointer<|some ⟨w.drew.heap.size,0,none⟩) (w.drew.alloc<|.view ⟨g,0,none⟩ 5):=
     Lib.run_unsafeSliceData_zero w.drew _ _ 5 underlying187 ⟨g,0,none⟩ 0 (5,cur.size) (by have U:w.drew.heap[g]?=some (.cells cur 5 (0,0)):=Z;simp[World.shape?,U])
    have c2:(w.drew.alloc<|.view ⟨g,0,none⟩ 5).cell? ⟨b,1,none⟩=some (.slice (some ⟨g,0,none⟩) 0 0):=by
     have :(w.drew.alloc<|.view ⟨g,0,none⟩ 5).heap[b]?=_:=(Below.heap_alloc w.drew _ b hlt).trans G;rw[Lib.cell_of_heap this];rfl
    have c3:(w.alloc<|.view ⟨g,0,none⟩ 5).drew.cell? ⟨b,1,none⟩=some (.slice (some ⟨g,0,none⟩) 0 0):=c2;have c0:w.cell? ⟨b,1,none⟩=some (.slice (some ⟨g,0,none⟩) 0 0):=c1;clear G E Z
    go_enter func93,ntmps93
    go_wp2
    go_region
    all_goals (go_wp2;go_ret;exact⟨rfl,(zt _ w).trans (MA _ _ _) λ_ e=>.inl e⟩)
   ·have c1:w.drew.cell? ⟨b,1,none⟩=some (.slice (some ⟨g,0,none⟩) 0 cap):=by
     have :w.drew.heap[b]?=some (.cells #[p,.slice (some ⟨g,0,none⟩) 0 cap,.string ⟨last.toArray⟩] 142 (0,0)):=G;rw[Lib.cell_of_heap this];rfl
    have J:(Builtin.unsafeSliceData_ #[115] 187 #[.slice (some ⟨g,0,none⟩) 0 cap]).run prog w.drew=.ok (.pointer<|some ⟨g,0,none⟩) w.drew:=
     Lib.run_unsafeSliceData_row _ _ _ _ _ _ O
    clear G E Z O
    go_enter func93,ntmps93
    go_wp2
    go_region
    all_goals (go_wp2;go_ret;exact⟨rfl,zt _ w⟩)
 ·have hl0:l.length≠0:=by simpa using h0
  obtain⟨g,cap,cur,rfl,hbg,Z,hnc,hcm,hcs,htake⟩:∃g cap cur,v=.slice (some ⟨g,0,none⟩) l.length cap∧0<=g∧w.heap[g]?=some (.cells cur 5 (0,0))∧l.length<=cap∧cap<=maxLen∧cur.size=cap*1∧cur.toList.take (l.length*1)=Lib.byteCells l:=by
   rcases E.2 with⟨_,hz⟩|⟨g,cap,cur,hv,r⟩
   ·exact absurd hz hl0
   ·exact⟨g,cap,cur,hv,r⟩
  have c1:w.drew.cell? ⟨b,1,none⟩=some (.slice (some ⟨g,0,none⟩) l.length cap):=by have :w.drew.heap[b]?=some (.cells #[p,.slice (some ⟨g,0,none⟩) l.length cap,.string ⟨last.toArray⟩] 142 (0,0)):=G;rw[Lib.cell_of_heap this];rfl
  have J:(Builtin.unsafeSliceData_ #[115] 187 #[.slice (some ⟨g,0,none⟩) l.length cap]).run prog w.drew=.ok (.pointer<|some ⟨g,0,none⟩) w.drew:=
   Lib.run_unsafeSliceData_row _ _ _ _ _ _ (by omega)
  have hUS:(Builtin.unsafeString_ #[187,3] 9 #[.pointer<|some ⟨g,0,none⟩,.int .i64 l.length]).run prog w.drew=.ok (.string ⟨l.toArray⟩) (w.drew.freeze ⟨g,0,none⟩ l.length):=by refine Lib.run_unsafeString_row w.drew 187 3 9 5 underlying187 Kl g cur.size (by have U:w.drew.heap[g]?=some (.cells cur 5 (0,0)):=Z;simp[World.shape?,U]) l h0 (by omega) (by unfold maxLen at hcm;omega) ?_;intro j x hx;have :=E.cells (g:=g) rfl j (.int .u8 x.toNat) (by simp[Lib.byteCells,hx]);exact this
  clear G E Z htake hcs
  go_enter func93,ntmps93
  go_wp2
  go_region
  all_goals (go_wp2;go_ret;exact⟨rfl,(zt _ w).trans ((Kj _ g _).mono λk e=>.inr (by rw[e];rfl)) λ_ e=>.inl e⟩)
def Dc(L:YI)(a:Int):Prop:=0<=a∧a<=L.length∧L.length<=1000000000
variable{a:Int}
theorem NH{n:Int}(hn:0<n)(E:n<=1000000000):∃r,la a n r∧0<=r∧r<n:=by
 have h1:=Int.lt_tmod_of_pos a hn;have h2:=Int.tmod_lt_of_pos a hn;by_cases h:Int.tmod a n<0
 ·exact⟨_,sw 0 _ _ _ ⟨by omega,λ_=>⟨by omega,I⟩,λh'=>absurd h h'⟩,by omega,by omega⟩
 ·exact⟨_,sw 0 _ _ _ ⟨by omega,λh'=>absurd h' h,λ_=>I⟩,by omega,by omega⟩
variable{L:YI}
theorem fO{n:Int}(J:Dc L a)(hn:0<n)(E:n<=1000000000):∃r a',aM L a n r L a'∧(0<=r∧r<n)∧Dc L a':=by
 obtain⟨O,h1,h2⟩:=J;by_cases h:(L.length:Int)<=a
 ·exact⟨0,a,nE 0 _ _ _ _ _ _ ⟨λ_=>⟨I,I,I⟩,λh'=>absurd h h'⟩,by omega,O,h1,h2⟩
 ·obtain⟨x,hx,_⟩|h':=aQ L a.toNat
  ·obtain⟨r,hr,G⟩:=NH (a:=x) hn E;exact⟨r,a+1,nE 0 _ _ _ _ _ _ ⟨λh'=>absurd h' h,λ_=>⟨by omega,by omega,a.toNat,by omega,x,hx,r,hr,I,I,I⟩⟩,G,by omega,by omega,h2⟩
  ·omega
theorem kI(E:Dc L a)(l:List YB)(O:0<l.length)(G:l.length<=1000000000):∃s a',bf L a l s L a'∧s∈l∧Dc L a':=by
 obtain⟨r,a',h1,h2,J⟩:=fO E (n:=(l.length:Int)) (by omega) (by omega);obtain⟨x,hx,_⟩|h':=aQ l r.toNat
 ·exact⟨x,a',yE 0 _ _ _ _ _ _ ⟨_,_,_,h1,r.toNat,by omega,x,hx,I,I,I⟩,List.mem_of_getElem? hx,J⟩
 ·omega
def Gt(L:YI)(C:Tree->Int->Prop)(B:Nat):Prop:=∃t a',C t a'∧Dc L a'∧tbulk t<=B
theorem Gt.map{C C':Tree->Int->Prop}{B B':Nat}(h:Gt L C B)(hb:B<=B')(k:∀t a',C t a'->C' t a'):Gt L C' B':=by obtain⟨t,a',h1,h2,E⟩:=h;exact⟨t,a',k t a' h1,h2,by omega⟩
theorem jp{l:List YB}{s:YB}(h:s∈l)(E:l.all (λx=>decide<|x.length<=5)=true):s.length<=5:=by have :=List.all_eq_true.1 E s h;simpa using this
theorem tb0(k:Int)(s:YB):tbulk (.node k s [] [])=s.length+1:=by simp[tbulk,dr,kbulk]
theorem tb1(k:Int)(s:YB)(t:Tree):tbulk (.node k s [] [t])=s.length+tbulk t+1:=by simp[tbulk,dr,kbulk]
theorem tb2(k:Int)(s:YB)(t u:Tree):tbulk (.node k s [] [t,u])=s.length+tbulk t+tbulk u+1:=by simp[tbulk,dr,kbulk];omega
theorem tb3(k:Int)(s:YB)(t u v:Tree):tbulk (.node k s [] [t,u,v])=s.length+tbulk t+tbulk u+tbulk v+1:=by simp[tbulk,dr,kbulk];omega
theorem tbK(k:Int)(s:YB)(l:YT):tbulk (.node k s [] l)=s.length+kbulk l+1:=by simp[tbulk,dr]
theorem Jf:∀(d:Nat) {a:Int},Dc L a->d<=100->Gt L (λt a'=>cO L a d t L a') (6+d):=λd=>by
 induction d with
 | zero=>
  intro a hd _;obtain⟨r,a1,h1,h2,h3⟩:=fO hd (n:=7) (by omega) (by omega);have top:∀{t a'},gI 1 0 r L a1 false t L a'->r≠0->r≠1->cO L a 0 t L a':=λh n0 n1=>jS 1 _ _ _ _ _ _ ⟨_,_,_,h1,λe=>absurd e n0,λ_=>by rw[show(r==1)=false by simpa using n1];exact h⟩;by_cases e0:r=0∨r=1
  ·refine⟨_,a1,jS 1 _ _ _ _ _ _ ⟨_,_,_,h1,λe=>bn 0 _ _ _ _ _ _ _ _ ⟨λ_=>⟨rfl,rfl,rfl⟩,λh=>nomatch h⟩,λe=>bn 0 _ _ _ _ _ _ _ _ ⟨λ_=>⟨rfl,rfl,rfl⟩,λh=>?_⟩⟩,h3,by rw[tb0];simp only[aae];omega⟩;rcases e0 with e0|e0
   ·exact absurd e0 e
   ·rw[e0]at h;cases h
  ·by_cases e2:r=2
   ·exact⟨_,a1,top (bn 0 _ _ _ _ _ _ _ _ ⟨λh=>(nomatch h),λ_=>⟨λ_=>⟨rfl,rfl,rfl⟩,λh=>absurd e2 h⟩⟩) (by omega) (by omega),h3,by rw[tb0];simp only[aae];omega⟩
   ·by_cases e3:r=3
    ·exact⟨_,a1,top (bn 0 _ _ _ _ _ _ _ _ ⟨λh=>(nomatch h),λ_=>⟨λh=>absurd h e2,λ_=>⟨λ_=>⟨rfl,rfl,rfl⟩,λh=>absurd e3 h⟩⟩⟩) (by omega) (by omega),h3,by rw[tb0];simp only[aae];omega⟩
    ·by_cases e4:r=4
     ·obtain⟨s,a2,g1,g2,g3⟩:=kI h3 [[84],[85],[65,46,84],[66,46,85]] (by decide) (by decide);have :=jp g2 (by decide);exact⟨_,a2,top (bn 0 _ _ _ _ _ _ _ _ ⟨λh=>(nomatch h),λ_=>⟨λh=>absurd h e2,λ_=>⟨λh=>absurd h e3,λ_=>⟨λ_=>⟨_,_,_,g1,I,I,I⟩,λh=>absurd e4 h⟩⟩⟩⟩) (by omega) (by omega),g3,by rw[tb0];omega⟩
     ·exact⟨_,a1,top (bn 0 _ _ _ _ _ _ _ _ ⟨λh=>(nomatch h),λ_=>⟨λh=>absurd h e2,λ_=>⟨λh=>absurd h e3,λ_=>⟨λh=>absurd h e4,λ_=>⟨λ_=>⟨rfl,rfl,rfl⟩,λh=>by omega⟩⟩⟩⟩⟩) (by omega) (by omega),h3,by rw[tb0];simp only[aae];omega⟩
 | succ d ih=>
  intro a hd hd100;obtain⟨r,a1,h1,h2,h3⟩:=fO hd (n:=7) (by omega) (by omega);have top:∀{t a'},gI 1 ((d+1:Nat):Int) r L a1 false t L a'->r≠0->r≠1->cO L a ((d+1:Nat):Int) t L a':=λh n0 n1=>jS 1 _ _ _ _ _ _ ⟨_,_,_,h1,λe=>absurd e n0,λ_=>by rw[show(r==1)=false by simpa using n1];exact h⟩;by_cases e0:r=0∨r=1
  ·refine⟨_,a1,jS 1 _ _ _ _ _ _ ⟨_,_,_,h1,λe=>bn 0 _ _ _ _ _ _ _ _ ⟨λ_=>⟨rfl,rfl,rfl⟩,λh=>nomatch h⟩,λe=>bn 0 _ _ _ _ _ _ _ _ ⟨λ_=>⟨rfl,rfl,rfl⟩,λh=>?_⟩⟩,h3,by rw[tb0];simp only[aae];omega⟩;rcases e0 with e0|e0
   ·exact absurd e0 e
   ·rw[e0]at h;cases h
  ·by_cases e2:r=2
   ·exact⟨_,a1,top (bn 0 _ _ _ _ _ _ _ _ ⟨λh=>(nomatch h),λ_=>⟨λ_=>⟨rfl,rfl,rfl⟩,λh=>absurd e2 h⟩⟩) (by omega) (by omega),h3,by rw[tb0];simp only[aae];omega⟩
   ·by_cases e3:r=3
    ·exact⟨_,a1,top (bn 0 _ _ _ _ _ _ _ _ ⟨λh=>(nomatch h),λ_=>⟨λh=>absurd h e2,λ_=>⟨λ_=>⟨rfl,rfl,rfl⟩,λh=>absurd e3 h⟩⟩⟩) (by omega) (by omega),h3,by rw[tb0];simp only[aae];omega⟩
    ·by_cases e4:r=4
     ·obtain⟨s,a2,g1,g2,g3⟩:=kI h3 [[84],[85],[65,46,84],[66,46,85]] (by decide) (by decide);have :=jp g2 (by decide);exact⟨_,a2,top (bn 0 _ _ _ _ _ _ _ _ ⟨λh=>(nomatch h),λ_=>⟨λh=>absurd h e2,λ_=>⟨λh=>absurd h e3,λ_=>⟨λ_=>⟨_,_,_,g1,I,I,I⟩,λh=>absurd e4 h⟩⟩⟩⟩) (by omega) (by omega),g3,by rw[tb0];omega⟩
     ·obtain⟨t,a2,g1,g2,g3⟩:=ih h3 (by omega);have g1':cO L a1 (((d+1:Nat):Int)-1) t L a2:=by rw[show((d+1:Nat):Int)-1=(d:Int) by omega];exact g1
      exact⟨_,a2,top (bn 0 _ _ _ _ _ _ _ _ ⟨λh=>(nomatch h),λ_=>⟨λh=>absurd h e2,λ_=>⟨λh=>absurd h e3,λ_=>⟨λh=>absurd h e4,λ_=>⟨λh=>by omega,λ_=>⟨by omega,_,_,_,g1',rfl,rfl,rfl⟩⟩⟩⟩⟩⟩) (by omega) (by omega),g2,by rw[tb1];simp only[aae];omega⟩
def eB:Nat->Nat
 |0=>6
 |d+1=>3*eB d+20
section
variable{L:YI}{d a z:Int}{t:Tree}{a':Int}{m:Nat}
theorem up2(E:z≠0)(h1:z≠1)(h:jo m d L a z t L a'):cC (m+2) d L a z t L a':=
 rL0_semvcsmake_Expr (m+1) _ _ _ _ _ _ _ ⟨λe=>absurd e E,λ_=>me m _ _ _ _ _ _ _ _ ⟨λe=>absurd (eq_of_beq e) h1,λ_=>h⟩⟩
theorem up6(h2:z≠2)(E:z≠3)(G:z≠4)(J:z≠5)(h:ji m d L a z t L a'):jo (m+4) d L a z t L a':=
 rL2_semvcsmake_Expr (m+3) _ _ _ _ _ _ _ ⟨λe=>absurd e h2,λ_=>fg (m+2) _ _ _ _ _ _ _ ⟨λe=>absurd e E,λ_=>iC (m+1) _ _ _ _ _ _ _ ⟨λe=>absurd e G,λ_=>lR m _ _ _ _ _ _ _ ⟨λe=>absurd e J,λ_=>h⟩⟩⟩⟩
theorem up9(E:z≠6)(G:z≠7)(h:fV m d L a z t L a'):ji (m+2) d L a z t L a':=
 rL6_semvcsmake_Expr (m+1) _ _ _ _ _ _ _ ⟨λe=>absurd e E,λ_=>lO m _ _ _ _ _ _ _ _ ⟨λe=>absurd (eq_of_beq e) G,λ_=>h⟩⟩
theorem PO(E:z≠8)(h:iu m d L a z t L a'):fV (m+1) d L a z t L a':=re m _ _ _ _ _ _ _ ⟨λe=>absurd e E,λ_=>h⟩
theorem Se(E:z≠9)(h:fh m d L a z t L a'):iu (m+1) d L a z t L a':=qt m _ _ _ _ _ _ _ ⟨λe=>absurd e E,λ_=>h⟩
theorem Sr(E:z≠10)(G:z≠11)(h:iH m d L a z t L a'):fh (m+2) d L a z t L a':=
 rL14_semvcsmake_Expr (m+1) _ _ _ _ _ _ _ ⟨λe=>absurd e E,λ_=>lb m _ _ _ _ _ _ _ _ ⟨λe=>absurd (eq_of_beq e) G,λ_=>h⟩⟩
end
theorem AY{d z:Int}(M:Nat)(J:Dc L a)(h0:0<=z)(h5:z<=5):Gt L (λt a'=>cC (M+8) d L a z t L a') 6:=by
 by_cases O:z=0∨z=1
 ·obtain⟨s,E,g1,g2,G⟩:=kI J [[120],[121],[122]] (by decide) (by decide);have :=jp g2 (by decide);refine⟨_,E,rL0_semvcsmake_Expr (M+7) _ _ _ _ _ _ _ ⟨λe=>me (M+6) _ _ _ _ _ _ _ _ ⟨λ_=>⟨_,_,_,g1,I,I,I⟩,λh=>nomatch h⟩,λe=>me (M+6) _ _ _ _ _ _ _ _ ⟨λ_=>⟨_,_,_,g1,I,I,I⟩,λh=>?_⟩⟩,G,by rw[tb0];omega⟩;rcases O with O|O
  ·exact absurd O e
  ·rw[O]at h;exact absurd h (by decide)
 have U:z≠0:=by omega
 have Z:z≠1:=by omega
 by_cases e2:z=2
 ·obtain⟨s,E,g1,g2,G⟩:=kI J [[48],[49],[50],[49,48]] (by decide) (by decide);have :=jp g2 (by decide);exact⟨_,E,up2 U Z<|rL2_semvcsmake_Expr (M+5) _ _ _ _ _ _ _ ⟨λ_=>⟨_,_,_,g1,I,I,I⟩,λh=>absurd e2 h⟩,G,by rw[tb0];omega⟩
 by_cases e3:z=3
 ·obtain⟨s,E,g1,g2,G⟩:=kI J [[34,34],[34,97,34],[34,35,32,98,34]] (by decide) (by decide);have :=jp g2 (by decide);exact⟨_,E,up2 U Z<|rL2_semvcsmake_Expr (M+5) _ _ _ _ _ _ _ ⟨λh=>absurd h e2,λ_=>fg (M+4) _ _ _ _ _ _ _ ⟨λ_=>⟨_,_,_,g1,I,I,I⟩,λh=>absurd e3 h⟩⟩,G,by rw[tb0];omega⟩
 by_cases e4:z=4
 ·obtain⟨r,E,g1,g2,G⟩:=fO J (n:=2) (by omega) (by omega);exact⟨_,E,up2 U Z (rL2_semvcsmake_Expr (M+5) _ _ _ _ _ _ _ ⟨λh=>absurd h e2,λ_=>fg (M+4) _ _ _ _ _ _ _ ⟨λh=>absurd h e3,λ_=>iC (M+3) _ _ _ _ _ _ _ ⟨λ_=>⟨_,_,_,g1,by omega,rfl,rfl,rfl⟩,λh=>absurd e4 h⟩⟩⟩),G,by rw[tb0];simp only[aae];omega⟩
 have e5:z=5:=by omega
 obtain⟨r,E,g1,g2,G⟩:=fO J (n:=3) (by omega) (by omega);by_cases er:r=0
 ·exact⟨_,E,up2 U Z<|rL2_semvcsmake_Expr (M+5) _ _ _ _ _ _ _ ⟨λh=>absurd h e2,λ_=>fg (M+4) _ _ _ _ _ _ _ ⟨λh=>absurd h e3,λ_=>iC (M+3) _ _ _ _ _ _ _ ⟨λh=>absurd h e4,λ_=>lR (M+2) _ _ _ _ _ _ _ ⟨λ_=>⟨_,_,_,g1,λ_=>⟨rfl,rfl,rfl⟩,λh=>absurd er h⟩,λh=>absurd e5 h⟩⟩⟩⟩,G,by rw[tb0];simp only[aae];omega⟩
 ·exact⟨_,E,up2 U Z<|rL2_semvcsmake_Expr (M+5) _ _ _ _ _ _ _ ⟨λh=>absurd h e2,λ_=>fg (M+4) _ _ _ _ _ _ _ ⟨λh=>absurd h e3,λ_=>iC (M+3) _ _ _ _ _ _ _ ⟨λh=>absurd h e4,λ_=>lR (M+2) _ _ _ _ _ _ _ ⟨λ_=>⟨_,_,_,g1,λh=>absurd h er,λ_=>⟨rfl,rfl,rfl⟩⟩,λh=>absurd e5 h⟩⟩⟩⟩,G,by rw[tb0];simp⟩
theorem GE(O:Dc L a):Gt L (λt a'=>aR L a 0 t L a') 6:=by
 obtain⟨r,a1,h1,h2,E⟩:=fO O (n:=14) (by omega) (by omega);by_cases G:5<r
 ·by_cases J:5<r-6
  ·exact(AY 0 (d:=0) E (z:=0) (by omega)<|by omega).map (aaf _) λt a' h=>jc 8 _ _ _ _ _ _ ⟨_,_,_,h1,λ_=>⟨λ_=>⟨by omega,λ_=>h,λh'=>absurd J h'⟩,λh'=>absurd G h'⟩,λh'=>by omega⟩
  ·exact(AY 0 (d:=0) E (z:=r-6) (by omega)<|by omega).map (aaf _) λt a' h=>jc 8 _ _ _ _ _ _ ⟨_,_,_,h1,λ_=>⟨λ_=>⟨by omega,λh'=>absurd h' J,λ_=>h⟩,λh'=>absurd G h'⟩,λh'=>by omega⟩
 ·exact(AY 0 (d:=0) E (z:=r) (by omega)<|by omega).map (aaf _) λt a' h=>jc 8 _ _ _ _ _ _ ⟨_,_,_,h1,λ_=>⟨λh'=>absurd h' G,λ_=>h⟩,λh'=>by omega⟩
theorem Bg{k:Int}{B:Nat}(h:Gt L (λt a'=>aR L a k t L a') B):Gt L (λt a'=>eM L a k t L a') (B+1):=by
 obtain⟨t,E,g1,g2,J⟩:=h;cases G:sF t.kind with
 |true=>exact⟨t,E,rZ 0 _ _ _ _ _ _ ⟨_,_,_,g1,_,yC _,λh=>absurd (G.symm.trans h) (by decide),λ_=>⟨rfl,rfl,rfl⟩⟩,g2,by omega⟩
 |false=>exact⟨_,E,rZ 0 _ _ _ _ _ _ ⟨_,_,_,g1,_,yC _,λ_=>⟨rfl,rfl,rfl⟩,λh=>absurd (G.symm.trans h)<|by decide⟩,g2,by rw[tb1];simp only[aae];omega⟩
theorem Jt:∀d,6<=eB d
 |0=>aaf _
 |d+1=>by have :=Jt d;simp only[eB];omega
theorem Qu:∀(d:Nat) {a:Int},Dc L a->d<=5->Gt L (λt a'=>aR L a d t L a') (eB d):=λd=>by
 induction d with
 |zero=>intro a hd _;exact GE hd
 | succ d ih=>
  intro a hd hd5;obtain⟨z,a1,h1,h2,h3⟩:=fO hd (n:=14) (by omega) (by omega);have top:∀{M t a'},cC M ((d+1:Nat):Int) L a1 z t L a'->aR L a ((d+1:Nat):Int) t L a':=λ{M} {t} {a'} h=>jc M _ _ _ _ _ _ ⟨_,_,_,h1,λh'=>by omega,λ_=>h⟩;have sub:∀{a},Dc L a->Gt L (λt a'=>aR L a (((d+1:Nat):Int)-1) t L a') (eB d):=λ{a} h=>by rw[show((d+1:Nat):Int)-1=(d:Int) by omega];exact ih h (by omega)
  have hB:eB (d+1)=3*eB d+20:=rfl;have hp:=Jt d;by_cases c5:z<=5
  ·exact(AY 0 (d:=((d+1:Nat):Int)) h3 (by omega) c5).map (by omega) λt a' h=>top h
  have n0:z≠0:=by omega
  have n1:z≠1:=by omega
  have n2:z≠2:=by omega
  have n3:z≠3:=by omega
  have n4:z≠4:=by omega
  have n5:z≠5:=by omega
  by_cases c7:z<=7
  ·
   obtain⟨s,a2,g1,g2,g3⟩:=kI h3 [[102],[103],[104],[65,46,102],[66,46,103],[65,46,104]] (by decide) (by decide);have hs:=jp g2 (by decide);obtain⟨n,a3,g4,g5,g6⟩:=fO g3 (n:=4) (by omega) (by omega);have loop:∀(k:Nat) (a:Int) (l:YT),Dc L a->l.length+k<=100->Gt L (λt a'=>iw (k+1) ((d+1:Nat):Int) s L a l (k:Int) t L a') (s.length+1+kbulk l+k*(eB d+1)):=λk=>by
    induction k with
    |zero=>intro a l hd hl;exact⟨_,a,qh 0 _ _ _ _ _ _ _ _ _ ⟨λh=>by omega,λ_=>⟨rfl,rfl,rfl⟩⟩,hd,by rw[tbK];omega⟩
    |succ k ihk=>
     intro a l hd hl;obtain⟨t,b,q1,q2,q3⟩:=sub hd;refine(ihk b (l++[.node 17 [] [] [t]]) q2 (by simp;omega)).map ?_ λt' a' h=>qh (k+1) _ _ _ _ _ _ _ _ _ ⟨λ_=>⟨by omega,_,_,_,q1,by simp;omega,by omega,by rw[show((k+1:Nat):Int)-1=(k:Int) by omega];exact h⟩,λh=>by omega⟩;rw[fT,Nat.succ_mul];simp only[kbulk,tb1,aae];omega
   refine(loop n.toNat a3 [] g6 (by simp;omega)).map (by
    have :n.toNat*(eB d+1)<=3*(eB d+1):=Nat.mul_le_mul_right _ (by omega);simp only[kbulk];omega) λt a' h=>?_
   have h8:mZ (n.toNat+2) ((d+1:Nat):Int) L a1 t L a':=yc (n.toNat+1) _ _ _ _ _ _ ⟨_,_,_,g1,_,_,_,g4,by rw[show n=((n.toNat:Nat):Int) by omega];exact h⟩;refine top<|up2 n0 n1<|up6 n2 n3 n4 n5<|rL6_semvcsmake_Expr (n.toNat+3) _ _ _ _ _ _ _ ⟨λ_=>lO (n.toNat+2) _ _ _ _ _ _ _ _ ⟨λ_=>h8,λh=>nomatch h⟩,λh=>lO (n.toNat+2) _ _ _ _ _ _ _ _ ⟨λ_=>h8,λh'=>?_⟩⟩;have :z≠7:=by simpa using h'
   omega
  have n6:z≠6:=by omega
  have n7:z≠7:=by omega
  have t9:∀{M t a'},fV M ((d+1:Nat):Int) L a1 z t L a'->aR L a ((d+1:Nat):Int) t L a':=λh=>top<|up2 n0 n1<|up6 n2 n3 n4 n5<|up9 n6 n7 h;by_cases c8:z=8
  ·
   obtain⟨n,a3,g4,g5,g6⟩:=fO h3 (n:=3) (by omega) (by omega);have loop:∀(k:Nat) (a:Int) (l:YT),Dc L a->l.length+k<=100->Gt L (λt a'=>iy (k+1) ((d+1:Nat):Int) L a l (k:Int) t L a') (1+kbulk l+k*(eB d)):=λk=>by
    induction k with
    |zero=>intro a l hd hl;exact⟨_,a,pX 0 _ _ _ _ _ _ _ _ ⟨λh=>by omega,λ_=>⟨rfl,rfl,rfl⟩⟩,hd,by rw[tbK];simp only[aae];omega⟩
    |succ k ihk=>
     intro a l hd hl;obtain⟨t,b,q1,q2,q3⟩:=sub hd;refine(ihk b (l++[t]) q2 (by simp;omega)).map ?_ λt' a' h=>pX (k+1) _ _ _ _ _ _ _ _ ⟨λ_=>⟨by omega,_,_,_,q1,by simp;omega,by omega,by rw[show((k+1:Nat):Int)-1=(k:Int) by omega];exact h⟩,λh=>by omega⟩;rw[fT,Nat.succ_mul];simp only[kbulk];omega
   exact(loop (1+n).toNat a3 [] g6 (by simp;omega)).map (by
    have :(1+n).toNat*eB d<=3*eB d:=Nat.mul_le_mul_right _ (by omega);simp only[kbulk];omega) λt a' h=>t9 (re ((1+n).toNat+1) _ _ _ _ _ _ _ ⟨λ_=>⟨_,_,_,g4,by omega,by rw[show(((1+n).toNat:Nat):Int)=1+n by omega]at h;exact h⟩,λh'=>absurd c8 h'⟩)
  by_cases c9:z=9
  ·obtain⟨t1,b1,q1,r1,s1⟩:=sub h3;obtain⟨t2,b2,q2,r2,s2⟩:=sub r1;obtain⟨t3,b3,q3,r3,s3⟩:=sub r2;exact⟨_,b3,t9 (PO c8<|qt 1 _ _ _ _ _ _ _ ⟨λ_=>xQ 0 _ _ _ _ _ _ ⟨by omega,_,_,_,q1,by omega,_,_,_,q2,by omega,_,_,_,q3,rfl,rfl,rfl⟩,λh=>absurd c9 h⟩),r3,by rw[tb3];simp only[aae];omega⟩
  have t14:∀{M t a'},fh M ((d+1:Nat):Int) L a1 z t L a'->aR L a ((d+1:Nat):Int) t L a':=λh=>t9<|PO c8<|Se c9 h;by_cases c11:z<=11
  ·obtain⟨s,b0,g1,g2,g3⟩:=kI h3 [[120],[121],[122]] (by decide) (by decide);have hs:=jp g2 (by decide);obtain⟨t1,b1,q1,r1,s1⟩:=sub g3;obtain⟨t2,b2,q2,r2,s2⟩:=sub r1;refine⟨.node 20 s [] [t1,t2],b2,?_,r2,by rw[tb2];omega⟩;have h16:mb 1 ((d+1:Nat):Int) L a1 (.node 20 s [] [t1,t2]) L b2:=wQ 0 _ _ _ _ _ _ ⟨_,_,_,g1,by omega,_,_,_,q1,by omega,_,_,_,q2,rfl,rfl,rfl⟩;refine t14<|rL14_semvcsmake_Expr 2 _ _ _ _ _ _ _ ⟨λ_=>lb 1 _ _ _ _ _ _ _ _ ⟨λ_=>h16,λh=>nomatch h⟩,λh=>lb 1 _ _ _ _ _ _ _ _ ⟨λ_=>h16,λh'=>?_⟩⟩;have :z≠11:=by simpa using h'
   omega
  have t17:∀{M t a'},iH M ((d+1:Nat):Int) L a1 z t L a'->aR L a ((d+1:Nat):Int) t L a':=λh=>t14 (Sr (by omega) (by omega) h);by_cases c12:z=12
  ·obtain⟨s,b0,g1,g2,g3⟩:=kI h3 [[43],[45],[42],[60],[61,61]] (by decide) (by decide);have hs:=jp g2 (by decide);obtain⟨t1,b1,q1,r1,s1⟩:=Bg<|sub g3;obtain⟨n,b2,q2,q3,q4⟩:=fO r1 (n:=3) (by omega) (by omega);by_cases hn:n=0
   ·obtain⟨s',b3,g4,g5,g6⟩:=kI q4 [[43],[42]] (by decide) (by decide);have hs':=jp g5 (by decide);obtain⟨t2,b4,q5,r5,s5⟩:=Bg<|GE g6;obtain⟨t3,b5,q6,r6,s6⟩:=Bg<|sub r5;exact⟨_,b5,t17 (ln 1 _ _ _ _ _ _ _ ⟨λ_=>pI 0 _ _ _ _ _ _ ⟨_,_,_,g1,by omega,_,_,_,q1,_,_,_,q2,λ_=>⟨_,_,_,g4,_,_,_,q5,by omega,_,_,_,q6,I,I,I⟩,λh=>absurd hn h⟩,λh=>absurd c12 h⟩),r6,by rw[tb2,tb2];omega⟩
   ·obtain⟨t3,b5,q6,r6,s6⟩:=Bg<|sub q4;exact⟨_,b5,t17 (ln 1 _ _ _ _ _ _ _ ⟨λ_=>pI 0 _ _ _ _ _ _ ⟨_,_,_,g1,by omega,_,_,_,q1,_,_,_,q2,λh=>absurd h hn,λ_=>⟨by omega,_,_,_,q6,I,I,I⟩⟩,λh=>absurd c12 h⟩),r6,by rw[tb2];omega⟩
  ·obtain⟨t1,b1,q1,r1,s1⟩:=sub h3;exact⟨_,b1,t17 (ln 1 _ _ _ _ _ _ _ ⟨λh=>absurd h c12,λ_=>⟨by omega,_,_,_,q1,rfl,rfl,rfl⟩⟩),r1,by rw[tb1];simp only[aae];omega⟩
open Go.RowKit Lx
def lg:Bool->YB->Bool
 |c,[]=>c
 |c,x::r=>lg (if x.toNat=10 then false else if x.toNat=35 then true else c) r
theorem pP:∀(b:Bool) (l:YB) (n m:Nat),aO b l (n+m)=((aO b l n).1+m,(aO b l n).2.map (·+m))
 |b,[],n,m=>by cases b<;>simp[aO]
 | false,c::r,n,m=>by
  have h1:=pP false r (n+1) m;have h2:=pP true r (n+1) m;unfold aO;split
  ·rw[<-h1];congr 1;omega
  ·split
   ·rw[<-h2];congr 1;omega
   ·simp
 | true,c::r,n,m=>by
  have h1:=pP false r (n+1) m;have h2:=pP true r (n+1) m;unfold aO;split
  ·rw[<-h1];congr 1;omega
  ·split
   ·simp
   ·rw[<-h2];congr 1;omega
def lI(c:Bool)(l:YB):Bool:=(aO c l 0).2.isNone&&(aO c l 0).1==l.length
theorem rJ{c d:Bool}{x:UInt8}{r:YB}(h:aO c (x::r) 0=aO d r 1):lI c (x::r)=lI d r:=by unfold lI;rw[h,show(1:Nat)=0+1 from rfl,pP];simp
theorem Bx:∀(l:YB) (c fin:Bool),di c l fin=(lI c l&&(!lg c l||fin))
 |[],c,fin=>by cases c<;>cases fin<;>rfl
 | x ::r,c,fin=>by
  have ih:=Bx r;unfold di lg;cases c with
  | true=>
   by_cases ha:aS x=false
   ·have h10:¬x.toNat=10:=λh=>by simp[aS,bL,h]at ha
    have :lI true (x::r)=false:=by simp[lI,aO,h10,ha]
    rw[if_pos ha,this];rfl
   ·have ha':aS x=true:=by simpa using ha
    rw[if_neg ha,if_pos rfl,ih];by_cases h10:x.toNat=10
    ·rw[rJ (d:=false)<|by simp[aO,h10]];simp[h10]
    ·have hb:(x.toNat==10)=false:=by simpa using h10
     rw[rJ (d:=true) (by simp[aO,h10,ha']),hb];simp[h10]
  | false=>
   by_cases ha:aS x=false
   ·have hw:bL x=false:=by cases h:bL x<;>simp_all[aS]
    have h35:¬x.toNat=35:=λh=>by simp[aS,dW,h]at ha
    have :lI false (x::r)=false:=by simp[lI,aO,hw,h35]
    rw[if_pos ha,this];rfl
   ·rw[if_neg ha,if_neg<|by simp];by_cases h35:x.toNat=35
    ·have hw:bL x=false:=by simp[bL,h35]
     rw[if_pos h35,ih,rJ (d:=true)<|by simp[aO,h35,hw]];simp[h35]
    ·rw[if_neg h35];by_cases hw:bL x=false
     ·have :lI false (x::r)=false:=by simp[lI,aO,hw,h35]
      rw[if_pos hw,this];rfl
     ·have hw':bL x=true:=by simpa using hw
      rw[if_neg hw,ih,rJ (d:=false)<|by simp[aO,hw']];by_cases h10:x.toNat=10<;>simp[h10,h35]
theorem EA{x:UInt8}{c fin:Bool}(h:k<l.length)(E:l[k]=x):di c (l.drop k) fin=
  if aS x=false then false else if c=true then di (!(x.toNat==10)) (l.drop<|k+1) fin else if x.toNat=35 then di true (l.drop<|k+1) fin else if bL x=false then false else di c (l.drop<|k+1) fin:=by
 rw[aam h,E];rfl
theorem Gg{c fin:Bool}(h:l.length<=k):di c (l.drop k) fin=(!c||fin):=by rw[List.drop_of_length_le h];rfl
theorem Dn{x:UInt8}{c:Bool}(h:k<l.length)(E:l[k]=x):lg c (l.drop k)=lg (if x.toNat=10 then false else if x.toNat=35 then true else c) (l.drop<|k+1):=by rw[aam h,E];rfl
theorem DO{c:Bool}(h:l.length<=k):lg c (l.drop k)=c:=by rw[List.drop_of_length_le h];rfl
theorem RE(x:UInt8):((x.toNat:Int)!=10)=!(x.toNat==10):=by rw[Bool.eq_iff_iff];simp;omega
set_option maxHeartbeats 1000000 in
theorem OH (l:List UInt8) (fin:Bool) (w:World) (hl:l.length<=281474976710656):Calls prog 161 #[.string ⟨l.toArray⟩,.bool fin] w λe w'=>e=.returned (.bool<|di false l fin)∧w=w':=by
  obtain⟨n,b,hLd⟩:∃n b,aO false l 0=(n,b):=⟨_,_,rfl⟩;have hnl:n<=l.length:=by have h:=rz false l 0;rw[hLd]at h;simpa using h
  have HLd:=Lib.hid hLd;have HW:=Lib.hid (show lI false l=(b.isNone&&n==l.length)from by rw[lI,hLd]);have HT:=Lib.hid<|Bx l false fin;clear hLd
  go_enter func161,ntmps161
  go_wp2_with fail
  refine(NC l 0 0 I _ (aar _) hl).mono ?_;rintro e w' ⟨rfl,rfl⟩;rw[List.drop_zero,HLd.out];cases b with
  | some q=>
    have hq2:Ac 0 (some q)=((0+q:Nat):Int):=rfl;rw[hq2,Nat.zero_add];have hq:(0:Int)<=(q:Int):=by omega
    have HF:=Lib.hid (show di false l fin=false from by rw[HT.out,HW.out];rfl)
    go_wp2
    go_ret
    exact⟨aW HF.out.symm,rfl⟩
  | none=>
    have hq2:Ac 0 none=-1:=rfl;rw[hq2];clear hq2;by_cases hn:n<l.length
    · have HF := Lib.hid (show di      false l fin = false from by rw[HT.out,HW.out];have :(n==l.length)=false:=by simp;omega
                                                                   rw[this];rfl)
      go_wp2
      go_ret
      exact⟨aW HF.out.symm,rfl⟩
    · have hnb:decide (n<l.length)=false:=by simpa using hn
      have HF:=Lib.hid (show di false l fin=(!lg false l||fin)from by
        rw[HT.out,HW.out];have :(n==l.length)=true:=by simp;omega
        rw[this];rfl)
      cases fin with
      | true=>
        go_wp2
        go_ret
        exact⟨aW (by rw[HF.out];simp),rfl⟩
      | false=>
        obtain⟨r,hr⟩:∃r,lg false l=r:=⟨_,rfl⟩;have HR:=Lib.hid hr;clear hr
        go_wp2
        go_loopg [7,8] l.length (λg s7 s8 wx=>∃(i:Nat) (c:Bool),g=l.length-i∧wx=w∧i<=l.length∧s7=.bool c∧s8=.int .i64 i∧Hid (lg c (l.drop i)=r))
        case atStart=>exact⟨0,false,rfl,rfl,aar _,rfl,rfl,Lib.hid<|by simpa using HR.out⟩
        case round=>
          obtain⟨i,c,rfl,rfl,hil,rfl,rfl,HC⟩:=hrel;by_cases hit:i<l.length
          rotate_left
          · have HF2:=Lib.hid (show c=r from by rw[<-HC.out,DO<|by omega])
            go_wp2_with fail
            go_ret
            exact⟨aW (by rw[HF.out,HR.out,HF2.out];simp),rfl⟩
          obtain⟨x,hx⟩:∃c,({data:=l.toArray}:ByteArray)[i]'hit=c:=⟨_,rfl⟩;have HXi:=Lib.hid<|show l[i]=x from hx;have HS:=Lib.hid<|HC.out.symm.trans<|Dn hit HXi.out;clear HC;cases h35:((x.toNat:Int)==35)<;>cases h10:((x.toNat:Int)==10)
          · go_wp2
            go_roundg (l.length-(i+1))
            case measure=>omega
            case rel=>exact⟨i+1,c,rfl,rfl,by omega,rfl,by go_num,Lib.hid<|by rw[HS.out,if_neg<|bK (m:=10) h10,if_neg<|bK (m:=35) h35]⟩
          · go_wp2
            go_roundg (l.length-(i+1))
            case measure=>omega
            case rel=>exact⟨i+1,false,rfl,rfl,by omega,rfl,by go_num,Lib.hid<|by rw[HS.out,if_pos<|cQ (m:=10) h10]⟩
          · go_wp2
            go_roundg (l.length-(i+1))
            case measure=>omega
            case rel=>exact⟨i+1,true,rfl,rfl,by omega,rfl,by go_num,Lib.hid<|by rw[HS.out,if_neg<|bK (m:=10) h10,if_pos<|cQ (m:=35) h35]⟩
          · have h1:=cQ (m:=10) h10;have h2:=cQ (m:=35) h35;omega
theorem DH(a b:YB):(ByteArray.mk a.toArray)++(ByteArray.mk b.toArray)=⟨(a++b).toArray⟩:=by apply ByteArray.ext;simp
theorem uq{a b:YB}(h:bv a=0∨bv b=0):fusesT a b=false:=by simp[fusesT,h]
theorem kh{a b:YB}(h:¬(bv a=0∨bv b=0))(h2:¬((fz<|a++b).err=0∧(fz<|a++b).toks.length=2∧(fz<|a++b).tail=[])):fusesT a b=true:=by unfold fusesT;rw[if_neg h];simp only;rw[if_neg h2]
theorem Bj{a b:YB}{t0 t1:TokZ}(h:¬(bv a=0∨bv b=0))(h1:(fz<|a++b).err=0)(h2:(fz<|a++b).toks=[t0,t1])(E:(fz<|a++b).tail=[]):
  fusesT a b=!(t0.lead==[]&&t0.text==a&&t1.lead==[]&&t1.text==b):=by
 unfold fusesT;rw[if_neg h];simp only;rw[h1,h2,E];simp
theorem ID{b:Bool}(h:(l==[])=b):l.isEmpty=b:=by rw[<-h];cases l<;>rfl
theorem wY{l:List TokZ}(h:l.length=2):∃t0 t1,l=[t0,t1]:=by
 match l,h with
 |[a,b],_=>exact⟨a,b,rfl⟩
set_option maxHeartbeats 2000000 in
theorem Pj(a b:YB)(w:World)(ha:a.length<=140737488355328)(hb:b.length<=140737488355328):Calls prog 113 #[.string ⟨a.toArray⟩,.string ⟨b.toArray⟩] w λe w'=>e=.returned (.bool<|fusesT a b)∧Ext w w':=by
 have hx:=DH;obtain⟨ka,G⟩:∃k,bv a=k:=⟨_,rfl⟩;obtain⟨kb,J⟩:∃k,bv b=k:=⟨_,rfl⟩;have HKa:=Lib.hid G;have HKb:=Lib.hid J;clear G J
 go_enter func113,ntmps113
 go_wp2_with fail
 refine(EM _ _<|by omega).mono ?_;rintro e1 w1 ⟨rfl,O⟩;rw[HKa.out];have HX1:=Lib.hid O;clear O;by_cases h1:ka=0
 ·subst h1
  go_wp2_with fail
  go_ret
  exact⟨aW (uq<|.inl HKa.out).symm,HX1.out⟩
 have h1b:((ka:Int)==0)=false:=by simp;omega
 go_wp2_with fail
 refine(EM _ _<|by omega).mono ?_;rintro e2 w2 ⟨rfl,U⟩;rw[HKb.out];have HX2:=Lib.hid<|HX1.out.trans U;clear U;by_cases h2:kb=0
 ·subst h2
  go_wp2_with fail
  go_ret
  exact⟨aW (uq<|.inr HKb.out).symm,HX2.out⟩
 have h2b:((kb:Int)==0)=false:=by simp;omega
 have HN:=Lib.hid (show¬(bv a=0∨bv b=0)from by rw[HKa.out,HKb.out];omega);obtain⟨Rs,Z⟩:∃Rs,fz (a++b)=Rs:=⟨_,rfl⟩;have HRs:=Lib.hid Z;clear Z
 go_wp2_with fail
 refine(Ru _ _ (by simp;omega)).mono ?_;rintro e3 w3 ⟨v,rfl,htr,hx3⟩;rw[HRs.out]at htr⊢;obtain⟨A,c,rfl,hc1,hc2,E⟩:=htr;unfold maxLen at hc2;have HX3:=Lib.hid<|HX2.out.trans hx3;clear hx3;have HRow:=Lib.hid E;clear E;obtain⟨toks,tail,place,er⟩:=Rs;simp only at HRow hc1 hc2⊢;by_cases h3:er=0
 rotate_left
 ·have h3b:((er:Int)!=0)=true:=by simp;omega
  have HF:=Lib.hid (kh HN.out λh=>h3 (by rw[HRs.out]at h;exact h.1))
  go_wp2_with fail
  go_ret
  exact⟨aW HF.out.symm,HX3.out⟩
 subst h3;by_cases h4:toks.length=2
 rotate_left
 ·have h4b:((toks.length:Int)!=2)=true:=by simp;omega
  have HF:=Lib.hid (kh HN.out λh=>h4 (by rw[HRs.out]at h;exact h.2.1))
  go_wp2_with fail
  go_ret
  exact⟨aW HF.out.symm,HX3.out⟩
 by_cases h5:tail=[]
 rotate_left
 ·have h5b:(tail==[])=false:=by simpa using h5
  have h5c:tail.isEmpty=false:=by simpa using h5
  obtain⟨t0,t1,rfl⟩:=wY h4;have HF:=Lib.hid (kh HN.out λh=>h5 (by rw[HRs.out]at h;exact h.2.2));clear h5 h4
  go_wp2_with fail
  go_ret
  exact⟨aW HF.out.symm,HX3.out⟩
 subst h5;obtain⟨t0,t1,rfl⟩:=wY h4;clear h4;obtain⟨b0,off,rfl,hb0,p0,p1,p2⟩:=uC HRow.out (k:=0) (by simp);obtain⟨b0',off',heq,_,q0,q1,q2⟩:=uC HRow.out (k:=1) (by simp);obtain⟨rfl,rfl⟩:b0=b0'∧off=off':=by simpa using heq
 clear heq;have HF:=Lib.hid (Bj HN.out (by rw[HRs.out]) (by rw[HRs.out])<|by rw[HRs.out]);simp only[Nat.zero_mul,Nat.one_mul,Nat.add_zero,List.getElem_cons_zero,List.getElem_cons_succ]at p0 p1 p2 q0 q1 q2;cases g1:(t0.text==a)
 ·skip
  go_wp2_with fail
  go_ret
  exact⟨aW (by rw[HF.out,g1];simp),HX3.out⟩
 cases g0:(t0.lead==[])
 ·skip
  have g0':t0.lead.isEmpty=false:=by simpa using g0
  go_wp2_with fail
  go_ret
  exact⟨aW (by rw[HF.out,g1,g0];simp),HX3.out⟩
 have g0':t0.lead.isEmpty=true:=by simpa using g0
 cases g3:(t1.text==b)
 ·skip
  go_wp2_with fail
  go_ret
  exact⟨aW (by rw[HF.out,g1,g0,g3];simp),HX3.out⟩
 cases g2:(t1.lead==[])
 all_goals
  have g2':=ID g2
  go_wp2_with fail
  go_ret
  exact⟨aW (by rw[HF.out,g1,g0,g3,g2];simp),HX3.out⟩
end Go.Proofs.YtehhanlhfdoiaaaGreat
