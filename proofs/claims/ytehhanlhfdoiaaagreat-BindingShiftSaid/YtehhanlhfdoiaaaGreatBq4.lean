/- Contracts of the functions that the law reaches, part 4. -/
import Derived.Test.YtehhanlhfdoiaaaGreatBq3
set_option linter.unusedVariables false
set_option linter.unusedSimpArgs false
namespace Go.Proofs.YtehhanlhfdoiaaaGreat
open _root_.Go.Proofs.Tryz
open Go.RowKit Lx Sx
set_option maxRecDepth 100000
set_option maxHeartbeats 4000000
structure yr where
 Module:Int
 Path:(List Int)
structure aC where
 Use:yr
 Module:Int
 Def:Int
 Free:Bool
abbrev aC.c(x:aC):List V:=[.int .i64 x.Use.Module,.row 1 (List.map (V.int .i64) x.Use.Path),.int .i64 x.Module,.int .i64 x.Def,.bool x.Free]
abbrev aC.w(x:aC):V:=.agg x.c
def ii(E:YB)(G J:Int):Prop:=qS 176 [.str E,.int .u8 G]<|qi J
def rq(E:YT)(G:Bool):Prop:=qS 97 [.row 4<|kidsV E]<|.bool G
def su(E:YT)(G:Int)(J:YB)(O U:Int)(Z:Bool):Prop:=qS 150 [.row 4<|kidsV E,qi G,.str J]<|.tup [qi O,qi U,.bool Z]
def rv(E:YT)(G:List aC):Prop:=qS 56 [.row 4<|kidsV E]<|.row 5<|List.map aC.w G
def qv(E:YT)(G:YB)(J:Int):Prop:=qS 181 [.row 4<|kidsV E,.str G]<|qi J
def rp(E:Tree)(G:YB)(J:Bool):Prop:=qS 201 [.agg<|am E,.box [.str G] 0]<|.bool J
def fJ(g:YT)(a:Int)(e:YI)(c:List aC)(E:Tree)(i:YT)(b:Int)(f:YI)(d:List aC):Prop:=co [] prog 98 [.ptr 0 0,.agg<|am E] ⟨3,[(2,.row 111 5<|List.map aC.w c),(1,.row 3 1<|List.map (V.int .i64) e),(0,.var 150 [.row 4<|kidsV g,qi a,.sl 1,.sl 2])]⟩<|z4 (.tup []) ⟨3,[(2,.row 111 5<|List.map aC.w d),(1,.row 3 1<|List.map (V.int .i64) f),(0,.var 150 [.row 4<|kidsV i,qi b,.sl 1,.sl 2])]⟩
def mB(E:YT)(a:YB)(G:Int):Prop:=qS 200 [.row 4<|kidsV E,.clo 201 [.box [.str a] 0]]<|qi G
def nR(E G J:YB)(O:Bool):Prop:=qS 180 [.str E,.str [46]]<|.tup [.str G,.str J,.bool O]
def iY(E G J:YB)(O:Bool):Prop:=qS 199 [.str E,.str [46]]<|.tup [.str G,.str J,.bool O]
def cM(E:YB)(G:Int):Prop:=qS 182 [.str E,.str [46]]<|qi G
def fI(E:YB)(G:Bool):Prop:=qS 101 [.str E,.str [46]]<|.bool G
def rb(E:YB)(G:Int):Prop:=qS 151 [.str E,.str [46]]<|qi G
def nP(E:YB)(G:Int):Prop:=qS 154 [.str E]<|qi G
def fW(E:YT)(G:Int)(J:YB)(O U:Int)(Z:Bool):Prop:=qS 103 [.row 4<|kidsV E,qi G,.str J]<|.tup [qi O,qi U,.bool Z]
def ml(m:Nat)(E:YT)(a:Nat)(G:Bool):Prop:=z5 m [] f97 (z3<|.bool G) (xI<|cB<|ac f97) [.blk 0,.seq<|xA<|ac f97] 20 [(5,.row 4<|kidsV E),(6,qi (E.length:Int)),(7,qi (a:Int))] ⟨0,[]⟩
theorem Bk(m:Nat)(p0:YT)(r0:Bool)(h:ml m p0 0 r0):rq p0 r0:=by
 refine⟨I,I,?_⟩;refine qA 20 [] func97 λK hK=>?_;exact gR 10 I<|gV 6 (qi (p0.length:Int)) I (aK<|aG _) I<|gLB 5 I (aG _) λa=>gR 4 I<|go_loop m<|qW hK h []
theorem tw(m:Nat)(G:YT)(a:Nat)(E:Bool)(h:z8 (a<G.length) (∃b,G[a]?=some b∧y6 b.kind 1 (false=E) (∃c,gr b c∧y4 c (false=E) (a+1<=9223372036854775807∧ml m G (a+1) E)))<|true=E):ml (m+1) G a E:=by
 refine qj λK U O f=>?_;refine gR 6 rfl<|qXh 8 rfl rfl rfl h bx bw ?_ ?_<;>intro J h;refine gR 7 I ?_;obtain⟨b,d,h⟩:=h;refine gY (ar (au d) ab rfl rfl rfl rfl) rfl rfl<|gR 11 rfl<|qXhZ 14 13 rfl rfl rfl rfl h iS eY ?_ ?_<;>intro J h;refine gR 15 I<|go_xloopR<|gR 2 I ?_;subst h;exact qN [.tmp 2];refine gR 1 I ?_;obtain⟨c,e,h⟩:=h;refine qC0 e rfl<|gR 4 rfl<|qXh 18 rfl rfl rfl h bI bJ ?_ ?_<;>intro J h;refine gR 9 I<|go_xloopR<|gR 2 I ?_;subst h;exact qN [.tmp 2];refine gR 5 I ?_;obtain⟨hb,h⟩:=h;exact gR 1 I<|gV 19 (qi ((a+1:Nat):Int)) I (al (by omega)<|by omega) I<|gR 2 I<|go_xloop<|qW O h [];refine gR 3 I<|go_xloopE<|gR 8 I ?_;subst h;exact qN [.tmp 2]
def nl(m:Nat)(E:YT)(a:Int)(b:YB)(G J:Int)(O:Bool):Prop:=z6 [] f150 (z3<|.tup [qi G,qi J,.bool O]) (xH<|ac f150) [] 45 [(0,.row 4<|kidsV E),(1,qi a),(2,.str b)] ⟨0,[]⟩
theorem Ck(m:Nat)(E:YT)(G:Int)(p2:YB)(O U:Int)(Z:Bool)(h:((G<0)->0=O∧0=U∧false=Z)∧((¬G<0)->(((E.length:Int)<=G)->0=O∧0=U∧false=Z)∧((¬(E.length:Int)<=G)->∃b c a,nR p2 b c a∧((a=true)->∃d,qv E b d∧nl m E d c O U Z)∧((a=false)->nl m E G p2 O U Z)))):su E G p2 O U Z:=by
 refine⟨I,I,?_⟩;refine qA 45 [] func150 λK hK=>?_;refine gR 13 rfl<|qBdZ 15 14 rfl rfl rfl rfl h ?_ ?_<;>intro h;refine gR 17 I ?_;obtain⟨rfl,rfl,rfl⟩:=h;exact qN [.tmp 6,.tmp 7,.tmp 8];refine gR 3 rfl<|gV 18 (qi (E.length:Int)) rfl (aK<|aG _) rfl<|gLB 17 rfl (aG _) λg=>gR 4 rfl<|qBd 20 rfl rfl rfl h ?_ ?_<;>intro h;refine gR 10 I ?_;obtain⟨rfl,rfl,rfl⟩:=h;exact qN [.tmp 6,.tmp 7,.tmp 8];refine gR 7 I ?_;obtain⟨b,c,a,e,h⟩:=h;refine qC0 e rfl<|gR 14 rfl<|gB 27 rfl rfl rfl ?_ ?_<;>intro J;refine gT 11 I J I ?_;refine gT 26 I J I ?_;replace h:=h.1 J;refine gR 4 I ?_;obtain⟨d,f,h⟩:=h;exact qC0 f I<|gR 5 I<|qJ hK (h K hK) [];refine gF 11 I J I ?_;refine gF 26 I J I ?_;replace h:=h.2 J;exact gR 3 I<|qJ hK (h K hK) []
theorem Bs(m:Nat)(O:YT)(a:Int)(f:YB)(E G:Int)(J:Bool)(h:z8 (a<0) (0=E∧0=G∧false=J) (∃c,a=((c:Nat):Int)∧∃d,O[c]?=some d∧∃b,qv d.kids f b∧z8 (b<0) (0=E∧0=G∧false=J) (a=E∧b=G∧true=J))):nl (m+1) O a f E G J:=by
 intro K U;refine gR 7 rfl<|qBd 33 rfl rfl rfl h ?_ ?_<;>intro h;refine gR 10 I ?_;obtain⟨rfl,rfl,rfl⟩:=h;exact qN [.tmp 6,.tmp 7,.tmp 8];refine gR 7 I ?_;obtain⟨c,g,h⟩:=h;refine gV 35 (qi ((c:Nat):Int)) I (aI g) I ?_;obtain⟨d,e,h⟩:=h;refine gY (ar (au e) ab I I I I) I I<|gR 3 I ?_;obtain⟨b,i,h⟩:=h;refine qC0 i rfl<|gR 10 rfl<|qBd 42 rfl rfl rfl h ?_ ?_<;>intro h;refine gR 10 I ?_;obtain⟨rfl,rfl,rfl⟩:=h;exact qN [.tmp 6,.tmp 7,.tmp 8];refine gR 13 I ?_;obtain⟨rfl,rfl,rfl⟩:=h;exact qN [.tmp 6,.tmp 7,.tmp 8]
def mu(m:Nat)(E a:YT)(b:Int)(c:YI)(d:List aC)(e:Nat)(G:List aC):Prop:=z5 m [] f56 (z3<|.row 5<|List.map aC.w G) (xI<|xH<|ac f56) [.blk 0,.seq<|xF<|ac f56] 25 [(3,.ptr 0 0),(11,.row 4<|kidsV E),(12,qi (E.length:Int)),(13,qi (e:Int))] ⟨3,[(2,.row 111 5<|List.map aC.w d),(1,.row 3 1<|List.map (V.int .i64) c),(0,.var 150 [.row 4<|kidsV a,qi b,.sl 1,.sl 2])]⟩
theorem Bt(m:Nat)(p0:YT)(r0:List aC)(h:∃a,rq p0 a∧((a=false)->[]=r0)∧((a=true)->mu m p0 p0 0 ([]:YI) ([]:List aC) 0 r0)):rv p0 r0:=by
 refine⟨I,I,?_⟩;refine qA 25 [] func56 λK hK=>?_;refine gR 9 I ?_;obtain⟨a,b,h⟩:=h;refine qC0 b rfl<|gR 3 rfl<|qXh 8 rfl rfl rfl h bI bJ ?_ ?_<;>intro hd h;refine gR 8 I ?_;subst h;exact go_sub (F':=(mkF 25 0 [(2,.row 5<|List.map aC.w [])])) (H':=⟨0,[]⟩) [] [] I hK ⟨⟨_,I,(.nil 5)⟩,trivial⟩ trivial I<|qN [.tmp 2];exact gR 16 I<|gV 12 (qi (p0.length:Int)) I (aK<|aG _) I<|gLB 11 I (aG _) λc=>gR 4 I<|go_loop m<|gNC 0 2 3 1 I I I I<|gNC 0 3 111 5 I I I I<|qW hK h [0,1,2]
theorem tM(m:Nat)(E j:YT)(l:Int)(k:YI)(d:List aC)(a:Nat)(G:List aC)(h:z8 (a<E.length) (∃e,E[a]?=some e∧∃f g b c,fJ j (a:Int) k d e f g b c∧a+1<=9223372036854775807∧mu m E f g b c (a+1) G)<|d=G):mu (m+1) E j l k d a G:=by
 refine qj λK O J o=>?_;refine gR 6 rfl<|qXh 14 rfl rfl rfl h bx bw ?_ ?_<;>intro U h;refine gR 8 I ?_;obtain⟨e,i,h⟩:=h;refine gY (ar (au i) ab I I I I) I I<|gR 15 I ?_;obtain⟨f,g,b,c,n,h⟩:=h;refine qC n [0,1,2] ?_;refine gHR 5 (List.map (V.int .i64) b) I (dw _ (V.int .i64) (λ_=>I) b) I<|gHR 6 (List.map aC.w c) I (dw _ aC.w (λ_=>I) c) I<|gR 4 I ?_;obtain⟨hb,h⟩:=h;exact gR 1 I<|gV 22 (qi ((a+1:Nat):Int)) I (al (by omega)<|by omega) I<|gR 2 I<|go_xloop<|qW J h [0,5,6];refine gR 3 I<|go_xloopE<|gR 10 I<|gFR 2 I (cw _ (λ_=>I) _) I I ?_;subst h;exact qN [.tmp 2]
theorem Dr(m:Nat)(E:YT)(G:YB)(J:Int)(h:∃a,mB E G a∧a=J):qv E G J:=by
 refine⟨I,I,?_⟩;refine qA 8 [] func181 λK O=>?_;refine gR 9 I<|gFP 0 I I I I<|gY (yMF I) I I ?_;obtain⟨a,b,h⟩:=h;refine qC0 b I<|gR 4 I ?_;subst h;exact qN [.tmp 4]
theorem AP(m:Nat)(E:Tree)(G:YB)(J:Bool)(h:(E.text==G)=J):rp E G J:=by
 refine⟨I,I,?_⟩;refine qA 8 [] func201 λK O=>?_;refine gR 3 I<|gFP 0 I I I I<|gR 13 I ?_;subst h;exact qN [.tmp 3]
def eU(m:Nat)(g:YT)(a:Int)(e:YI)(c:List aC)(E:Tree)(i:Bool)(j:YT)(b:Int)(f:YI)(d:List aC):Prop:=z6 [0] f98 (z4 (.tup []) ⟨3,[(2,.row 111 5<|List.map aC.w d),(1,.row 3 1<|List.map (V.int .i64) f),(0,.var 150 [.row 4<|kidsV j,qi b,.sl 1,.sl 2])]⟩) (cB<|cA<|cB<|ac f98) [.seq<|xA<|ac f98] 94 [(0,.ptr 0 0),(3,.box (am E) 0),(17,.bool i)] ⟨3,[(2,.row 111 5<|List.map aC.w c),(1,.row 3 1<|List.map (V.int .i64) e),(0,.var 150 [.row 4<|kidsV g,qi a,.sl 1,.sl 2])]⟩
def nz(m:Nat)(g:YT)(a:Int)(e:YI)(c:List aC)(E:Tree)(i j:Int)(k:Bool)(l:YI)(n:YT)(b:Int)(f:YI)(d:List aC):Prop:=z7 [0] f98 (z4 (.tup []) ⟨3,[(2,.row 111 5<|List.map aC.w d),(1,.row 3 1<|List.map (V.int .i64) f),(0,.var 150 [.row 4<|kidsV n,qi b,.sl 1,.sl 2])]⟩) [.seq<|xA<|xJ<|cA<|cB<|ac f98,.seq<|xA<|ac f98] 94 [(0,.ptr 0 0),(3,.box (am E) 0),(4,qi i),(5,qi j),(6,.bool k),(7,.ptr 1 0)] ⟨4,[(3,.row 111 5<|List.map aC.w c),(2,.row 3 1<|List.map (V.int .i64) e),(1,.var 109 [qi a,.row 1<|List.map (V.int .i64) l]),(0,.var 150 [.row 4<|kidsV g,qi a,.sl 2,.sl 3])]⟩
def dD(m:Nat)(E:Tree)(d:List aC)(e:YT)(f:Int)(g:YI)(i:Nat)(j:YT)(a:Int)(c:YI)(b:List aC):Prop:=z5 m [0] f98 (z4 (.tup []) ⟨3,[(2,.row 111 5<|List.map aC.w b),(1,.row 3 1<|List.map (V.int .i64) c),(0,.var 150 [.row 4<|kidsV j,qi a,.sl 1,.sl 2])]⟩) (cL<|cK<|xH<|ac f98) [.blk 0] 94 [(0,.ptr 0 0),(59,.row 4<|kidsV E.kids),(60,qi (E.kids.length:Int)),(61,qi (i:Int))] ⟨3,[(2,.row 111 5<|List.map aC.w d),(1,.row 3 1<|List.map (V.int .i64) g),(0,.var 150 [.row 4<|kidsV e,qi f,.sl 1,.sl 2])]⟩
theorem tR(m:Nat)(g:YT)(a:Int)(e:YI)(c:List aC)(E:Tree)(i:YT)(b:Int)(f:YI)(d:List aC)(h:y5 E.kind 16 (eU m g a e c E true i b f d)<|eU m g a e c E (E.kind==9) i b f d):fJ g a e c E i b f d:=by
 refine qA 94 [0] func98 λK G=>?_;refine gR 3 rfl<|gFP 3 rfl rfl rfl rfl<|gR 9 rfl<|qBeZ 13 12 rfl rfl rfl rfl h ?_ ?_<;>intro h;exact gR 6 I<|qJ G (h K G) [0,1,2];exact gR 6 I<|qJ G (h K G) [0,1,2]
theorem tN(m:Nat)(g:YT)(b:Int)(a:YI)(c:List aC)(p1:Tree)(k:Bool)(l:YT)(d:Int)(f:YI)(e:List aC)(h:z9 k (∃n o p,su g b p1.text n o p∧∃q,ir a q∧nz m g b a c p1 n o p q l d f e)<|dD m p1 c g b a 0 l d f e):eU (m+1) g b a c p1 k l d f e:=by
 intro K hK;refine qXi 17 rfl rfl rfl h ?_ ?_<;>intro hd h;refine gR 2 I<|qDs [0] 10 18<|qDr (qR 0 3 2 ((3,3)::(qR 4 3 2 [(7,3),(8,0),(9,0)]))) I I ?_;obtain⟨n,o,p,s,h⟩:=h;refine bp 10 s (by kernel_rfl) I (by kernel_rfl) I I .rfl I I ?_;refine qDr ((11,1)::(qR 12 3 2 (qR 15 3 1 []))) I I<|qDe<|gR 2 I<|qDs [0] 11 12<|qDr (qR 0 3 2 ((3,3)::(qR 4 3 2 [(7,3)]))) I I ?_;obtain⟨q,r,h⟩:=h;apply ig (i:=8) (j:=10) (by kernel_rfl) rfl rfl rfl rfl;exact(hJ (L':=[0]) (by kernel_rfl) I I (Cz (H:=⟨3,[(2,.row 111 5 (List.map aC.w c)),(1,.row 3 1 (List.map (V.int .i64) a)),(0,.var 150 [.row 4 (kidsV g),qi b,.sl 1,.sl 2])]⟩) r [1] .rfl ⟨⟨_,I,⟨I,I,(dw _ (V.int .i64) (λ_=>I) a).symm⟩⟩,trivial⟩ I [0] I) (.inl I));exact(gy ab I I);exact gHR 1 (List.map (V.int .i64) a) I (dw _ (V.int .i64) (λ_=>I) a) I<|qDr [(9,2),(10,0),(11,1)] I I<|qDe<|qJ hK (h K hK) [0,4,1,2];refine qDC 8 r [1] I ?_;exact gHR 1 (List.map (V.int .i64) a) I (dw _ (V.int .i64) (λ_=>I) a) I<|qDr [(9,0),(11,1)] I I<|qDe<|qJ hK (h K hK) [0,3,1,2];exact gR 8 I<|gV 60 (qi (p1.kids.length:Int)) I (aK<|aG _) I<|gLB 59 I (aG _) λt=>gR 4 I<|go_loop m<|qW hK h [0,1,2]
theorem tu(m:Nat)(l:YT)(a:Int)(e:YI)(b:List aC)(p1:Tree)(f g:Int)(i:Bool)(j:YI)(n:YT)(c:Int)(k:YI)(d:List aC)(h:(b++[(aC.mk (yr.mk a j) f g<|!i)]).length<=1000000000∧dD m p1 (b++[(aC.mk (yr.mk a j) f g<|!i)]) l a e 0 n c k d):nz (m+1) l a e b p1 f g i j n c k d:=by
 intro K hK;refine gR 1 I<|qDs [0,1] 15 16<|qDr (qR 0 4 2 ((4,3)::(5,3)::(6,2)::(7,2)::(qR 8 4 0 []))) I I ?_;obtain⟨hb,h⟩:=h;refine ce 12 (.repl 3 (.row 111 5 (List.map aC.w (b++[(aC.mk (yr.mk a j) f g (!i))])))) I (by kernel_rfl) (aX ab I I I I I (apM aC.w b (aC.mk (yr.mk a j) f g (!i))) (by rw[az];exact hb)) (okR I) I (by kernel_rfl) I I ?_;exact qDr [(13,0),(14,0),(15,1)] I I<|qDe<|gR 6 I<|gV 60 (qi (p1.kids.length:Int)) I (aK (aG _)) I<|gLB 59 I (aG _) λo=>gR 4 I<|go_loop m<|qW hK h [0,2,5]
theorem mP(m:Nat)(E:Tree)(j:List aC)(k:YT)(l:Int)(f:YI)(a:Nat)(n:YT)(c:Int)(e:YI)(d:List aC)(h:z8 (a<E.kids.length) (∃o,E.kids[a]?=some o∧(f++[(a:Int)]).length<=1000000000∧∃p q b i,fJ k l (f++[(a:Int)]) j o p q b i∧∃g,((b.length:Int)-1)=((g:Nat):Int)∧g<=b.length∧a+1<=9223372036854775807∧dD m E i p q (b.take g) (a+1) n c e d)<|k=n∧l=c∧f=e∧j=d):dD (m+1) E j k l f a n c e d:=by
 refine qj λK J G x=>?_;refine gR 6 rfl<|qXh 62 rfl rfl rfl h bx bw ?_ ?_<;>intro O h;refine gR 8 I ?_;obtain⟨o,r,h⟩:=h;refine gY (ar (au r) ab I I I I) I I<|gR 15 I ?_;obtain⟨hb,h⟩:=h;refine gDo (.repl 1<|.row 3 1<|List.map (V.int .i64)<|f++[(a:Int)]) (aX ab I I I I I (apM (V.int .i64) f (a:Int)) (by rw[az];exact hb)) (okR I) I I I<|gR 9 I ?_;obtain⟨p,q,b,i,t,h⟩:=h;refine qC t [0,5,2] ?_;refine gHR 7 (List.map (V.int .i64) b) I (dw _ (V.int .i64) (λ_=>I) b) I<|gHR 8 (List.map aC.w i) I (dw _ aC.w (λ_=>I) i) I<|gR 2 I<|qDs [0] 14 15<|qDr (qR 0 4 2<|(4,3)::(qR 5 5 0 [])) I I<|gV 88 (qi (b.length:Int)) I (aK<|az (V.int .i64) _) I<|gLO 7 I (az (V.int .i64) _) λv=>qDr [(10,0)] I I<|gV 89 (qi<|(b.length:Int)-1) I (al (by have :=v;omega) I) I ?_;obtain⟨g,s,h⟩:=h;refine gV 89 (qi ((g:Nat):Int)) I (aI s) I ?_;obtain⟨hb,h⟩:=h;refine ce 11 (.repl 7<|.row 3 1<|List.map (V.int .i64)<|b.take g) I (by kernel_rfl) (dTr ab I I I I (by rw[az];exact hb)<|IL _ _ _) (okR I) I (by kernel_rfl) I I ?_;refine qDr [(12,0),(13,0),(14,1)] I I<|qDe<|gR 3 I ?_;obtain⟨hb,h⟩:=h;exact gR 1 I<|gV 93 (qi ((a+1:Nat):Int)) I (al (by omega)<|by omega) I<|gR 2 I<|go_xloop<|qW G h [0,9,8];refine gR 3 I<|go_xloopE<|gR 1 I ?_;obtain⟨rfl,rfl,rfl,rfl⟩:=h;exact gE G [] [] [0,1,2] []
def iA(m:Nat)(E:YT)(a:YB)(b:Nat)(G:Int):Prop:=z5 m [] f200 (z3<|qi G) (xI<|cB<|ac f200) [.blk 0,.seq<|xA<|ac f200] 19 [(0,.row 4<|kidsV E),(1,.clo 201 [.box [.str a] 0]),(7,qi (E.length:Int)),(8,qi (b:Int))] ⟨0,[]⟩
theorem ye(m:Nat)(p0:YT)(a:YB)(r0:Int)(h:iA m p0 a 0 r0):mB p0 a r0:=by
 refine⟨I,I,?_⟩;refine qA 19 [] func200 λK hK=>?_;exact gR 10 I<|gV 7 (qi (p0.length:Int)) I (aK<|aG _) I<|gLB 6 I (aG _) λb=>gR 4 I<|go_loop m<|qW hK h []
theorem qw(m:Nat)(E:YT)(b:YB)(a:Nat)(G:Int)(h:z8 (a<E.length) (∃d,E[a]?=some d∧∃c,rp d b c∧z9 c ((a:Int)=G) (a+1<=9223372036854775807∧iA m E b (a+1) G))<|(-1)=G):iA (m+1) E b a G:=by
 refine qj λK U J g=>?_;refine gR 6 rfl<|qXh 9 rfl rfl rfl h bx bw ?_ ?_<;>intro O h;refine gR 16 I ?_;obtain⟨d,e,h⟩:=h;refine gY (ar (au e) ab I I I I) I I<|gR 1 I ?_;obtain⟨c,f,h⟩:=h;refine RY f (by kernel_rfl) I I I .rfl I ?_;refine gR 2 rfl<|qXi 16 rfl rfl rfl h ?_ ?_<;>intro O h;refine gR 10 I<|go_xloopR<|gR 2 I ?_;subst h;exact qN [.tmp 4];refine gR 5 I ?_;obtain⟨hb,h⟩:=h;exact gR 1 I<|gV 18 (qi ((a+1:Nat):Int)) I (al (by omega)<|by omega) I<|gR 2 I<|go_xloop<|qW J h [];refine gR 3 I<|go_xloopE<|gR 8 I ?_;subst h;exact qN [.tmp 4]
theorem yO(m:Nat)(E G J:YB)(O:Bool)(h:∃a b c,iY E a b c∧a=G∧b=J∧c=O):nR E G J O:=by
 refine⟨I,I,?_⟩;refine qA 13 [] func180 λK U=>?_;refine gR 11 I ?_;obtain⟨a,b,c,d,h⟩:=h;refine qC0 d I<|gR 9 I ?_;obtain⟨rfl,rfl,rfl⟩:=h;exact qN [.tmp 4,.tmp 5,.tmp 6]
theorem pG(m:Nat)(E G J:YB)(O:Bool)(h:∃a,cM E a∧((0<=a)->∃b,a=((b:Nat):Int)∧b<=E.length∧InI (a+1)∧∃c,(a+1)=((c:Nat):Int)∧c<=E.length∧(E.take b)=G∧(E.drop c)=J∧true=O)∧((¬0<=a)->E=G∧[]=J∧false=O)):iY E G J O:=by
 refine⟨I,I,?_⟩;refine qA 23 [] func199 λK Z=>?_;refine gR 12 I ?_;obtain⟨a,f,h⟩:=h;refine qC0 f rfl<|gR 9 rfl<|qBd 12 rfl rfl rfl h ?_ ?_<;>intro h;refine gR 2 I<|qDs [] 12 12<|qDr [(0,2),(1,2)] I I ?_;obtain⟨b,d,h⟩:=h;refine gV 14 (qi ((b:Nat):Int)) I (aI d) I ?_;obtain⟨U,h⟩:=h;refine gYd 2 I (by kernel_rfl) (ySS ab I I ta (sX I) (aar _) U<|mX _ _) I I<|qDr (qR 3 4 2 []) I I ?_;obtain⟨hb,h⟩:=h;refine qDr [(7,2)] I I<|gV 20 (qi<|a+1) I (al hb I) I ?_;obtain⟨c,e,h⟩:=h;refine gV 20 (qi ((c:Nat):Int)) I (aI e) I ?_;obtain⟨hb,h⟩:=h;refine gYd 8 I (by kernel_rfl) (ySS ab I I (sX I) ta hb (aaf _)<|AI _ _) I I<|qDr (qR 9 3 0 []) I I<|qDe<|gR 3 I ?_;obtain⟨rfl,rfl,rfl⟩:=h;exact qN [.tmp 4,.tmp 5,.tmp 6];refine gR 12 I ?_;obtain⟨rfl,rfl,rfl⟩:=h;exact qN [.tmp 4,.tmp 5,.tmp 6]
def hI(m:Nat)(E:YB)(G:Int):Prop:=z6 [] f182 (z3<|qi G) (xB<|xN<|xA<|ac f182) [.blk 0,.seq<|xH<|ac f182] 143 [(0,.str E),(1,.str [46]),(5,qi 1)] ⟨0,[]⟩
theorem oq(m:Nat)(E:YB)(G:Int)(h:(([46]=E)->0=G)∧(([46]≠E)->hI m E G)):cM E G:=by
 refine⟨I,I,?_⟩;refine qA 143 [] func182 λK J=>?_;refine gR 26 rfl<|qBeZ 16 23 rfl rfl rfl rfl h ?_ ?_<;>intro h;refine gR 9 I ?_;subst h;exact qN [.tmp 4];exact gR 1 I<|qJ J (h K J) []
theorem nU(m:Nat)(E:YB)(G:Int)(h:∃a,ii E 46 a∧a=G):hI (m+1) E G:=by
 intro K J;refine gR 13 I ?_;obtain⟨a,b,h⟩:=h;refine qC0 b I<|gR 6 I ?_;subst h;exact qN [.tmp 4]
theorem uc(m:Nat)(E:YB)(G:Bool)(h:∃a,rb E a∧decide (0<=a)=G):fI E G:=by
 refine⟨I,I,?_⟩;refine qA 9 [] func101 λK J=>?_;refine gR 9 I ?_;obtain⟨a,b,h⟩:=h;refine qC0 b I<|gR 5 I ?_;subst h;exact qN [.tmp 4]
theorem xl(m:Nat)(E:YB)(G:Int)(h:∃a,cM E a∧a=G):rb E G:=by
 refine⟨I,I,?_⟩;refine qA 8 [] func151 λK J=>?_;refine gR 9 I ?_;obtain⟨a,b,h⟩:=h;refine qC0 b I<|gR 4 I ?_;subst h;exact qN [.tmp 4]
def jd(m:Nat)(E:YB)(a:Nat)(G:Int):Prop:=z5 m [] f154 (z3<|qi G) (xI<|cB<|ac f154) [.blk 0,.seq<|xA<|ac f154] 15 [(0,.str E),(3,qi (a:Int))] ⟨0,[]⟩
theorem yk(m:Nat)(p0:YB)(r0:Int)(h:jd m p0 0 r0):nP p0 r0:=by
 refine⟨I,I,?_⟩;refine qA 15 [] func154 λK hK=>?_;exact gR 12 I<|go_loop m<|qW hK h []
theorem qZ(m:Nat)(E:YB)(a:Nat)(G:Int)(h:z8 (a<E.length) (∃b,E[a]?=some b∧y5 (b.toNat:Int) 46 ((a:Int)=G) (a+1<=9223372036854775807∧jd m E (a+1) G))<|(-1)=G):jd (m+1) E a G:=by
 refine qj λK U J d=>?_;refine gR 9 rfl<|qXh 7 rfl rfl rfl h bx bw ?_ ?_<;>intro O h;refine gR 9 I ?_;obtain⟨b,c,h⟩:=h;refine gY (yIS ab rfl rfl rfl c) rfl rfl<|gR 3 rfl<|qXe 13 rfl rfl rfl h ?_ ?_<;>intro O h;refine gR 10 I<|go_xloopR<|gR 2 I ?_;subst h;exact qN [.tmp 2];refine gR 6 I ?_;obtain⟨hb,h⟩:=h;exact gR 1 I<|gV 9 (qi ((a+1:Nat):Int)) I (al (by omega)<|by omega) I<|gR 2 I<|go_xloop<|qW J h [];refine gR 3 I<|go_xloopE<|gR 8 I ?_;subst h;exact qN [.tmp 2]
def fo(m:Nat)(E:YT)(G:YB)(a:Int)(b:Nat)(J O:Int)(U:Bool):Prop:=z5 m [] f103 (z3<|.tup [qi J,qi O,.bool U]) (cL<|xN<|cB<|xJ<|cA<|xA<|ac f103) [.blk 0,.seq<|xA<|xJ<|cA<|xA<|ac f103,.seq<|xH<|ac f103] 65 [(0,.row 4<|kidsV E),(2,.str G),(9,qi a),(10,qi (b:Int))] ⟨0,[]⟩
def dK(m:Nat)(E:YT)(a:Nat)(b:Int)(c:YB)(G J:Int)(O:Bool):Prop:=z5 m [] f103 (z3<|.tup [qi G,qi J,.bool O]) (xI<|xH<|ac f103) [.blk 2,.seq<|xF<|ac f103] 65 [(0,.row 4<|kidsV E),(1,qi b),(2,.str c),(11,qi (a:Int))] ⟨0,[]⟩
def lN(m:Nat)(E:YT)(G:YB)(a:Int)(b:Nat)(J O:Int)(U:Bool):Prop:=z6 [] f103 (z3<|.tup [qi J,qi O,.bool U]) (xA<|xJ<|cA<|xA<|ac f103) [.seq<|xH<|ac f103] 65 [(0,.row 4<|kidsV E),(2,.str G),(9,qi a),(10,qi (b:Int))] ⟨0,[]⟩
theorem ri(m:Nat)(p0:YT)(p1:Int)(p2:YB)(r0 r1:Int)(r2:Bool)(h:∃a,nP p2 a∧((0<=a)->fo m p0 p2 a 0 r0 r1 r2)∧((¬0<=a)->dK m p0 0 p1 p2 r0 r1 r2)):fW p0 p1 p2 r0 r1 r2:=by
 refine⟨I,I,?_⟩;refine qA 65 [] func103 λK hK=>?_;refine gR 10 I ?_;obtain⟨a,b,h⟩:=h;refine qC0 b rfl<|gR 10 rfl<|qXd 15 rfl rfl rfl h ?_ ?_<;>intro hd h;exact gR 8 I<|go_loop m<|qW hK h [];exact gR 10 I<|go_loop m<|qW hK h []
theorem kU(m:Nat)(E:YT)(G:YB)(c:Int)(a:Nat)(O U:Int)(Z:Bool)(h:z8 (a<E.length) (∃d,E[a]?=some d∧∃b,c=((b:Nat):Int)∧b<=G.length∧y6 d.text (G.take b) (fo m E G c (a+1) O U Z) (lN m E G c a O U Z))<|lN m E G c a O U Z):fo (m+1) E G c a O U Z:=by
 refine qj λK j1 J i=>?_;refine gR 2 rfl<|qDs [] 15 15<|qDr [(0,2),(1,0),(2,0)] rfl rfl<|gV 18 (qi (E.length:Int)) rfl (aK<|aG _) rfl<|gLB 17 rfl (aG _) λg=>qDr [(3,0),(4,0)] rfl rfl<|qXhZ 20 19 rfl rfl rfl rfl h bx bw ?_ ?_<;>intro hd h;refine qDr [(5,2),(6,2)] I I ?_;obtain⟨d,e,h⟩:=h;refine gYd 7 I (by kernel_rfl) (ar (au e) ab I I I I) I I<|qDr (qR 8 3 2 [(11,0)]) I I ?_;obtain⟨b,f,h⟩:=h;refine gV 27 (qi ((b:Nat):Int)) I (aI f) I ?_;obtain⟨hb',h⟩:=h;refine cc 12 I (by kernel_rfl) (ySS ab I I ta (sX I) (aar _) hb'<|mX _ _) I I ?_;refine qDr [(13,0),(14,0)] rfl rfl<|qDe<|gR 1 rfl<|qXh 30 rfl rfl rfl h iS eY ?_ ?_<;>intro hd h;exact gR 7 I<|gV 32 (qi ((a+1:Nat):Int)) I (al (by have :=g;omega)<|by omega) I<|gR 3 I<|go_xloop<|qW J h [];exact gR 3 I<|go_xloopE<|gR 2 I<|qJ J (h K J) [];exact qDr (qR 5 6 2<|qR 11 4 0 []) I I<|qDe<|gR 4 I<|go_xloopE<|gR 2 I<|qJ J (h K J) []
theorem qo(m:Nat)(E:YT)(a:Nat)(b:Int)(d:YB)(G J:Int)(O:Bool)(h:∃e,b=((e:Nat):Int)∧∃c,E[e]?=some c∧z8 (a<c.kids.length) (∃f,b=((f:Nat):Int)∧∃i,E[f]?=some i∧∃g,i.kids[a]?=some g∧y5 g.text d (b=G∧(a:Int)=J∧true=O) (dK m E (a+1) b d G J O)) (0=G∧0=J∧false=O)):dK (m+1) E a b d G J O:=by
 refine qj λK j1 U q=>?_;refine gR 6 I ?_;obtain⟨e,n,h⟩:=h;refine gV 44 (qi ((e:Nat):Int)) I (aI n) I ?_;obtain⟨c,j,h⟩:=h;refine gY (ar (au j) ab rfl rfl rfl rfl) rfl rfl<|gR 3 rfl<|gV 48 (qi (c.kids.length:Int)) rfl (aK<|aG _) rfl<|gLB 47 rfl (aG _) λp=>gR 3 rfl<|qXh 49 rfl rfl rfl h bx bw ?_ ?_<;>intro Z h;refine gR 9 I ?_;obtain⟨f,o,h⟩:=h;refine gV 53 (qi ((f:Nat):Int)) I (aI o) I ?_;obtain⟨i,k,h⟩:=h;refine gY (ar (au k) ab I I I I) I I<|gR 3 I ?_;obtain⟨g,l,h⟩:=h;refine gY (ar (au l) ab rfl rfl rfl rfl) rfl rfl<|gR 6 rfl<|qXe 62 rfl rfl rfl h ?_ ?_<;>intro Z h;refine gR 13 I<|go_xloopR<|gR 2 I ?_;obtain⟨rfl,rfl,rfl⟩:=h;exact qN [.tmp 6,.tmp 7,.tmp 8];exact gR 7 I<|gV 51 (qi ((a+1:Nat):Int)) I (al (by have :=p;omega)<|by omega) I<|gR 2 I<|go_xloop<|qW U h [];refine gR 3 I<|go_xloopE<|gR 10 I ?_;obtain⟨rfl,rfl,rfl⟩:=h;exact qN [.tmp 6,.tmp 7,.tmp 8]
theorem qz(m:Nat)(p0:YT)(p2:YB)(b:Int)(c:Nat)(r0 r1:Int)(r2:Bool)(h:y5 c p0.length (0=r0∧0=r1∧false=r2)<|InI (b+1)∧∃a,(b+1)=((a:Nat):Int)∧a<=p2.length∧dK m p0 0 (c:Int) (p2.drop a) r0 r1 r2):lN (m+1) p0 p2 b c r0 r1 r2:=by
 intro K hK;refine gR 6 rfl<|gV 35 (qi (p0.length:Int)) rfl (aK (aG _)) rfl<|gLB 34 rfl (aG _) λe=>gR 3 rfl<|qXh 36 rfl rfl rfl h Sy RS ?_ ?_<;>intro hd h;refine gR 11 I ?_;obtain⟨rfl,rfl,rfl⟩:=h;exact qN [.tmp 6,.tmp 7,.tmp 8];refine gR 3 I<|qDs [] 7 7<|qDr (qR 0 3 2 []) I I ?_;obtain⟨hb,h⟩:=h;refine qDr [(3,2)] I I<|gV 40 (qi<|b+1) I (al hb I) I ?_;obtain⟨a,d,h⟩:=h;refine gV 40 (qi ((a:Nat):Int)) I (aI d) I ?_;obtain⟨hb,h⟩:=h;exact gYd 4 I (by kernel_rfl) (ySS ab I I (sX I) ta hb (aaf _)<|AI _ _) I I<|qDr [(5,0),(6,0)] I I<|qDe<|gR 8 I<|go_loop m<|qW hK h []
section
variable{P:Program}{T:Tab}{K:Ctx}{Q:Exit->Act->World->Prop}{s:List EI}{n:Nat}{F F1:Fm}{H H1:Hp}{all:Array Oper}{rest:List Oper}{L:YN}{m fuel:Nat}{listed:Array Bool}{p:EP}
theorem Sg{PL:YN}{fid:FuncId}{args:List Operand}{tys:Array TypeId}{vs us:List V}{H0:Hp}{Post:V->Hp->Prop}{d:Option Tmp}{ty:TypeId}{ps:String}{af:Array Edge}{g:Option<|Nat×Bool}(i:Nat)(G:co PL P fid us H0 Post)(σ:YN)(J:cf P fid=true)(hi:all[i]?=some ⟨d,.call {callee:=.value<|.func fid,args:=args.toArray,argTypes:=tys},ty,ps,af,g⟩)(E:Region.ready .any all listed=[i])(O:bg F all g=some true)(hv:fF F args=some vs)(hs:aT vs<|renL σ us)(hH:leH σ H H0.es)(U:(cI σ&&Nat.beq σ.length H0.nx&&σ.all λi=>Nat.blt i H.nx)=true)(Z:(listed.setIfInBounds i true).getD m false=true)
  (k:∀v H',Post v H'->Go P K Q (.drw all L m fuel<|listed.setIfInBounds i true) s n (F.seto d<|some<|v.ren<|sgN PL H.nx H0.get H'.nx σ 0) (mO PL H σ H0 H')):Go P K Q (.drw all L m (fuel+1) listed) s n F H:=
 go_d1C J E hi rfl O hv (sV G σ hs hH U [] rfl) (.inr Z) λv' H'' ⟨v,H',hP,e1,e2⟩=>by subst e1 e2;exact k v H' hP
end
section
variable{P:Program}{K:Ctx}{Q:Exit->Act->World->Prop}{p:EP}{s:List EI}{n:Nat}{F:Fm}{H:Hp}
end
structure aj where
 name:(List UInt8)
 path:(List Int)
abbrev aj.c(x:aj):List V:=[.str x.name,.row 1 (List.map (V.int .i64) x.path)]
abbrev aj.w(x:aj):V:=.agg x.c
structure aD where
 Path:(List Int)
 Binder:(List Int)
 Free:Bool
abbrev aD.c(x:aD):List V:=[.row 1 (List.map (V.int .i64) x.Path),.row 1 (List.map (V.int .i64) x.Binder),.bool x.Free]
abbrev aD.w(x:aD):V:=.agg x.c
def oT(E:Tree)(G:Bool):Prop:=qS 94 [.agg<|am E]<|.bool G
def ru(E:Tree)(G:List aj):Prop:=co [] prog 95 [.agg<|am E] ⟨0,[]⟩<|z4 (.sl 0) ⟨1,[(0,.row 189 2<|List.map aj.w G)]⟩
def lT(E:List aj)(G:YB)(J:YI)(O:Bool):Prop:=co [0] prog 148 [.sl 0,.str G] ⟨1,[(0,.row 189 2<|List.map aj.w E)]⟩<|z4 (.tup [.row 1<|List.map (V.int .i64) J,.bool O]) ⟨1,[(0,.row 189 2<|List.map aj.w E)]⟩
def nX(E:Tree)(G:List aD):Prop:=qS 54 [.agg<|am E]<|.row 3<|List.map aD.w G
def eX(a:List aj)(e:YI)(b:List aD)(E:Tree)(c:List aj)(f:YI)(d:List aD):Prop:=co [] prog 96 [.ptr 0 0,.agg<|am E] ⟨4,[(3,.row 102 3<|List.map aD.w b),(2,.row 3 1<|List.map (V.int .i64) e),(1,.row 189 2<|List.map aj.w a),(0,.var 148 [.sl 1,.sl 2,.sl 3])]⟩<|z4 (.tup []) ⟨4,[(3,.row 102 3<|List.map aD.w d),(2,.row 3 1<|List.map (V.int .i64) f),(1,.row 189 2<|List.map aj.w c),(0,.var 148 [.sl 1,.sl 2,.sl 3])]⟩
def mV(E:Tree)(G:Bool):Prop:=qS 152 [.agg<|am E]<|.bool G
def lq(E:Tree)(G:YI)(J:(List YI)):Prop:=qS 153 [.agg<|am E,.row 1<|List.map (V.int .i64) G]<|.row 1<|List.map (λl=>V.row 1<|List.map (V.int .i64) l) J
def gN(E:Tree)(G:YI)(J:YB)(O:YI)(U:Bool):Prop:=qS 102 [.agg<|am E,.row 1<|List.map (V.int .i64) G,.str J]<|.tup [.row 1<|List.map (V.int .i64) O,.bool U]
theorem zK(m:Nat)(E:Tree)(G:Bool)(h:((E.kind=2)->∃a,gr E a∧a=G)∧((E.kind≠2)->false=G)):oT E G:=by
 refine⟨I,I,?_⟩;refine qA 10 [] func94 λK J=>?_;refine gR 3 rfl<|gFP 0 rfl rfl rfl rfl<|gR 9 rfl<|qBeZ 6 5 rfl rfl rfl rfl h ?_ ?_<;>intro h;refine gR 1 I ?_;obtain⟨a,b,h⟩:=h;refine qC0 b I<|gR 5 I ?_;subst h;exact qN [.tmp 2];refine gR 7 I ?_;subst h;exact qN [.tmp 2]
def mw(m:Nat)(E:Tree)(a:List aj)(b:Int)(G:List aj):Prop:=z5 m [] f95 (z4 (.sl 0) ⟨1,[(0,.row 189 2<|List.map aj.w G)]⟩) (xM<|ac f95) [.blk 0,.seq<|xH<|ac f95] 26 [(1,.box (am E) 0),(3,.sl 0),(4,qi b)] ⟨1,[(0,.row 189 2<|List.map aj.w a)]⟩
theorem Bf(m:Nat)(p0:Tree)(r0:List aj)(h:mw m p0 ([]:List aj) ((p0.kids.length:Int)-3) r0):ru p0 r0:=by
 refine qA 26 [] func95 λK hK=>?_;exact gR 3 I<|gFP 0 I I I I<|gR 14 I<|gV 7 (qi (p0.kids.length:Int)) I (aK<|aG _) I<|gLB 6 I (aG _) λa=>gR 1 I<|gV 8 (qi<|(p0.kids.length:Int)-3) I (al (by have :=a;omega) I) I<|gR 4 I<|go_loop m<|gNS 3 189 2 I I I I<|qW hK h [1]
theorem tr(m:Nat)(E:Tree)(b:List aj)(a:Int)(G:List aj)(h:z8 (0<=a) (∃d,a=((d:Nat):Int)∧∃c,E.kids[d]?=some c∧(b++[(aj.mk c.text [a])]).length<=1000000000∧InI (a-1)∧mw m E (b++[(aj.mk c.text [a])]) (a-1) G)<|b=G):mw (m+1) E b a G:=by
 refine qj λK O J g=>?_;refine gR 7 rfl<|qXd 10 rfl rfl rfl h ?_ ?_<;>intro U h;refine gR 10 I ?_;obtain⟨d,f,h⟩:=h;refine gV 16 (qi ((d:Nat):Int)) I (aI f) I ?_;obtain⟨c,e,h⟩:=h;refine gY (ar (au e) ab I I I I) I I<|gR 5 I<|gFR 1 I I I I<|gR 1 I ?_;obtain⟨hb,h⟩:=h;refine gDo (.repl 0<|.row 189 2<|List.map aj.w<|b++[(aj.mk c.text [a])]) (aX ab I I I I I (apM aj.w b<|aj.mk c.text [a]) (by rw[az];exact hb)) (okR I) I I I<|gR 6 I ?_;obtain⟨hb,h⟩:=h;exact gR 1 I<|gV 12 (qi<|a-1) I (al hb I) I<|gR 2 I<|go_xloop<|qW J h [3];refine gR 3 I<|go_xloopE<|gR 9 I ?_;subst h;exact gE J [] [(2,.sl 0)] [0] [.tmp 2]
def gO(m:Nat)(E:List aj)(G:YB)(a:Int)(J:YI)(O:Bool):Prop:=z5 m [0] f148 (z4 (.tup [.row 1<|List.map (V.int .i64) J,.bool O]) ⟨1,[(0,.row 189 2<|List.map aj.w E)]⟩) (xI<|cB<|ac f148) [.blk 0,.seq<|xA<|ac f148] 27 [(0,.sl 0),(1,.str G),(6,qi a)] ⟨1,[(0,.row 189 2<|List.map aj.w E)]⟩
theorem wW(m:Nat)(p0:List aj)(p1:YB)(r0:YI)(r1:Bool)(h:gO m p0 p1 ((p0.length:Int)-1) r0 r1):lT p0 p1 r0 r1:=by
 refine qA 27 [0] func148 λK hK=>?_;exact gR 11 I<|gV 8 (qi (p0.length:Int)) I (aK<|az aj.w _) I<|gLO 0 I (az aj.w _) λa=>gR 1 I<|gV 9 (qi<|(p0.length:Int)-1) I (al (by have :=a;omega) I) I<|gR 4 I<|go_loop m<|qW hK h [0]
theorem pr(m:Nat)(E:List aj)(O:YB)(a:Int)(G:YI)(J:Bool)(h:z8 (0<=a) (∃b,a=((b:Nat):Int)∧∃c,E[b]?=some c∧y5 c.name O (∃d,a=((d:Nat):Int)∧∃j,E[d]?=some j∧∃e,rB j.path e∧e=G∧true=J) (InI (a-1)∧gO m E O (a-1) G J))<|[]=G∧false=J):gO (m+1) E O a G J:=by
 refine qj λK j1 U o=>?_;refine gR 7 rfl<|qXd 11 rfl rfl rfl h ?_ ?_<;>intro Z h;refine gR 9 I ?_;obtain⟨b,k,h⟩:=h;refine gV 15 (qi ((b:Nat):Int)) I (aI k) I ?_;obtain⟨c,g,h⟩:=h;refine gY (yIO ab I I I I<|qG<|an (f:=aj.w) g) I I ?_;refine gR 1 rfl<|gDo (.nop) (dLe ab rfl rfl rfl (an (f:=aj.w) g) rfl) trivial rfl rfl rfl<|gR 4 rfl<|qXe 20 rfl rfl rfl h ?_ ?_<;>intro Z h;refine gR 5 I ?_;obtain⟨d,l,h⟩:=h;refine gV 22 (qi ((d:Nat):Int)) I (aI l) I ?_;obtain⟨j,i,h⟩:=h;refine gY (yIO ab I I I I<|qG<|an (f:=aj.w) i) I I ?_;refine gR 1 I<|gDo (.nop) (dLe ab I I I (an (f:=aj.w) i) I) trivial I I I ?_;obtain⟨e,n,h⟩:=h;refine qC0 n I<|gR 7 I<|go_xloopR<|gR 2 I ?_;obtain⟨rfl,rfl⟩:=h;exact gE U [] [(4,.row 1<|List.map (V.int .i64) e),(5,.bool true)] [0] [.tmp 4,.tmp 5];refine gR 6 I ?_;obtain⟨hb,h⟩:=h;exact gR 1 I<|gV 13 (qi<|a-1) I (al hb I) I<|gR 2 I<|go_xloop<|qW U h [0];refine gR 3 I<|go_xloopE<|gR 9 I ?_;obtain⟨rfl,rfl⟩:=h;exact gE U [] [(4,.row 1<|List.map (V.int .i64) []),(5,.bool false)] [0] [.tmp 4,.tmp 5] ⟨⟨_,I,(.nil 1)⟩,⟨_,I,.rfl⟩,trivial⟩
theorem yR(m:Nat)(E:Tree)(G:List aD)(h:∃c,oT E c∧((c=false)->[]=G)∧((c=true)->∃a,ru E a∧∃d,((E.kids.length:Int)-1)=((d:Nat):Int)∧∃g,E.kids[d]?=some g∧∃e f b,eX a [((E.kids.length:Int)-1)] ([]:List aD) g e f b∧b=G)):nX E G:=by
 refine⟨I,I,?_⟩;refine qA 25 [] func54 λK J=>?_;refine gR 3 I<|gFP 0 I I I I<|gR 7 I ?_;obtain⟨c,k,h⟩:=h;refine qC0 k rfl<|gR 3 rfl<|qXh 7 rfl rfl rfl h bI bJ ?_ ?_<;>intro O h;refine gR 8 I ?_;subst h;exact go_sub (F':=(mkF 25 0 [(2,.row 3<|List.map aD.w [])])) (H':=⟨0,[]⟩) [] [] I J ⟨⟨_,I,(.nil 3)⟩,trivial⟩ trivial I<|qN [.tmp 2];refine gR 8 I<|gV 10 (qi (E.kids.length:Int)) I (aK<|aG _) I<|gLB 9 I (aG _) λl=>gR 1 I<|gV 11 (qi<|(E.kids.length:Int)-1) I (al (by have :=l;omega) I) I<|gR 6 I ?_;obtain⟨a,n,h⟩:=h;refine qC n [] ?_;refine gHR 1 (List.map aj.w a) I (dw _ aj.w (λ_=>I) a) I<|gR 12 I ?_;obtain⟨d,j,h⟩:=h;refine gV 19 (qi ((d:Nat):Int)) I (aI j) I ?_;obtain⟨g,i,h⟩:=h;refine gY (ar (au i) ab I I I I) I I<|gR 1 I<|gNC 3 2 102 3 I I I I ?_;obtain⟨e,f,b,o,h⟩:=h;refine qC o [3,1,2,4] ?_;refine gHR 6 (List.map aj.w e) I (dw _ aj.w (λ_=>I) e) I<|gHR 7 (List.map (V.int .i64) f) I (dw _ (V.int .i64) (λ_=>I) f) I<|gHR 8 (List.map aD.w b) I (dw _ aD.w (λ_=>I) b) I<|gR 10 I<|gFR 8 I (cw _ (λ_=>I) _) I I ?_;subst h;exact qN [.tmp 2]
def cv(m:Nat)(E:Tree)(d:List aD)(e:List aj)(f:YI)(g:Nat)(a:List aj)(c:YI)(b:List aD):Prop:=z5 m [0] f96 (z4 (.tup []) ⟨4,[(3,.row 102 3<|List.map aD.w b),(2,.row 3 1<|List.map (V.int .i64) c),(1,.row 189 2<|List.map aj.w a),(0,.var 148 [.sl 1,.sl 2,.sl 3])]⟩) (cL<|cK<|xH<|ac f96) [.blk 0] 116 [(0,.ptr 0 0),(3,.box (am E) 0),(41,.row 4<|kidsV E.kids),(42,qi (E.kids.length:Int)),(43,qi (g:Int))] ⟨4,[(3,.row 102 3<|List.map aD.w d),(2,.row 3 1<|List.map (V.int .i64) f),(1,.row 189 2<|List.map aj.w e),(0,.var 148 [.sl 1,.sl 2,.sl 3])]⟩
def ev(m:Nat)(E:Tree)(d:List aD)(e:Tree)(f:List aj)(g:YI)(i:Nat)(j:Bool)(k:Nat)(a:List aj)(c:YI)(b:List aD):Prop:=∀(K:Ctx) (G:Nat),aw K [0]->m<=G->qLG K f96 (z4 (.tup []) ⟨4,[(3,.row 102 3<|List.map aD.w b),(2,.row 3 1<|List.map (V.int .i64) c),(1,.row 189 2<|List.map aj.w a),(0,.var 148 [.sl 1,.sl 2,.sl 3])]⟩) (xA<|xN<|xA<|cL<|cK<|xH<|ac f96) [.blk 1,.seq<|xH<|cL<|cK<|xH<|ac f96,.loop (cL<|cK<|xH<|ac f96) G,.blk 0] 116 (mkF 116 0 [(0,.ptr 0 0),(3,.box (am E) 0),(6,qi (i:Int)),(7,.ptr 1 0),(8,.bool j),(41,.row 4<|kidsV E.kids),(42,qi (E.kids.length:Int)),(43,qi (k:Int))]) ⟨5,[(4,.row 102 3<|List.map aD.w d),(3,.row 3 1<|List.map (V.int .i64) g),(2,.row 189 2<|List.map aj.w f),(1,.var 26<|am e),(0,.var 148 [.sl 2,.sl 3,.sl 4])]⟩
def il(m:Nat)(E:Tree)(d:List aD)(e:Tree)(f:List aj)(g:YI)(i:Nat)(j:Bool)(k:Nat)(a:List aj)(c:YI)(b:List aD):Prop:=∀(K:Ctx) (G:Nat),aw K [0]->m<=G->qLG K f96 (z4 (.tup []) ⟨4,[(3,.row 102 3<|List.map aD.w b),(2,.row 3 1<|List.map (V.int .i64) c),(1,.row 189 2<|List.map aj.w a),(0,.var 148 [.sl 1,.sl 2,.sl 3])]⟩) (xH<|xN<|xA<|cL<|cK<|xH<|ac f96) [.blk 1,.seq<|xH<|cL<|cK<|xH<|ac f96,.loop (cL<|cK<|xH<|ac f96) G,.blk 0] 116 (mkF 116 0 [(0,.ptr 0 0),(3,.box (am E) 0),(6,qi (i:Int)),(7,.ptr 1 0),(8,.bool j),(41,.row 4<|kidsV E.kids),(42,qi (E.kids.length:Int)),(43,qi (k:Int))]) ⟨5,[(4,.row 102 3<|List.map aD.w d),(3,.row 3 1<|List.map (V.int .i64) g),(2,.row 189 2<|List.map aj.w f),(1,.var 26<|am e),(0,.var 148 [.sl 2,.sl 3,.sl 4])]⟩
theorem tl(m:Nat)(a:List aj)(c:YI)(b:List aD)(p1:Tree)(d:List aj)(f:YI)(e:List aD)(h:y5 p1.kind 12 (∃g i,lT a p1.text g i∧∃j,ir c j∧(b++[(aD.mk j g<|!i)]).length<=1000000000∧cv m p1 (b++[(aD.mk j g<|!i)]) a c 0 d f e)<|cv m p1 b a c 0 d f e):eX a c b p1 d f e:=by
 refine qA 116 [0] func96 λK hK=>?_;refine gR 3 rfl<|gFP 4 rfl rfl rfl rfl<|gR 10 rfl<|qXe 11 rfl rfl rfl h ?_ ?_<;>intro hd h;refine gR 2 I<|qDs [0] 6 12<|qDr (qR 0 3 2 [(3,3),(4,0),(5,0)]) I I ?_;obtain⟨g,i,k,h⟩:=h;refine Sg 6 k [1] (by kernel_rfl) I (by kernel_rfl) I I .rfl ⟨⟨_,I,⟨I,I,(dw _ aj.w (λ_=>I) a).symm⟩⟩,trivial⟩ I (by kernel_rfl) ?_;rintro _ _ ⟨rfl,rfl⟩;refine gHR 1 (List.map aj.w a) I (dw _ aj.w (λ_=>I) a) I<|qDr [(7,1),(8,2),(9,2),(10,1),(11,1)] I I<|qDe<|gR 1 I<|qDs [0] 18 19<|qDr (qR 0 4 2<|(4,3)::(qR 5 3 2<|(8,3)::(qR 10 3 2 []))) I I ?_;obtain⟨j,l,h⟩:=h;refine qDC 9 l [2] I ?_;refine gHR 2 (List.map (V.int .i64) c) I (dw _ (V.int .i64) (λ_=>I) c) I<|qDr [(13,0),(14,0)] I I ?_;obtain⟨hb,h⟩:=h;refine ce 15 (.repl 3<|.row 102 3<|List.map aD.w<|b++[(aD.mk j g<|!i)]) I (by kernel_rfl) (aX ab I I I I I (apM aD.w b<|aD.mk j g<|!i) (by rw[az];exact hb)) (okR I) I (by kernel_rfl) I I ?_;exact qDr [(16,0),(17,0),(18,1)] I I<|qDe<|gR 6 I<|gV 42 (qi (p1.kids.length:Int)) I (aK<|aG _) I<|gLB 41 I (aG _) λn=>gR 4 I<|go_loop m<|qW hK h [0,1,2,8];exact gR 8 I<|gV 42 (qi (p1.kids.length:Int)) I (aK<|aG _) I<|gLB 41 I (aG _) λo=>gR 4 I<|go_loop m<|qW hK h [0,1,2,3]
theorem mf(m:Nat)(E:Tree)(e:List aD)(f:List aj)(g:YI)(c:Nat)(a:List aj)(d:YI)(b:List aD)(h:z8 (c<E.kids.length) (∃i,E.kids[c]?=some i∧y5 E.kind 20 (ev m E e i f g c ((c:Int)==1) c a d b) (ev m E e i f g c false c a d b))<|f=a∧g=d∧e=b):cv (m+1) E e f g c a d b:=by
 refine qj λK O G k=>?_;refine gR 6 rfl<|qXh 44 rfl rfl rfl h bx bw ?_ ?_<;>intro J h;refine gR 8 I ?_;obtain⟨i,j,h⟩:=h;refine gY (ar (au j) ab rfl rfl rfl rfl) rfl rfl<|gR 12 rfl<|qXeZ 51 50 rfl rfl rfl rfl h ?_ ?_<;>intro J h;exact gR 6 I<|qW G h [0,4,1,2,3];exact gR 6 I<|qW G h [0,4,1,2,3];refine gR 3 I<|go_xloopE<|gR 1 I ?_;obtain⟨rfl,rfl,rfl⟩:=h;exact gE G [] [] [0,1,2,3] []
theorem mh(m:Nat)(E:Tree)(g:List aD)(i:Tree)(d:List aj)(e:YI)(j:Nat)(k:Bool)(l:Nat)(a:List aj)(c:YI)(b:List aD)(h:z9 k (∃f,ir e f∧(d++[(aj.mk E.text f)]).length<=1000000000∧il m E g i (d++[(aj.mk E.text f)]) e j true l a c b)<|il m E g i d e j false l a c b):ev (m+1) E g i d e j k l a c b:=by
 refine qj λK J G o=>?_;refine gR 6 rfl<|qXiZ 55 8 rfl rfl rfl rfl h ?_ ?_<;>intro O h;refine gR 1 I<|qDs [0] 17 18<|qDr (qR 0 4 2<|(4,3)::(5,2)::(6,2)::(qR 7 4 0 [])) I I ?_;obtain⟨f,n,h⟩:=h;refine qDC 11 n [3] I ?_;refine gHR 3 (List.map (V.int .i64) e) I (dw _ (V.int .i64) (λ_=>I) e) I<|qDr [(12,0),(13,0)] I I ?_;obtain⟨hb,h⟩:=h;refine ce 14 (.repl 2<|.row 189 2<|List.map aj.w<|d++[(aj.mk E.text f)]) I (by kernel_rfl) (aX ab I I I I I (apM aj.w d<|aj.mk E.text f) (by rw[az];exact hb)) (okR I) I (by kernel_rfl) I I ?_;exact qDr [(15,0),(16,0),(17,1)] I I<|qDe<|gR 1 I<|qW G h [0,1,7,3,4];exact gR 3 I<|qW G h [0,1,2,3,4]
theorem mo(m:Nat)(E:Tree)(o:List aD)(p:Tree)(q:List aj)(k:YI)(l:Nat)(n:Bool)(e:Nat)(c:List aj)(f:YI)(d:List aD)(h:(k++[(l:Int)]).length<=1000000000∧∃a b i,eX q (k++[(l:Int)]) o p a b i∧∃g,((b.length:Int)-1)=((g:Nat):Int)∧g<=b.length∧z9 n (∃j,((a.length:Int)-1)=((j:Nat):Int)∧j<=a.length∧e+1<=9223372036854775807∧cv m E i (a.take j) (b.take g) (e+1) c f d) (e+1<=9223372036854775807∧cv m E i a (b.take g) (e+1) c f d)):il (m+1) E o p q k l n e c f d:=by
 refine qj λK J G y=>?_;refine gR 9 I ?_;obtain⟨hb,h⟩:=h;refine gDo (.repl 3<|.row 3 1<|List.map (V.int .i64)<|k++[(l:Int)]) (aX ab I I I I I (apM (V.int .i64) k (l:Int)) (by rw[az];exact hb)) (okR I) I I I<|gR 9 I ?_;obtain⟨a,b,i,t,h⟩:=h;refine qC t [0,2,6,4] ?_;refine gHR 8 (List.map aj.w a) I (dw _ aj.w (λ_=>I) a) I<|gHR 9 (List.map (V.int .i64) b) I (dw _ (V.int .i64) (λ_=>I) b) I<|gHR 10 (List.map aD.w i) I (dw _ aD.w (λ_=>I) i) I<|gR 3 I<|qDs [0] 14 15<|qDr (qR 0 4 2<|(4,3)::(qR 5 5 0 [])) I I<|gV 95 (qi (b.length:Int)) I (aK<|az (V.int .i64) _) I<|gLO 9 I (az (V.int .i64) _) λv=>qDr [(10,0)] I I<|gV 96 (qi<|(b.length:Int)-1) I (al (by have :=v;omega) I) I ?_;obtain⟨g,r,h⟩:=h;refine gV 96 (qi ((g:Nat):Int)) I (aI r) I ?_;obtain⟨hb,h⟩:=h;refine ce 11 (.repl 9<|.row 3 1<|List.map (V.int .i64)<|b.take g) I (by kernel_rfl) (dTr ab I I I I (by rw[az];exact hb)<|IL _ _ _) (okR I) I (by kernel_rfl) I I ?_;refine qDr [(12,0),(13,0),(14,1)] rfl rfl<|qDe<|gR 6 rfl<|qXiZ 100 8 rfl rfl rfl rfl h ?_ ?_<;>intro O h;refine gR 1 I<|qDs [0] 14 15<|qDr (qR 0 4 2<|(4,3)::(qR 5 5 0 [])) I I<|gV 110 (qi (a.length:Int)) I (aK<|az aj.w _) I<|gLO 8 I (az aj.w _) λx=>qDr [(10,0)] I I<|gV 111 (qi<|(a.length:Int)-1) I (al (by have :=x;omega) I) I ?_;obtain⟨j,s,h⟩:=h;refine gV 111 (qi ((j:Nat):Int)) I (aI s) I ?_;obtain⟨hb,h⟩:=h;refine ce 11 (.repl 8<|.row 189 2<|List.map aj.w<|a.take j) I (by kernel_rfl) (dTr ab I I I I (by rw[az];exact hb)<|IL _ _ _) (okR I) I (by kernel_rfl) I I ?_;refine qDr [(12,0),(13,0),(14,1)] I I<|qDe<|gR 3 I ?_;obtain⟨hb,h⟩:=h;exact gR 1 I<|gV 115 (qi ((e+1:Nat):Int)) I (al (by omega)<|by omega) I<|gR 2 I<|go_xloop<|qW G h [0,12,11,10];refine gR 5 I ?_;obtain⟨hb,h⟩:=h;exact gR 1 I<|gV 115 (qi ((e+1:Nat):Int)) I (al (by omega)<|by omega) I<|gR 2 I<|go_xloop<|qW G h [0,8,11,10]
theorem yf(m:Nat)(E:Tree)(G:Bool)(h:((E.kind=2)->∃a,dv E a∧a=G)∧((E.kind≠2)->false=G)):mV E G:=by
 refine⟨I,I,?_⟩;refine qA 10 [] func152 λK J=>?_;refine gR 3 rfl<|gFP 0 rfl rfl rfl rfl<|gR 9 rfl<|qBeZ 6 5 rfl rfl rfl rfl h ?_ ?_<;>intro h;refine gR 1 I ?_;obtain⟨a,b,h⟩:=h;refine qC0 b I<|gR 5 I ?_;subst h;exact qN [.tmp 2];refine gR 7 I ?_;subst h;exact qN [.tmp 2]
def dl(m:Nat)(E:Tree)(G:YI)(a:(List YI))(b:Int)(J:(List YI)):Prop:=z5 m [] f153 (z3<|.row 1<|List.map (λl=>V.row 1<|List.map (V.int .i64) l) J) (xK<|cB<|ac f153) [.blk 0,.seq<|xF<|xA<|ac f153] 82 [(1,.row 1<|List.map (V.int .i64) G),(2,.box (am E) 0),(5,qi (E.kids.length:Int)),(8,.sl 0),(9,qi b)] ⟨1,[(0,.row 36 1<|List.map (λl=>V.row 1<|List.map (V.int .i64) l) a)]⟩
def px(m:Nat)(E:Tree)(J:YI)(a:Tree)(b:(List YI))(c:Int)(O:(List YI)):Prop:=∀(K:Ctx) (G:Nat),aw K []->m<=G->Go prog K (bodyPost prog f153<|SP K<|z3<|.row 1<|List.map (λl=>V.row 1<|List.map (V.int .i64) l) O) (.ex .normal) [.seq<|cB<|xN<|cB<|xK<|cB<|ac f153,.blk 1,.seq<|xA<|xK<|cB<|ac f153,.loop (xK<|cB<|ac f153) G,.blk 0,.seq<|xF<|xA<|ac f153] 82 (mkF 82 0 [(1,.row 1<|List.map (V.int .i64) J),(2,.box (am E) 0),(5,qi (E.kids.length:Int)),(8,.sl 0),(9,qi c),(10,.ptr 1 0)]) ⟨2,[(1,.var 26<|am a),(0,.row 36 1<|List.map (λl=>V.row 1<|List.map (V.int .i64) l) b)]⟩
def gq(m:Nat)(E:Tree)(a:(List YI))(b:Nat)(G:(List YI)):Prop:=z5 m [] f153 (z3<|.row 1<|List.map (λl=>V.row 1<|List.map (V.int .i64) l) G) (xK<|xA<|ac f153) [.blk 2,.seq<|xF<|xH<|ac f153] 82 [(5,qi (E.kids.length:Int)),(8,.sl 0),(12,qi (b:Int))] ⟨1,[(0,.row 36 1<|List.map (λl=>V.row 1<|List.map (V.int .i64) l) a)]⟩
theorem vT(m:Nat)(p0:Tree)(p1:YI)(r0:(List YI))(h:∃d a,bF p0 p1 d a∧((a=false)->[]=r0)∧((a=true)->(((p1.length:Int)=0)->[]=r0)∧(((p1.length:Int)≠0)->∃b,p1[0]?=some b∧((b≠((p0.kids.length:Int)-1))->[]=r0)∧((b=((p0.kids.length:Int)-1))->dl m p0 p1 ([]:List YI) (p1.length:Int) r0)))):lq p0 p1 r0:=by
 refine⟨I,I,?_⟩;refine qA 82 [] func153 λK hK=>?_;refine gR 3 I<|gFP 0 I I I I<|gR 8 I<|gV 15 (qi (p0.kids.length:Int)) I (aK<|aG _) I<|gLB 14 I (aG _) λe=>gR 7 I ?_;obtain⟨d,a,g,h⟩:=h;refine qC0 g rfl<|gR 14 rfl<|qXhZ 24 23 rfl rfl rfl rfl h bI bJ ?_ ?_<;>intro hd h;refine gR 22 I ?_;subst h;exact go_sub (F':=(mkF 82 0 [(4,.row 1<|List.map (λl=>V.row 1<|List.map (V.int .i64) l) [])])) (H':=⟨0,[]⟩) [] [] I hK ⟨⟨_,I,(.nil 1)⟩,trivial⟩ trivial I<|qN [.tmp 4];refine gR 2 rfl<|gV 26 (qi (p1.length:Int)) rfl (aK<|az (V.int .i64) _) rfl<|gLB 25 rfl (az (V.int .i64) _) λi=>gR 3 rfl<|qXeZ 29 28 rfl rfl rfl rfl h ?_ ?_<;>intro hd h;refine gR 17 I ?_;subst h;exact go_sub (F':=(mkF 82 0 [(4,.row 1<|List.map (λl=>V.row 1<|List.map (V.int .i64) l) [])])) (H':=⟨0,[]⟩) [] [] I hK ⟨⟨_,I,(.nil 1)⟩,trivial⟩ trivial I<|qN [.tmp 4];refine gR 1 I ?_;obtain⟨b,c,h⟩:=h;refine gY (ar (an (f:=(V.int .i64)) c) ab rfl rfl rfl rfl) rfl rfl<|gR 3 rfl<|gV 34 (qi<|(p0.kids.length:Int)-1) rfl (al (by have :=e;omega) rfl) rfl<|gR 4 rfl<|qXh 36 rfl rfl rfl h iS eY ?_ ?_<;>intro hd h;refine gR 8 I ?_;subst h;exact go_sub (F':=(mkF 82 0 [(4,.row 1<|List.map (λl=>V.row 1<|List.map (V.int .i64) l) [])])) (H':=⟨0,[]⟩) [] [] I hK ⟨⟨_,I,(.nil 1)⟩,trivial⟩ trivial I<|qN [.tmp 4];exact gR 13 I<|gV 38 (qi (p1.length:Int)) I (aK<|az (V.int .i64) _) I<|gR 4 I<|go_loop m<|gNS 8 36 1 I I I I<|qW hK h [2]
theorem ou(m:Nat)(p0:Tree)(p1:YI)(c:(List YI))(a:Int)(r0:(List YI))(h:z8 (0<a) (InI (a-1)∧∃b,(a-1)=((b:Nat):Int)∧b<=p1.length∧∃d e,bF p0 (p1.take b) d e∧px m p0 p1 d c a r0)<|gq m p0 c 0 r0):dl (m+1) p0 p1 c a r0:=by
 refine qj λK j1 hK k=>?_;refine gR 7 rfl<|qXd 40 rfl rfl rfl h ?_ ?_<;>intro hd h;refine gR 6 I<|qDs [] 10 12<|qDr (qR 0 3 2 []) I I ?_;obtain⟨hb,h⟩:=h;refine qDr [(3,2)] I I<|gV 47 (qi<|a-1) I (al hb I) I ?_;obtain⟨b,g,h⟩:=h;refine gV 47 (qi ((b:Nat):Int)) I (aI g) I ?_;obtain⟨hb',h⟩:=h;refine gYd 4 I (by kernel_rfl) (Ab (az (V.int .i64) p1) ab I I ta (sX I) (aar _) hb'<|((Cd _ _ _ _).trans<|congrArg _<|mX _ _)) I I ?_;obtain⟨d,e,f,h⟩:=h;apply ig (i:=5) (j:=9) (by kernel_rfl) rfl rfl rfl rfl;exact(hJ (L':=[]) (by kernel_rfl) I I (sD f .rfl [] I)<|.inl I);exact(gy ab I I);exact qDr (qR 6 3 2 [(9,0),(10,1),(11,1)]) I I<|qDe<|qW hK h [0,1];refine bp 5 f (by kernel_rfl) I (by kernel_rfl) I I .rfl I I ?_;exact qDr [(6,0),(7,2),(8,2),(10,1),(11,1)] I I<|qDe<|qW hK h [0,1];exact gR 3 I<|go_xloopE<|gR 9 I<|go_loop m<|qW hK h [0]
theorem uS(m:Nat)(G:Tree)(E:YI)(g:Tree)(c:(List YI))(a:Int)(J:(List YI))(h:y5 g.kind 20 (InI (a-1)∧∃d,(a-1)=((d:Nat):Int)∧∃e,E[d]?=some e∧y5 e 1 (InI (a-1)∧∃b,(a-1)=((b:Nat):Int)∧b<=E.length∧(c++[(E.take b)]).length<=1000000000∧InI (a-1)∧dl m G E (c++[(E.take b)]) (a-1) J) (InI (a-1)∧dl m G E c (a-1) J))<|InI (a-1)∧dl m G E c (a-1) J):px (m+1) G E g c a J:=by
 refine qj λK j1 O n=>?_;refine gR 7 rfl<|qXeZ 55 54 rfl rfl rfl rfl h ?_ ?_<;>intro Z h;refine gR 2 I ?_;obtain⟨hb,h⟩:=h;refine gR 1 I<|gV 58 (qi<|a-1) I (al hb I) I ?_;obtain⟨d,j,h⟩:=h;refine gV 58 (qi ((d:Nat):Int)) I (aI j) I ?_;obtain⟨e,i,h⟩:=h;refine gY (ar (an (f:=(V.int .i64)) i) ab rfl rfl rfl rfl) rfl rfl<|gR 5 rfl<|qXe 62 rfl rfl rfl h ?_ ?_<;>intro Z h;refine gR 5 I ?_;obtain⟨hb,h⟩:=h;refine gR 1 I<|gV 66 (qi<|a-1) I (al hb I) I ?_;obtain⟨b,k,h⟩:=h;refine gV 66 (qi ((b:Nat):Int)) I (aI k) I ?_;obtain⟨U,h⟩:=h;refine gY (Ab (az (V.int .i64) E) ab I I ta (sX I) (aar _) U<|((Cd _ _ _ _).trans<|congrArg _<|mX _ _)) I I<|gR 1 I ?_;obtain⟨hb,h⟩:=h;refine gDo (.repl 0<|.row 36 1<|List.map (λl=>V.row 1<|List.map (V.int .i64) l)<|c++[(E.take b)]) (aX ab I I I I I (apM (λl=>V.row 1<|List.map (V.int .i64) l) c<|E.take b) (by rw[az];exact hb)) (okR I) I I I<|gR 6 I ?_;obtain⟨hb,h⟩:=h;exact gR 1 I<|gV 42 (qi<|a-1) I (al hb I) I<|gR 2 I<|go_xloop<|qW O h [3];refine gR 6 I ?_;obtain⟨hb,h⟩:=h;exact gR 1 I<|gV 42 (qi<|a-1) I (al hb I) I<|gR 2 I<|go_xloop<|qW O h [0];refine gR 15 I ?_;obtain⟨hb,h⟩:=h;exact gR 1 I<|gV 42 (qi<|a-1) I (al hb I) I<|gR 2 I<|go_xloop<|qW O h [0]
theorem oH(m:Nat)(E:Tree)(b:(List YI))(a:Nat)(G:(List YI))(h:InI ((E.kids.length:Int)-2)∧z8 ((a:Int)<((E.kids.length:Int)-2)) ((b++[[(a:Int)]]).length<=1000000000∧a+1<=9223372036854775807∧gq m E (b++[[(a:Int)]]) (a+1) G) (b=G)):gq (m+1) E b a G:=by
 refine qj λK O J c=>?_;refine gR 5 I ?_;obtain⟨hb,h⟩:=h;refine gR 1 rfl<|gV 72 (qi<|(E.kids.length:Int)-2) rfl (al hb rfl) rfl<|gR 3 rfl<|qXd 73 rfl rfl rfl h ?_ ?_<;>intro U h;refine gR 9 I<|gFR 1 I I I I<|gR 1 I ?_;obtain⟨hb,h⟩:=h;refine gDo (.repl 0<|.row 36 1<|List.map (λl=>V.row 1<|List.map (V.int .i64) l)<|b++[[(a:Int)]]) (aX ab I I I I I (apM (λl=>V.row 1<|List.map (V.int .i64) l) b [(a:Int)]) (by rw[az];exact hb)) (okR I) I I I<|gR 6 I ?_;obtain⟨hb,h⟩:=h;exact gR 1 I<|gV 75 (qi ((a+1:Nat):Int)) I (al (by omega)<|by omega) I<|gR 2 I<|go_xloop<|qW J h [3];refine gR 3 I<|go_xloopE<|gR 9 I<|gFR 0 I (cw _ (λ_=>I) _) I I ?_;subst h;exact qN [.tmp 4]
def gv(m:Nat)(E:Tree)(G:YB)(a:(List YI))(b:Nat)(J:YI)(O:Bool):Prop:=z5 m [] f102 (z3<|.tup [.row 1<|List.map (V.int .i64) J,.bool O]) (xI<|xH<|ac f102) [.blk 0,.seq<|xF<|ac f102] 43 [(2,.str G),(3,.box (am E) 0),(8,.row 1<|List.map (λl=>V.row 1<|List.map (V.int .i64) l) a),(9,qi (b:Int))] ⟨0,[]⟩
def pC(m:Nat)(G:Tree)(J:YB)(a:(List YI))(b:Tree)(c:Nat)(O:YI)(U:Bool):Prop:=∀(K:Ctx) (E:Nat),aw K []->m<=E->Go prog K (bodyPost prog f102<|SP K<|z3<|.tup [.row 1<|List.map (V.int .i64) O,.bool U]) (.ex .normal) [.seq<|cB<|xN<|cB<|xI<|xH<|ac f102,.blk 1,.seq<|xA<|xI<|xH<|ac f102,.loop (xI<|xH<|ac f102) E,.blk 0,.seq<|xF<|ac f102] 43 (mkF 43 0 [(2,.str J),(3,.box (am G) 0),(8,.row 1<|List.map (λl=>V.row 1<|List.map (V.int .i64) l) a),(9,qi (c:Int)),(10,.ptr 0 0)]) ⟨1,[(0,.var 26<|am b)]⟩
theorem pm(m:Nat)(p0:Tree)(p1:YI)(p2:YB)(r0:YI)(r1:Bool)(h:∃a,mV p0 a∧((a=false)->[]=r0∧false=r1)∧((a=true)->∃b,lq p0 p1 b∧gv m p0 p2 b 0 r0 r1)):gN p0 p1 p2 r0 r1:=by
 refine⟨I,I,?_⟩;refine qA 43 [] func102 λK hK=>?_;refine gR 3 I<|gFP 0 I I I I<|gR 8 I ?_;obtain⟨a,c,h⟩:=h;refine qC0 c rfl<|gR 3 rfl<|qXh 14 rfl rfl rfl h bI bJ ?_ ?_<;>intro hd h;refine gR 9 I ?_;obtain⟨rfl,rfl⟩:=h;exact go_sub (F':=(mkF 43 0 [(6,.row 1<|List.map (V.int .i64) []),(7,.bool false)])) (H':=⟨0,[]⟩) [] [] I hK ⟨⟨_,I,(.nil 1)⟩,pqq,trivial⟩ trivial I<|qN [.tmp 6,.tmp 7];refine gR 7 I ?_;obtain⟨b,d,h⟩:=h;exact qC0 d I<|gR 10 I<|go_loop m<|qW hK h []
theorem jB(m:Nat)(E:Tree)(U:YB)(a:(List YI))(b:Nat)(G:YI)(J:Bool)(h:z8 (b<a.length) (∃c,a[b]?=some c∧∃d g,bF E c d g∧pC m E U a d b G J)<|[]=G∧false=J):gv (m+1) E U a b G J:=by
 refine qj λK Z O o=>?_;refine gR 6 rfl<|gV 20 (qi (a.length:Int)) rfl (aK<|az (λl=>V.row 1<|List.map (V.int .i64) l) _) rfl<|gLB 19 rfl (az (λl=>V.row 1<|List.map (V.int .i64) l) _) λn=>gR 3 rfl<|qXh 21 rfl rfl rfl h bx bw ?_ ?_<;>intro hd h;refine gR 6 I<|qDs [] 10 12<|qDr (qR 0 3 2 []) I I ?_;obtain⟨c,e,h⟩:=h;refine gYd 3 I (by kernel_rfl) (ar (an (f:=(λl=>V.row 1<|List.map (V.int .i64) l)) e) ab I I I I) I I<|qDr [(4,2)] I I ?_;obtain⟨d,g,k,h⟩:=h;apply ig (i:=5) (j:=9) (by kernel_rfl) rfl rfl rfl rfl;exact(hJ (L':=[]) (by kernel_rfl) I I (sD k .rfl [] I)<|.inl I);exact(gy ab I I);exact qDr (qR 6 3 2 [(9,0),(10,1),(11,1)]) I I<|qDe<|qW O h [0];refine bp 5 k (by kernel_rfl) I (by kernel_rfl) I I .rfl I I ?_;exact qDr [(6,0),(7,2),(8,2),(10,1),(11,1)] I I<|qDe<|qW O h [0];refine gR 3 I<|go_xloopE<|gR 9 I ?_;obtain⟨rfl,rfl⟩:=h;exact go_sub (F':=(mkF 43 0 [(6,.row 1<|List.map (V.int .i64) []),(7,.bool false)])) (H':=⟨0,[]⟩) [] [] I O ⟨⟨_,I,(.nil 1)⟩,pqq,trivial⟩ trivial I<|qN [.tmp 6,.tmp 7]
theorem ve(m:Nat)(O:Tree)(E:YB)(c:(List YI))(d:Tree)(a:Nat)(G:YI)(J:Bool)(h:y5 d.text E (∃b,c[a]?=some b∧b.length<=1000000000∧b=G∧true=J)<|a+1<=9223372036854775807∧gv m O E c (a+1) G J):pC (m+1) O E c d a G J:=by
 refine qj λK Z U g=>?_;refine gR 9 rfl<|qXe 36 rfl rfl rfl h ?_ ?_<;>intro hd h;refine gR 6 I ?_;obtain⟨b,e,h⟩:=h;refine gY (ar (an (f:=(λl=>V.row 1<|List.map (V.int .i64) l)) e) ab I I I I) I I<|gR 1 I ?_;obtain⟨hb,h⟩:=h;refine gDo (.repl 1<|.row 3 1<|List.map (V.int .i64) b) (aX ab I I I I I (aaj _) (by rw[az];exact hb)) (okR I) I I I<|gR 7 I<|go_xloopR<|gR 2 I<|gFR 2 I (cw _ (λ_=>I) _) I I ?_;obtain⟨rfl,rfl⟩:=h;exact qN [.tmp 6,.tmp 7];refine gR 6 I ?_;obtain⟨hb,h⟩:=h;exact gR 1 I<|gV 23 (qi ((a+1:Nat):Int)) I (al (by omega)<|by omega) I<|gR 2 I<|go_xloop<|qW U h []
structure ae where
 t:Tree
 parent:Int
 index:Int
 kids:(List Int)
abbrev ae.c(x:ae):List V:=[.int .i64 x.t.kind,.str x.t.text,.row 1 (x.t.leads.map .str),.row 4 (kidsV x.t.kids),.int .i64 x.parent,.int .i64 x.index,.row 1 (List.map (V.int .i64) x.kids)]
abbrev ae.w(x:ae):V:=.agg x.c
structure ah where
 module:Int
 number:Int
abbrev ah.c(x:ah):List V:=[.int .i64 x.module,.int .i64 x.number]
abbrev ah.w(x:ah):V:=.agg x.c
structure ak where
 N:Int
 Flag:Bool
 Text:(List UInt8)
 Ref:Int
abbrev ak.c(x:ak):List V:=[.int .i64 x.N,.bool x.Flag,.str x.Text,.int .i64 x.Ref]
structure ai where
 Id:Int
 Field:Int
 V_:ak
abbrev ai.c(x:ai):List V:=[.int .i64 x.Id,.int .i64 x.Field,.int .i64 x.V_.N,.bool x.V_.Flag,.str x.V_.Text,.int .i64 x.V_.Ref]
abbrev ai.w(x:ai):V:=.agg x.c
def By:KeyT prog 3 Int (V.int .i64):=PV underlying3
abbrev vF(a0:Int)(a1:V)(a2:YI)(a3:V):Ob:=.var 58 [.int .i64 a0,a1,.row 1 (List.map (V.int .i64) a2),a3,.sl 2]
abbrev vD(a0:Int)(a1:V)(a2:YB)(a3:Int):Ob:=.var 42 [.int .i64 a0,a1,.str a2,.int .i64 a3]
theorem vG(σ:YN)(l):renL σ (List.map ai.w l)=List.map ai.w l:=dw σ ai.w (λ_=>rfl) l
def sv(E:Tree)(G J:Int)(O:List ae):Prop:=qS 23 [.agg<|am E,qi G,qi J,.nils]<|.row 7<|List.map ae.w O
def kw(E:List ae)(G:Int)(J:YI)(O:Int):Prop:=qS 55 [.row 7<|List.map ae.w E,qi G,.row 1<|List.map (V.int .i64) J]<|qi O
def pc(E G:Int):Prop:=qS 58 [qi E]<|qi G
def oZ(E:Tree)(G:Int):Prop:=qS 99 [.agg<|am E]<|qi G
def db(d:Int)(a:(List<|List ae))(b:YI)(e:(List<|List<|Int×ah))(c:List ai)(E G J:Int):Prop:=co [] prog 57 [.ptr 0 0,qi E,qi G] ⟨3,[(2,.row 44 6<|List.map ai.w c),(1,.mps 61 3 105<|List.map (bz (V.int .i64) ah.w) e),(0,vF d (.row 1<|List.map (λl=>V.row 7<|List.map ae.w l) a) b<|.mm 1 .row)]⟩<|z4 (qi J) ⟨3,[(2,.row 44 6<|List.map ai.w c),(1,.mps 61 3 105<|List.map (bz (V.int .i64) ah.w) e),(0,vF d (.row 1<|List.map (λl=>V.row 7<|List.map ae.w l) a) b<|.mm 1 .row)]⟩
def ci(d:Int)(a:(List<|List ae))(b:YI)(e:(List<|List<|Int×ah))(f:List ai)(E G:Int)(J:ak)(g:List ai):Prop:=co [] prog 59 [.ptr 0 0,qi E,qi G,.agg<|ak.c J] ⟨3,[(2,.row 44 6<|List.map ai.w f),(1,.mps 61 3 105<|List.map (bz (V.int .i64) ah.w) e),(0,vF d (.row 1<|List.map (λl=>V.row 7<|List.map ae.w l) a) b<|.mm 1 .row)]⟩<|z4 (.tup []) ⟨3,[(2,.row 44 6<|List.map ai.w g),(1,.mps 61 3 105<|List.map (bz (V.int .i64) ah.w) e),(0,vF d (.row 1<|List.map (λl=>V.row 7<|List.map ae.w l) a) b<|.mm 1 .row)]⟩
def kE(e:Int)(a:(List<|List ae))(b:YI)(f:(List<|List<|Int×ah))(d:List ai)(E G:Int)(J:ak):Prop:=co [] prog 60 [.ptr 0 0,qi E,qi G] ⟨3,[(2,.row 44 6<|List.map ai.w d),(1,.mps 61 3 105<|List.map (bz (V.int .i64) ah.w) f),(0,vF e (.row 1<|List.map (λl=>V.row 7<|List.map ae.w l) a) b<|.mm 1 .row)]⟩<|z4 (.agg<|ak.c J) ⟨4,[(2,.row 44 6<|List.map ai.w d),(1,.mps 61 3 105<|List.map (bz (V.int .i64) ah.w) f),(0,vF e (.row 1<|List.map (λl=>V.row 7<|List.map ae.w l) a) b<|.mm 1 .row)]⟩
def jD(e:Int)(a:(List<|List ae))(b:YI)(f:(List<|List<|Int×ah))(d:List ai)(E G:Int)(J:ak):Prop:=co [] prog 61 [.ptr 0 0,qi E,qi G] ⟨3,[(2,.row 44 6<|List.map ai.w d),(1,.mps 61 3 105<|List.map (bz (V.int .i64) ah.w) f),(0,vF e (.row 1<|List.map (λl=>V.row 7<|List.map ae.w l) a) b<|.mm 1 .row)]⟩<|z4 (.agg<|ak.c J) ⟨4,[(2,.row 44 6<|List.map ai.w d),(1,.mps 61 3 105<|List.map (bz (V.int .i64) ah.w) f),(0,vF e (.row 1<|List.map (λl=>V.row 7<|List.map ae.w l) a) b<|.mm 1 .row)]⟩
def gD(c:Int)(a:(List<|List ae))(b:YI)(d:(List<|List<|Int×ah))(e:List ai)(E G:Int)(f:List ai):Prop:=co [] prog 26 [.ptr 0 0,qi E,qi G] ⟨3,[(2,.row 44 6<|List.map ai.w e),(1,.mps 61 3 105<|List.map (bz (V.int .i64) ah.w) d),(0,vF c (.row 1<|List.map (λl=>V.row 7<|List.map ae.w l) a) b<|.mm 1 .row)]⟩<|z4 (.tup []) ⟨3,[(2,.row 44 6<|List.map ai.w f),(1,.mps 61 3 105<|List.map (bz (V.int .i64) ah.w) d),(0,vF c (.row 1<|List.map (λl=>V.row 7<|List.map ae.w l) a) b<|.mm 1 .row)]⟩
def mA(m:Nat)(G:List ae)(E:YI)(a:Int)(b:Nat)(J:Int):Prop:=z5 m [] f55 (z3<|qi J) (xI<|cB<|ac f55) [.blk 0,.seq<|xA<|ac f55] 25 [(0,.row 7<|List.map ae.w G),(1,qi a),(9,.row 1<|List.map (V.int .i64) E),(10,qi (E.length:Int)),(11,qi (b:Int))] ⟨0,[]⟩
theorem AW(m:Nat)(p0:List ae)(p1:Int)(p2:YI)(r0:Int)(h:mA m p0 p2 p1 0 r0):kw p0 p1 p2 r0:=by
 refine⟨I,I,?_⟩;refine qA 25 [] func55 λK hK=>?_;exact gR 10 I<|gV 10 (qi (p2.length:Int)) I (aK<|az (V.int .i64) _) I<|gLB 9 I (az (V.int .i64) _) λa=>gR 4 I<|go_loop m<|qW hK h []
theorem sS(m:Nat)(G:List ae)(E:YI)(d:Int)(a:Nat)(J:Int)(h:z8 (a<E.length) (∃e,E[a]?=some e∧∃b,d=((b:Nat):Int)∧∃g,G[b]?=some g∧∃c,e=((c:Nat):Int)∧∃i,g.kids[c]?=some i∧a+1<=9223372036854775807∧mA m G E i (a+1) J)<|d=J):mA (m+1) G E d a J:=by
 refine qj λK U O p=>?_;refine gR 6 rfl<|qXh 12 rfl rfl rfl h bx bw ?_ ?_<;>intro Z h;refine gR 7 I ?_;obtain⟨e,j,h⟩:=h;refine gY (ar (an (f:=(V.int .i64)) j) ab I I I I) I I<|gR 7 I ?_;obtain⟨b,n,h⟩:=h;refine gV 16 (qi ((b:Nat):Int)) I (aI n) I ?_;obtain⟨g,k,h⟩:=h;refine gY (ar (an (f:=ae.w) k) ab I I I I) I I<|gR 3 I ?_;obtain⟨c,o,h⟩:=h;refine gV 20 (qi ((c:Nat):Int)) I (aI o) I ?_;obtain⟨i,l,h⟩:=h;refine gY (ar (an (f:=(V.int .i64)) l) ab I I I I) I I<|gR 6 I ?_;obtain⟨hb,h⟩:=h;exact gR 1 I<|gV 23 (qi ((a+1:Nat):Int)) I (al (by omega)<|by omega) I<|gR 2 I<|go_xloop<|qW O h [];refine gR 3 I<|go_xloopE<|gR 9 I ?_;subst h;exact qN [.tmp 6]
theorem zH(m:Nat)(E G:Int)(h:((E=1)->1=G)∧((E≠1)->((E=2)->2=G)∧((E≠2)->((E=3)->3=G)∧((E≠3)->((E=4)->4=G)∧((E≠4)->5=G))))):pc E G:=by
 refine⟨I,I,?_⟩;refine qA 12 [] func58 λK J=>?_;refine gR 18 rfl<|qBeZ 4 5 rfl rfl rfl rfl h ?_ ?_<;>intro h;refine gR 9 I ?_;subst h;exact qN [.tmp 2];refine gR 7 rfl<|qBeZ 6 7 rfl rfl rfl rfl h ?_ ?_<;>intro h;refine gR 9 I ?_;subst h;exact qN [.tmp 2];refine gR 7 rfl<|qBeZ 8 9 rfl rfl rfl rfl h ?_ ?_<;>intro h;refine gR 9 I ?_;subst h;exact qN [.tmp 2];refine gR 7 rfl<|qBeZ 10 11 rfl rfl rfl rfl h ?_ ?_<;>intro h;refine gR 9 I ?_;subst h;exact qN [.tmp 2];refine gR 10 I ?_;subst h;exact qN [.tmp 2]
def jU(m:Nat)(E:Tree)(a:Bool)(G:Int):Prop:=z6 [] f99 (z3<|qi G) (cB<|xE<|cB<|ac f99) [.blk 0,.seq<|xA<|ac f99] 18 [(1,.box (am E) 0),(4,qi E.kind),(5,.bool a)] ⟨0,[]⟩
theorem zG(m:Nat)(E:Tree)(J:Int)(h:((E.kind=1)->jU m E true J)∧((E.kind≠1)->((E.kind=16)->jU m E true J)∧((E.kind≠16)->jU m E (E.kind==18) J))):oZ E J:=by
 refine⟨I,I,?_⟩;refine qA 18 [] func99 λK G=>?_;refine gR 3 rfl<|gFP 0 rfl rfl rfl rfl<|gR 18 rfl<|qBeZ 5 6 rfl rfl rfl rfl h ?_ ?_<;>intro h;exact gR 3 I<|qJ G (h K G) [];refine gR 7 rfl<|qBeZ 5 7 rfl rfl rfl rfl h ?_ ?_<;>intro h;exact gR 3 I<|qJ G (h K G) [];exact gR 6 I<|qJ G (h K G) []
theorem mI(m:Nat)(E:Tree)(a:Bool)(G:Int)(h:z9 a ((E.kids.length:Int)=G)<|y5 E.kind 2 (((E.kids.length:Int)-2)=G)<|0=G):jU (m+1) E a G:=by
 intro K O;refine qXi 5 rfl rfl rfl h ?_ ?_<;>intro J h;refine gR 6 I<|gV 11 (qi (E.kids.length:Int)) I (aK (aG _)) I<|gLB 10 I (aG _) λc=>gR 6 I ?_;subst h;exact qN [.tmp 2];refine gR 7 rfl<|qXeZ 12 13 rfl rfl rfl rfl h ?_ ?_<;>intro J h;refine gR 6 I<|gV 16 (qi (E.kids.length:Int)) I (aK<|aG _) I<|gLB 15 I (aG _) λb=>gR 1 I<|gV 17 (qi<|(E.kids.length:Int)-2) I (al (by have :=b;omega) I) I<|gR 6 I ?_;subst h;exact qN [.tmp 2];refine gR 10 I ?_;subst h;exact qN [.tmp 2]
theorem wR(m:Nat)(c:Int)(g:(List<|List ae))(b:YI)(j:(List<|List<|Int×ah))(i:List ai)(G E J:Int)(h:∃d,G=((d:Nat):Int)∧∃a,b[d]?=some a∧InI (a+E)∧InI ((a+E)+1)∧∃e l,mJ c ((a+E)+1) e l∧e=J):db c g b j i G E J:=by
 refine qA 28 [1,0] func57 λK O=>?_;refine gR 6 I<|qDs [0] 18 20<|qDr (qR 0 3 2<|(3,3)::(qR 4 3 2 [(7,3),(8,2)])) I I ?_;obtain⟨d,n,h⟩:=h;refine gV 18 (qi ((d:Nat):Int)) I (aI n) I ?_;obtain⟨a,k,h⟩:=h;refine gYd 9 I (by kernel_rfl) (ar (an (f:=(V.int .i64)) k) ab I I I I) I I<|qDr [(10,2),(11,0)] I I ?_;obtain⟨hb,h⟩:=h;refine qDr [(12,0)] I I<|gV 22 (qi<|a+E) I (al hb I) I ?_;obtain⟨hb,h⟩:=h;refine qDr [(13,0)] I I<|gV 23 (qi<|(a+E)+1) I (al hb I) I ?_;obtain⟨e,l,o,h⟩:=h;refine bp 14 o (by kernel_rfl) I (by kernel_rfl) I I .rfl I I ?_;refine qDr [(15,0),(16,2),(17,2),(18,1),(19,1)] I I<|qDe<|gR 8 I ?_;subst h;exact gE O [] [(6,qi e)] [0,1,2] [.tmp 6]
theorem wm(m:Nat)(e:Int)(c:(List<|List ae))(d:YI)(f:(List<|List<|Int×ah))(a:List ai)(G J:Int)(E:ak)(b:List ai)(h:((¬(E.N=0∧E.Flag=false∧E.Text=[]∧E.Ref=0))->(a++[(ai.mk G J E)]).length<=1000000000∧(a++[(ai.mk G J E)])=b)∧((E.N=0∧E.Flag=false∧E.Text=[]∧E.Ref=0)->a=b)):ci e c d f a G J E b:=by
 refine qA 24 [1,0] func59 λK U=>?_;refine gR 3 rfl<|gFP 3 rfl rfl rfl rfl<|gR 6 rfl<|gY (v:=.bool<|!(ep E.N E.Flag E.Text E.Ref 0 false [] 0)) (yy (neg:=true) (r:=(ep E.N E.Flag E.Text E.Ref 0 false [] 0)) (by kernel_rfl) rfl rfl rfl rfl<|vq underlying42 (by kernel_rfl) (by decide) ⟨rfl,rfl,rfl,rfl⟩ underlying3 underlying4 underlying9 underlying3 _ _ _ _ _ _ _ _) rfl rfl<|gR 2 rfl<|qBh 10 rfl rfl rfl h (λO=>AZ<|bI O) (λO=>Bn<|bJ O) ?_ ?_<;>intro h;refine gR 1 I<|qDs [0] 13 14<|qDr (qR 0 4 2<|(4,3)::(5,2)::(6,2)::(qR 7 3 0 [])) I I ?_;obtain⟨hb,h⟩:=h;refine ce 10 (.repl 2<|.row 44 6<|List.map ai.w<|a++[(ai.mk G J E)]) I (by kernel_rfl) (aX ab I I I I I (apM ai.w a<|ai.mk G J E) (by rw[az];exact hb)) (okR I) I (by kernel_rfl) I I ?_;refine qDr [(11,0),(12,0),(13,1)] I I<|qDe ?_;subst h;exact gE U [] [] [0,1,5] [];refine gR 2 I ?_;subst h;exact gE U [] [] [0,1,2] []
theorem oL(m:Nat)(k:Int)(e:(List<|List ae))(i:YI)(n:(List<|List<|Int×ah))(b:List ai)(G O:Int)(J:ak)(h:∃q,G=((q:Nat):Int)∧∃x,e[q]?=some x∧∃r,O=((r:Nat):Int)∧∃d,x[r]?=some d∧z8 (d.parent<0) ((ak.mk 1 false [] 0)=J) (∃g,db k e i n b G d.parent g∧∃s,G=((s:Nat):Int)∧∃y,e[s]?=some y∧∃v,d.parent=((v:Nat):Int)∧∃z,y[v]?=some z∧∃a,oZ z.t a∧z8 (d.index<a) (∃p,nO a p∧∃o,d.index=((o:Nat):Int)∧∃j,p[o]?=some j∧(ak.mk 0 false j g)=J) (InI (d.index-a)∧InI ((d.index-a)+1)∧(ak.mk ((d.index-a)+1) false [] g)=J))):kE k e i n b G O J:=by
 refine qA 63 [1,0] func60 λK E=>?_;refine gR 12 I ?_;obtain⟨q,η,h⟩:=h;refine gV 15 (qi ((q:Nat):Int)) I (aI η) I ?_;obtain⟨x,β,h⟩:=h;refine gY (ar (an (f:=(λl=>V.row 7<|List.map ae.w l)) β) ab I I I I) I I<|gR 2 I ?_;obtain⟨r,θ,h⟩:=h;refine gV 18 (qi ((r:Nat):Int)) I (aI θ) I ?_;obtain⟨d,γ,h⟩:=h;refine gY (ar (an (f:=ae.w) γ) ab rfl rfl rfl rfl) rfl rfl<|gR 13 rfl<|qBd 23 rfl rfl rfl h ?_ ?_<;>intro h;refine gR 9 I ?_;subst h;exact gE E [(3,vD ((ak.mk 1 false [] 0).N) (.bool<|(ak.mk 1 false [] 0).Flag) ((ak.mk 1 false [] 0).Text)<|(ak.mk 1 false [] 0).Ref)] [(6,.ptr 3 0)] [0,1,2,3] [.cell 6 42];refine gR 9 I ?_;obtain⟨g,μ,h⟩:=h;refine qC μ [0,1,2] ?_;refine gHR 7 (List.map ai.w b) I (vG _ b) I<|gR 4 I<|qDs [0,4] 13 14<|qDr (qR 0 3 2 [(3,3),(4,2)]) I I ?_;obtain⟨s,ι,h⟩:=h;refine gV 34 (qi ((s:Nat):Int)) I (aI ι) I ?_;obtain⟨y,δ,h⟩:=h;refine gYd 5 I (by kernel_rfl) (ar (an (f:=(λl=>V.row 7<|List.map ae.w l)) δ) ab I I I I) I I<|qDr [(6,2),(7,2),(8,3)] I I ?_;obtain⟨v,κ,h⟩:=h;refine gV 38 (qi ((v:Nat):Int)) I (aI κ) I ?_;obtain⟨z,ε,h⟩:=h;refine gYd 9 I (by kernel_rfl) (ar (an (f:=ae.w) ε) ab I I I I) I I<|qDr [(10,2),(11,2),(12,0),(13,1)] I I<|qDe<|gR 4 I ?_;obtain⟨a,ν,h⟩:=h;refine qC0 ν rfl<|gR 12 rfl<|qBd 47 rfl rfl rfl h ?_ ?_<;>intro h;refine gR 1 I<|go_sub (F':=(mkF 63 0 [(6,.ptr 2 0),(7,.ptr 3 0),(8,qi g),(10,qi a)])) (H':=⟨5,[(4,.row 44 6<|List.map ai.w b),(3,.var 98<|ae.c d),(2,vD 0 (.bool false) [] 0),(1,.mps 61 3 105<|List.map (bz (V.int .i64) ah.w) n),(0,.var 58 [qi k,.row 1<|List.map (λl=>V.row 7<|List.map ae.w l) e,.row 1<|List.map (V.int .i64) i,.mm 1 .row,.sl 4])]⟩) [0,1,3,4,7] [1,0] I E pq4 ⟨⟨_,I,I,I,(vG _ b).symm⟩,pqo I I,pqo I I,⟨_,I,I,I,I,I⟩,(pqo1 I I)⟩ I ?_;refine gR 1 I<|qDs [3] 8 9<|qDr [(0,2),(1,2),(3,2),(4,3)] I I ?_;obtain⟨p,ξ,h⟩:=h;refine bp 2 ξ (by kernel_rfl) I (by kernel_rfl) I I .rfl I I ?_;obtain⟨o,ζ,h⟩:=h;refine gV 52 (qi ((o:Nat):Int)) I (aI ζ) I ?_;obtain⟨j,α,h⟩:=h;refine cc 5 I (by kernel_rfl) (ar (an (f:=V.str) α) ab I I I I) I I ?_;refine qDr [(6,0),(7,0),(8,1)] I I<|qDe<|gR 3 I ?_;subst h;exact gE E [(3,.var 42<|ak.c<|ak.mk 0 false j g)] [(6,.ptr 3 0)] [0,1,4,2] [.cell 6 42];refine gR 3 I<|go_sub (F':=(mkF 63 0 [(6,.ptr 2 0),(7,.ptr 3 0),(8,qi g),(10,qi a)])) (H':=⟨5,[(4,.row 44 6<|List.map ai.w b),(3,.var 98<|ae.c d),(2,vD 0 (.bool false) [] 0),(1,.mps 61 3 105<|List.map (bz (V.int .i64) ah.w) n),(0,.var 58 [qi k,.row 1<|List.map (λl=>V.row 7<|List.map ae.w l) e,.row 1<|List.map (V.int .i64) i,.mm 1 .row,.sl 4])]⟩) [0,1,3,4,7] [1,0] I E pq4 ⟨⟨_,I,I,I,(vG _ b).symm⟩,pqo I I,pqo I I,⟨_,I,I,I,I,I⟩,(pqo1 I I)⟩ I ?_;refine gR 6 I ?_;obtain⟨hb,h⟩:=h;refine gR 1 I<|gV 60 (qi<|d.index-a) I (al hb I) I ?_;obtain⟨hb,h⟩:=h;refine gR 1 I<|gV 61 (qi<|(d.index-a)+1) I (al hb I) I<|gR 5 I ?_;subst h;exact gE E [(3,vD ((ak.mk ((d.index-a)+1) false [] g).N) (.bool<|(ak.mk ((d.index-a)+1) false [] g).Flag) ((ak.mk ((d.index-a)+1) false [] g).Text)<|(ak.mk ((d.index-a)+1) false [] g).Ref)] [(6,.ptr 3 0)] [0,1,4,2] [.cell 6 42]
def iT(m:Nat)(f:Int)(a:(List<|List ae))(b:YI)(g:(List<|List<|Int×ah))(d:List ai)(E:Int)(e:ae)(i j:Int)(k:Bool)(G:ak):Prop:=z6 [1,0] f61 (z4 (.agg<|ak.c G) ⟨4,[(2,.row 44 6<|List.map ai.w d),(1,.mps 61 3 105<|List.map (bz (V.int .i64) ah.w) g),(0,vF f (.row 1<|List.map (λl=>V.row 7<|List.map ae.w l) a) b<|.mm 1 .row)]⟩) (xF<|ac f61) [] 69 [(0,.ptr 0 0),(1,qi E),(6,.ptr 2 0),(7,.ptr 3 0),(8,.ptr 4 0),(9,.ptr 5 0),(10,.bool k)] ⟨7,[(6,.row 44 6<|List.map ai.w d),(5,.var 105 [qi i,qi j]),(4,vD e.t.kind (.bool false) e.t.text 0),(3,vC e.t.kind e.t.text e.t.leads e.t.kids),(2,vD 0 (.bool false) [] 0),(1,.mps 61 3 105<|List.map (bz (V.int .i64) ah.w) g),(0,.var 58 [qi f,.row 1<|List.map (λl=>V.row 7<|List.map ae.w l) a,.row 1<|List.map (V.int .i64) b,.mm 1 .row,.sl 6])]⟩
theorem ud(m:Nat)(i:Int)(b:(List<|List ae))(d:YI)(a:(List<|List<|Int×ah))(e:List ai)(G E:Int)(O:ak)(h:∃o,G=((o:Nat):Int)∧∃t,b[o]?=some t∧∃p,E=((p:Nat):Int)∧∃q,t[p]?=some q∧∃r,G=((r:Nat):Int)∧∃j,a[r]?=some j∧((dU E j=none)->iT m i b d a e G q 0 0 false O)∧(∀(n:ah),dU E j=some n->iT m i b d a e G q n.module n.number true O)):jD i b d a e G E O:=by
 refine qA 69 [1,0] func61 λK J=>?_;refine gR 12 I ?_;obtain⟨o,z,h⟩:=h;refine gV 15 (qi ((o:Nat):Int)) I (aI z) I ?_;obtain⟨t,x,h⟩:=h;refine gY (ar (an (f:=(λl=>V.row 7<|List.map ae.w l)) x) ab I I I I) I I<|gR 2 I ?_;obtain⟨p,α,h⟩:=h;refine gV 18 (qi ((p:Nat):Int)) I (aI α) I ?_;obtain⟨q,y,h⟩:=h;refine gY (ar (an (f:=ae.w) y) ab I I I I) I I<|gR 24 I ?_;obtain⟨r,β,h⟩:=h;refine gV 32 (qi ((r:Nat):Int)) I (aI β) I ?_;obtain⟨j,g,h⟩:=h;refine gY (Ip underlying56 (by kernel_rfl) I I I (by rw[aan];exact(List.getElem?_eq_some_iff.1 g).1)) I I ?_;refine gDo (.nop) (Sw (by kernel_rfl) I I (by rw[aan];exact(List.getElem?_eq_some_iff.1 g).1)) trivial I I I ?_;refine gR 1 I ?_;rcases s:dU E j with _|n
 replace h:=h.1 s;exact gDo (v:=some<|.tup [.agg [qi 0,qi 0],.bool false]) (.nop) (Rl By (encV:=ah.w) (k:=E) (L:=a) (l:=j) (zv:=.agg [qi 0,qi 0]) s underlying61 zeroValue105 (by kernel_rfl) I I I g I) trivial I I I<|gR 8 I<|qJ J (h K J) [0,1,3,4,5,6,2];replace h:=h.2 n s;exact gDo (v:=some<|.tup [.agg<|ah.c n,.bool true]) (.nop) (Rp By (encV:=ah.w) (k:=E) (L:=a) (l:=j) (zv:=.agg [qi 0,qi 0]) s underlying61 zeroValue105 (by kernel_rfl) I I I g I) trivial I I I<|gR 8 I<|qJ J (h K J) [0,1,3,4,5,6,2]
theorem mH(m:Nat)(j:Int)(f:(List<|List ae))(g:YI)(k:(List<|List<|Int×ah))(c:List ai)(J:Int)(a:ae)(i n:Int)(l:Bool)(E:ak)(h:y4 l ((ak.mk a.t.kind false a.t.text 0)=E)<|∃b,db j f g k c i n b∧y5 a.t.kind 16 (y5 i J (∃d,fI a.t.text d∧(ak.mk a.t.kind d [] b)=E)<|(ak.mk a.t.kind false [] b)=E) (y5 a.t.kind 9 (y5 i J (∃e,fI a.t.text e∧(ak.mk a.t.kind e [] b)=E)<|(ak.mk a.t.kind false [] b)=E)<|(ak.mk a.t.kind false [] b)=E)):iT (m+1) j f g k c J a i n l E:=by
 intro K G;refine gR 7 rfl<|qBh 40 rfl rfl rfl h bI bJ ?_ ?_<;>intro h;refine gR 9 I ?_;subst h;exact gE G [(3,.var 42 (ak.c (ak.mk a.t.kind false a.t.text 0)))] [(6,.ptr 3 0)] [0,1,6,2] [.cell 6 42];refine gR 16 I ?_;obtain⟨b,o,h⟩:=h;refine qC o [0,1,6] ?_;refine gHR 9 (List.map ai.w c) rfl (vG _ c) rfl<|gR 11 rfl<|qBeZ 53 52 rfl rfl rfl rfl h ?_ ?_<;>intro h;refine gR 13 rfl<|qBeZ 62 61 rfl rfl rfl rfl h ?_ ?_<;>intro h;refine gR 2 I ?_;obtain⟨d,p,h⟩:=h;refine qC0 p I<|gR 12 I ?_;subst h;exact gE G [(3,vD ((ak.mk a.t.kind d [] b).N) (.bool ((ak.mk a.t.kind d [] b).Flag)) ((ak.mk a.t.kind d [] b).Text) ((ak.mk a.t.kind d [] b).Ref))] [(6,.ptr 3 0)] [0,1,9,2] [.cell 6 42];refine gR 15 I ?_;subst h;exact gE G [(3,vD ((ak.mk a.t.kind false [] b).N) (.bool ((ak.mk a.t.kind false [] b).Flag)) ((ak.mk a.t.kind false [] b).Text) ((ak.mk a.t.kind false [] b).Ref))] [(6,.ptr 3 0)] [0,1,9,2] [.cell 6 42];refine gR 6 rfl<|qBe 57 rfl rfl rfl h ?_ ?_<;>intro h;refine gR 7 rfl<|qBeZ 62 61 rfl rfl rfl rfl h ?_ ?_<;>intro h;refine gR 2 I ?_;obtain⟨e,q,h⟩:=h;refine qC0 q I<|gR 12 I ?_;subst h;exact gE G [(3,vD ((ak.mk a.t.kind e [] b).N) (.bool ((ak.mk a.t.kind e [] b).Flag)) ((ak.mk a.t.kind e [] b).Text) ((ak.mk a.t.kind e [] b).Ref))] [(6,.ptr 3 0)] [0,1,9,2] [.cell 6 42];refine gR 15 I ?_;subst h;exact gE G [(3,vD ((ak.mk a.t.kind false [] b).N) (.bool ((ak.mk a.t.kind false [] b).Flag)) ((ak.mk a.t.kind false [] b).Text) ((ak.mk a.t.kind false [] b).Ref))] [(6,.ptr 3 0)] [0,1,9,2] [.cell 6 42];refine gR 10 I ?_;subst h;exact gE G [(3,vD ((ak.mk a.t.kind false [] b).N) (.bool ((ak.mk a.t.kind false [] b).Flag)) ((ak.mk a.t.kind false [] b).Text) ((ak.mk a.t.kind false [] b).Ref))] [(6,.ptr 3 0)] [0,1,9,2] [.cell 6 42]
def cD(m:Nat)(c:Int)(a:(List<|List ae))(b:YI)(d:(List<|List<|Int×ah))(f:ae)(g:Int)(i:List ai)(j:Nat)(e:List ai):Prop:=z5 m [1,0] f26 (z4 (.tup []) ⟨3,[(2,.row 44 6<|List.map ai.w e),(1,.mps 61 3 105<|List.map (bz (V.int .i64) ah.w) d),(0,vF c (.row 1<|List.map (λl=>V.row 7<|List.map ae.w l) a) b<|.mm 1 .row)]⟩) (cL<|cK<|xF<|xH<|ac f26) [.blk 0] 72 [(0,.ptr 0 0),(7,qi g),(57,.row 1<|List.map V.str f.t.leads),(58,qi (f.t.leads.length:Int)),(59,qi (j:Int))] ⟨3,[(2,.row 44 6<|List.map ai.w i),(1,.mps 61 3 105<|List.map (bz (V.int .i64) ah.w) d),(0,vF c (.row 1<|List.map (λl=>V.row 7<|List.map ae.w l) a) b<|.mm 1 .row)]⟩
theorem sf(m:Nat)(c:Int)(a:(List<|List ae))(b:YI)(d:(List<|List<|Int×ah))(g:List ai)(p1 p2:Int)(o:List ai)(h:∃s,p1=((s:Nat):Int)∧∃x,a[s]?=some x∧∃v,p2=((v:Nat):Int)∧∃e,x[v]?=some e∧∃i,db c a b d g p1 p2 i∧∃q,pc e.t.kind q∧∃p,ci c a b d g i 1 (ak.mk q false [] 0) p∧∃y,kE c a b d p p1 p2 y∧∃n,ci c a b d p i 2 y n∧y5 q 5 (∃r,jD c a b d n p1 p2 r∧∃j,ci c a b d n i 4 r j∧cD m c a b d e i j 0 o) (∃k,ci c a b d n i 3 (ak.mk 0 false e.t.text 0) k∧cD m c a b d e i k 0 o)):gD c a b d g p1 p2 o:=by
 refine qA 72 [1,0] func26 λK hK=>?_;refine gR 7 I ?_;obtain⟨s,β,h⟩:=h;refine gV 15 (qi ((s:Nat):Int)) I (aI β) I ?_;obtain⟨x,z,h⟩:=h;refine gY (ar (an (f:=(λl=>V.row 7<|List.map ae.w l)) z) ab I I I I) I I<|gR 2 I ?_;obtain⟨v,γ,h⟩:=h;refine gV 18 (qi ((v:Nat):Int)) I (aI γ) I ?_;obtain⟨e,α,h⟩:=h;refine gY (ar (an (f:=ae.w) α) ab I I I I) I I<|gR 11 I ?_;obtain⟨i,δ,h⟩:=h;refine qC δ [0,1,2] ?_;refine gHR 6 (List.map ai.w g) I (vG _ g) I<|gR 7 I ?_;obtain⟨q,ε,h⟩:=h;refine qC0 ε I<|gR 9 I ?_;obtain⟨p,ζ,h⟩:=h;refine qC ζ [0,1,6] ?_;refine gHR 9 (List.map ai.w p) I (vG _ p) I<|gR 9 I ?_;obtain⟨y,η,h⟩:=h;refine qC η [0,1,9] ?_;refine gHR 12 (List.map ai.w p) I (vG _ p) I ?_;obtain⟨n,θ,h⟩:=h;refine qC θ [0,1,12] ?_;refine gHR 16 (List.map ai.w n) rfl (vG _ n) rfl<|gR 9 rfl<|qXe 42 rfl rfl rfl h ?_ ?_<;>intro hd h;refine gR 7 I ?_;obtain⟨r,ι,h⟩:=h;refine qC ι [0,1,16] ?_;refine gHR 19 (List.map ai.w n) I (vG _ n) I ?_;obtain⟨j,κ,h⟩:=h;refine qC κ [0,1,19] ?_;refine gHR 23 (List.map ai.w j) I (vG _ j) I<|gR 2 I<|go_sub (F':=(mkF 72 0 [(0,.ptr 0 0),(6,.ptr 2 0),(7,qi i)])) (H':=⟨4,[(3,.row 44 6<|List.map ai.w j),(2,vC e.t.kind e.t.text e.t.leads e.t.kids),(1,.mps 61 3 105<|List.map (bz (V.int .i64) ah.w) d),(0,.var 58 [qi c,.row 1<|List.map (λl=>V.row 7<|List.map ae.w l) a,.row 1<|List.map (V.int .i64) b,.mm 1 .row,.sl 3])]⟩) [0,1,3,23] [1,0] I hK pq3 ⟨⟨_,I,I,I,(vG _ j).symm⟩,pqo I I,⟨_,I,I,I,I,I⟩,(pqo1 I I)⟩ I ?_;exact gR 5 I<|gV 58 (qi (e.t.leads.length:Int)) I (aK<|az V.str _) I<|gLB 57 I (az V.str _) λν=>gR 4 I<|go_loop m<|qW hK h [0,1,3];refine gR 7 I ?_;obtain⟨k,μ,h⟩:=h;refine qC μ [0,1,16] ?_;refine gHR 19 (List.map ai.w k) I (vG _ k) I<|gR 2 I<|go_sub (F':=(mkF 72 0 [(0,.ptr 0 0),(6,.ptr 2 0),(7,qi i)])) (H':=⟨4,[(3,.row 44 6<|List.map ai.w k),(2,vC e.t.kind e.t.text e.t.leads e.t.kids),(1,.mps 61 3 105<|List.map (bz (V.int .i64) ah.w) d),(0,.var 58 [qi c,.row 1<|List.map (λl=>V.row 7<|List.map ae.w l) a,.row 1<|List.map (V.int .i64) b,.mm 1 .row,.sl 3])]⟩) [0,1,3,19] [1,0] I hK pq3 ⟨⟨_,I,I,I,(vG _ k).symm⟩,pqo I I,⟨_,I,I,I,I,I⟩,(pqo1 I I)⟩ I ?_;exact gR 5 I<|gV 58 (qi (e.t.leads.length:Int)) I (aK<|az V.str _) I<|gLB 57 I (az V.str _) λξ=>gR 4 I<|go_loop m<|qW hK h [0,1,3]
theorem kK(m:Nat)(e:Int)(b:(List<|List ae))(c:YI)(g:(List<|List<|Int×ah))(i:ae)(k:Int)(l:List ai)(a:Nat)(d:List ai)(h:z8 (a<i.t.leads.length) (∃n,i.t.leads[a]?=some n∧8+a<=9223372036854775807∧∃j,ci e b c g l k ((8+a:Nat):Int) (ak.mk 0 false n 0) j∧a+1<=9223372036854775807∧cD m e b c g i k j (a+1) d)<|l=d):cD (m+1) e b c g i k l a d:=by
 refine qj λK G E q=>?_;refine gR 6 rfl<|qXh 60 rfl rfl rfl h bx bw ?_ ?_<;>intro J h;refine gR 8 I ?_;obtain⟨n,o,h⟩:=h;refine gY (ar (an (f:=V.str) o) ab I I I I) I I<|gR 9 I ?_;obtain⟨hb,h⟩:=h;refine gR 1 I<|gV 67 (qi ((8+a:Nat):Int)) I (al (by omega)<|by omega) I<|gR 2 I ?_;obtain⟨j,p,h⟩:=h;refine qC p [0,1,2] ?_;refine gHR 5 (List.map ai.w j) I (vG _ j) I<|gR 4 I ?_;obtain⟨hb,h⟩:=h;exact gR 1 I<|gV 71 (qi ((a+1:Nat):Int)) I (al (by omega)<|by omega) I<|gR 2 I<|go_xloop<|qW E h [0,1,5];refine gR 3 I<|go_xloopE<|gR 1 I ?_;subst h;exact gE E [] [] [0,1,2] []
mutual
def flatK:Tree->Int->Int->Nat->List ae
 |.node k s l ks,par,ix,n=>⟨.node k s l ks,par,ix,fU ks<|n+1⟩::flatKs ks n 0 (n+1)
def flatKs:YT->Nat->Nat->Nat->List ae
 |[],_,_,_=>[]
 |t::r,a,i,n=>flatK t (a:Int) (i:Int) n++flatKs r a (i+1) (n+nN t)
end
theorem wD(t:Tree)(par ix:Int)(n:Nat):flatK t par ix n=⟨t,par,ix,fU t.kids<|n+1⟩::flatKs t.kids n 0 (n+1):=by cases t;simp only[flatK,Tree.kids]
theorem zS(t:Tree):∀(l:YT) (a i n:Nat),flatKs (l++[t]) a i n=flatKs l a i n++flatK t (a:Int) ((i+l.length:Nat):Int) (n+nNs l)
 |[],a,i,n=>by simp[flatKs,nNs]
 |u::r,a,i,n=>by simp only[aas,flatKs,zS t r,nNs,aai,aad];rw[show i+1+r.length=i+(r.length+1) by omega,show n+nN u+nNs r=n+(nN u+nNs r) by omega]
mutual
theorem flatK_len:∀(t:Tree) (par ix:Int) (n:Nat),(flatK t par ix n).length=nN t
 |.node k s l ks,par,ix,n=>by simp only[flatK,nN,aad,flatKs_len ks]
theorem flatKs_len:∀(l:YT) (a i n:Nat),(flatKs l a i n).length=nNs l
 |[],_,_,_=>rfl
 |t::r,a,i,n=>by simp only[flatKs,nNs,aac,flatK_len t,flatKs_len r]
end
theorem BE:∀(l:YT) (a i n j:Nat) (u:Tree) (k:Nat),l[j]?=some u->k<nN u->(flatKs l a i n)[nNs (l.take j)+k]?=(flatK u (a:Int) ((i+j:Nat):Int)<|n+nNs (l.take j))[k]?
 |[],a,i,n,j,u,k,h,_=>by simp at h
 |t::r,a,i,n,0,u,k,h,E=>by simp only[List.getElem?_cons_zero,aab]at h;subst h;simp only[List.take_zero,nNs,flatKs,Nat.zero_add,Nat.add_zero];rw[List.getElem?_append_left (by rw[flatK_len];exact E)]
 |t::r,a,i,n,j+1,u,k,h,E=>by simp only[List.take_succ_cons,nNs,flatKs];rw[List.getElem?_append_right (by rw[flatK_len];omega),flatK_len,show nN t+nNs (List.take j r)+k-nN t=nNs (List.take j r)+k by omega,BE r a (i+1) (n+nN t) j u k (by simpa using h) E];rw[show i+1+j=i+(j+1) by omega,show n+nN t+nNs (List.take j r)=n+(nN t+nNs (List.take j r)) by omega]
theorem Eu:∀(q:YI) (t u:Tree) (par ix:Int) (n:Nat),atK t q=some u->∃par' ix',(flatK t par ix n)[ay t q]?=some ⟨u,par',ix',fU u.kids<|n+ay t q+1⟩∧(q=[]->par'=par∧ix'=ix)∧(∀r i,q=r++[i]->par'=((n+ay t r:Nat):Int)∧ix'=i)
 |[],t,u,par,ix,n,h=>by simp only[atK,aab]at h;subst h;exact⟨par,ix,by rw[wD];simp[ay],λ_=>⟨rfl,rfl⟩,λr i h=>by simp at h⟩
 | i::q,t,u,par,ix,n,h=>by
  simp only[atK]at h;split at h
  ·cases h
  rename_i hi;split at h
  ·cases h
  rename_i y hy;have hb:=tc h;have hc:(flatK t par ix n)[ay t<|i::q]?=(flatK y (n:Int) i<|n+1+nNs (t.kids.take i.toNat))[ay y q]?:=by
   rw[wD,dZ hy,show 1+nNs (t.kids.take i.toNat)+ay y q=nNs (t.kids.take i.toNat)+ay y q+1 by omega,List.getElem?_cons_succ,BE t.kids n 0 (n+1) i.toNat y _ hy hb,Nat.zero_add,Int.toNat_of_nonneg<|by omega]
  obtain⟨par',ix',h1,h2,h3⟩:=Eu q y u (n:Int) i (n+1+nNs (t.kids.take i.toNat)) h;refine⟨par',ix',?_,λh=>by simp at h,λr j hr=>?_⟩
  ·rw[hc,h1,dZ hy]
   congr 3;omega
  ·cases r with
   |nil=>
    simp only[aaj,List.cons.injEq]at hr;obtain⟨rfl,rfl⟩:=hr;obtain⟨e1,e2⟩:=h2 rfl;exact⟨by rw[e1];simp[ay],e2⟩
   |cons a r=>
    simp only[aas,List.cons.injEq]at hr;obtain⟨rfl,rfl⟩:=hr;obtain⟨e1,e2⟩:=h3 r j rfl;exact⟨by rw[e1,dZ hy];congr 1;omega,e2⟩
def Aj(n i:Nat):YB:=[UInt8.ofNat<|97+i*(650/(n+1))/25,UInt8.ofNat<|98+i*(650/(n+1))%25]
def sY(n:Nat):List YB:=(List.range n).map λi=>Aj n<|i+1
theorem DQ(n:Nat):(sY n).length=n:=by simp[sY]
theorem He{n i:Nat}(h:i<=n):i*(650/(n+1))<=650:=by
 have h1:=Nat.div_mul_le_self 650<|n+1;have h2:i*(650/(n+1))<=(n+1)*(650/(n+1)):=Nat.mul_le_mul_right _ (by omega);rw[Nat.mul_comm<|n+1]at h2;omega
theorem zz(n:Nat):Int.tdiv 650 ((n:Int)+1)=((650/(n+1):Nat):Int):=by rw[show(n:Int)+1=((n+1:Nat):Int) by omega];rfl
theorem Hw(a:Nat):Int.tdiv (a:Int) 25=((a/25:Nat):Int):=rfl
theorem Hq(a:Nat):Int.tmod (a:Int) 25=((a%25:Nat):Int):=rfl
theorem wC{α:Type}(f:Nat->α)(i:Nat):(List.range i).map f++[f i]=(List.range<|i+1).map f:=by rw[List.range_succ,aao];rfl
theorem Na(n:Nat)(hn:n<=400):nO (n:Int) (sY n):=by
 have loop:∀k i,k+i=n->iZ (k+1) (n:Int) ((List.range i).map λi=>Aj n<|i+1) i (sY n):=λk=>by
  induction k with
  |zero=>
   intro i hi;refine qX 0 _ _ _ _ (⟨λh=>by omega,λ_=>?_⟩);rw[show i=n by omega];rfl
  | succ k ih=>
   intro i hi;have hm:=He (n:=n) (i:=i+1) (by omega);have e1:(((i+1:Nat):Int)*(Int.tdiv 650 ((n:Int)+1)))=(((i+1)*(650/(n+1)):Nat):Int):=by rw[zz];exact(Int.natCast_mul _ _).symm
   have :=ih (i+1) (by omega);refine qX (k+1) _ _ _ _ (⟨λ_=>?_,λh=>by omega⟩);rw[e1,Hw,Hq];obtain⟨a,ha⟩:∃a,a=(i+1)*(650/(n+1)):=⟨_,rfl⟩;rw[<-ha]at hm⊢;have e2:([UInt8.ofNat (97+((a/25:Nat):Int)).toNat,UInt8.ofNat (97+(1+((a%25:Nat):Int))).toNat]:YB)=Aj n (i+1):=by rw[show(97+((a/25:Nat):Int)).toNat=97+a/25 by omega,show(97+(1+((a%25:Nat):Int))).toNat=98+a%25 by omega,Aj,ha]
   rw[e2,wC];have hd:a/25<=26:=by omega
   have hr:a%25<25:=Nat.mod_lt _ (by omega);exact⟨by omega,by constructor<;>omega,⟨by omega,by constructor<;>omega⟩,by constructor<;>omega,by constructor<;>omega,by omega,by constructor<;>omega,by constructor<;>omega,by constructor<;>omega,by simp;omega,by omega,this⟩
 refine yN (n+1) _ _ (⟨λh=>by omega,λ_=>⟨λh=>by omega,λ_=>⟨by constructor<;>omega,⟨by omega,?_⟩,loop n 0<|by omega⟩⟩⟩);have h6:650/(n+1)<=650:=Nat.div_le_self _ _;rw[zz];obtain⟨a,ha⟩:∃a,a=650/(n+1):=⟨_,rfl⟩;rw[<-ha]at h6⊢;constructor<;>omega
theorem JE(n:Nat)(hn:n<=400):lr (n:Int) (sY n):=by
 have loop:∀k i,k+i=n->gh (k+1) (n:Int) ((List.range i).map λi=>Aj n<|i+1) (i+1) (sY n):=λk=>by
  induction k with
  |zero=>
   intro i hi;refine oy 0 _ _ _ _ (⟨λh=>by omega,λ_=>?_⟩);rw[show i=n by omega];rfl
  | succ k ih=>
   intro i hi;have hm:=He (n:=n) (i:=i+1) (by omega);have e1:(((i+1:Nat):Int)*(Int.tdiv 650 ((n:Int)+1)))=(((i+1)*(650/(n+1)):Nat):Int):=by rw[zz];exact(Int.natCast_mul _ _).symm
   have :=ih (i+1) (by omega);refine oy (k+1) _ _ _ _ (⟨λ_=>?_,λh=>by omega⟩);rw[e1,Hw,Hq];obtain⟨a,ha⟩:∃a,a=(i+1)*(650/(n+1)):=⟨_,rfl⟩;rw[<-ha]at hm⊢;have e2:([UInt8.ofNat (97+((a/25:Nat):Int)).toNat,UInt8.ofNat (98+((a%25:Nat):Int)).toNat]:YB)=Aj n (i+1):=by rw[show(97+((a/25:Nat):Int)).toNat=97+a/25 by omega,show(98+((a%25:Nat):Int)).toNat=98+a%25 by omega,Aj,ha]
   rw[e2,wC];have hd:a/25<=26:=by omega
   have hr:a%25<25:=Nat.mod_lt _ (by omega);exact⟨by constructor<;>omega,⟨by omega,by constructor<;>omega⟩,by constructor<;>omega,by constructor<;>omega,by constructor<;>omega,by omega,by constructor<;>omega,by constructor<;>omega,by simp;omega,by omega,this⟩
 refine vO (n+1) _ _ (⟨λh=>by omega,λ_=>⟨λh=>by omega,λ_=>⟨by constructor<;>omega,⟨by omega,?_⟩,loop n 0<|by omega⟩⟩⟩);have h6:650/(n+1)<=650:=Nat.div_le_self _ _;rw[zz];obtain⟨a,ha⟩:∃a,a=650/(n+1):=⟨_,rfl⟩;rw[<-ha]at h6⊢;constructor<;>omega
def fx(b:Int):Bool:=decide<|1048576<=b∧b<34603008
def bM(b k:Int):Int×Int:=if fx b=true∧0<=k then(if 1048575-b%1048576<k then(0,17)else if b%1048576+k=0 then(0,5)else(b+k,0))else(0,5)
theorem Ov(b:Int):so b (fx b):=by
 refine Cm 0 _ _<|⟨λh=>?_,λh=>?_⟩
 ·simp only[fx];congr 1;apply propext;constructor<;>intro <;>omega
 ·simp only[fx];rw[decide_eq_false];omega
theorem Ch(b:Int):iK b (fx b):=by
 refine wT 0 _ _<|⟨λh=>?_,λh=>?_⟩
 ·simp only[fx];congr 1;apply propext;constructor<;>intro <;>omega
 ·simp only[fx];rw[decide_eq_false];omega
theorem AB(b k:Int)(G:k<=9000000000000000000):mJ b k (bM b k).1 (bM b k).2:=by
 refine Dq 0 _ _ _ _ (⟨_,Ov b,λh=>by simp[bM,h],λh=>⟨λE=>by rw[bM,if_neg<|by omega];exact⟨rfl,rfl⟩,λE=>?_⟩⟩);have hb:1048576<=b∧b<34603008:=by simpa[fx]using h
 rw[bM,if_pos ⟨h,by omega⟩];refine⟨by constructor<;>omega,by constructor<;>omega,λh1=>by rw[if_pos h1];exact⟨I,I⟩,λh1=>?_⟩;rw[if_neg h1];refine⟨by constructor<;>omega,by constructor<;>omega,_,_,Dm 0 _ _ _ _ (⟨λh=>by omega,λ_=>⟨λh=>by omega,λ_=>⟨λh2=>?_,λh2=>⟨λh=>by omega,λ_=>?_⟩⟩⟩⟩),I,I⟩
 ·rw[if_pos<|by omega];exact⟨rfl,rfl⟩
 ·rw[if_neg<|by omega];exact⟨by constructor<;>omega,⟨by omega,by omega,by omega,by omega,by omega⟩,by omega,I⟩
theorem Nl(b k:Int)(G:k<=9000000000000000000):mN b k (bM b k).1 (bM b k).2:=by
 refine xZ 1 _ _ _ _ (⟨_,Ch b,λh=>qr 0 _ _ _ _ _ (⟨λ_=>by simp[bM,h],λh=>by cases h⟩),λh=>qr 0 _ _ _ _ _<|⟨λE=>?_,λE=>?_⟩⟩)
 ·have :=of_decide_eq_true E;rw[bM,if_neg<|by omega];exact⟨rfl,rfl⟩
 ·have E:=of_decide_eq_false E;have hb:1048576<=b∧b<34603008:=by simpa[fx]using h
  have ht:Int.tmod b 1048576=b%1048576:=Int.tmod_eq_emod_of_nonneg (by omega);rw[ht,bM,if_pos ⟨h,by omega⟩];refine⟨by omega,by constructor<;>omega,λh1=>by rw[if_pos h1];exact⟨I,I⟩,λh1=>?_⟩;rw[if_neg h1];refine⟨by omega,by constructor<;>omega,λh2=>by rw[if_pos h2];exact⟨I,I⟩,λh2=>?_⟩;rw[if_neg h2];exact⟨by constructor<;>omega,I,I⟩
def gx(d:Int)(a:(List<|List ae))(b:YI)(e:(List<|List<|Int×ah))(c:List ai)(f:(List<|List<|Int×ah)):Prop:=co [] prog 24 [.ptr 0 0] ⟨3,[(2,.row 44 6<|List.map ai.w c),(1,.mps 61 3 105<|List.map (bz (V.int .i64) ah.w) e),(0,vF d (.row 1<|List.map (λl=>V.row 7<|List.map ae.w l) a) b<|.mm 1 .row)]⟩<|z4 (.tup []) ⟨3,[(2,.row 44 6<|List.map ai.w c),(1,.mps 61 3 105<|List.map (bz (V.int .i64) ah.w) f),(0,vF d (.row 1<|List.map (λl=>V.row 7<|List.map ae.w l) a) b<|.mm 1 .row)]⟩
def ib(d:Int)(a:(List<|List ae))(b:YI)(e:(List<|List<|Int×ah))(c:List ai)(E:YT)(f:(List<|List<|Int×ah)):Prop:=co [] prog 25 [.ptr 0 0,.row 4<|kidsV E] ⟨3,[(2,.row 44 6<|List.map ai.w c),(1,.mps 61 3 105<|List.map (bz (V.int .i64) ah.w) e),(0,vF d (.row 1<|List.map (λl=>V.row 7<|List.map ae.w l) a) b<|.mm 1 .row)]⟩<|z4 (.tup []) ⟨3,[(2,.row 44 6<|List.map ai.w c),(1,.mps 61 3 105<|List.map (bz (V.int .i64) ah.w) f),(0,vF d (.row 1<|List.map (λl=>V.row 7<|List.map ae.w l) a) b<|.mm 1 .row)]⟩
def dG(m:Nat)(d:Int)(a:(List<|List ae))(b:YI)(c:List ai)(f:Nat)(g:(List<|List<|Int×ah))(e:(List<|List<|Int×ah)):Prop:=z5 m [1,0] f24 (z4 (.tup []) ⟨3,[(2,.row 44 6<|List.map ai.w c),(1,.mps 61 3 105<|List.map (bz (V.int .i64) ah.w) e),(0,vF d (.row 1<|List.map (λl=>V.row 7<|List.map ae.w l) a) b<|.mm 1 .row)]⟩) (cL<|xD<|ac f24) [.blk 0] 70 [(0,.ptr 0 0),(11,.row 1<|List.map (λl=>V.row 7<|List.map ae.w l) a),(12,qi (a.length:Int)),(13,qi (f:Int))] ⟨3,[(2,.row 44 6<|List.map ai.w c),(1,.mps 61 3 105<|List.map (bz (V.int .i64) ah.w) g),(0,vF d (.row 1<|List.map (λl=>V.row 7<|List.map ae.w l) a) b<|.mm 1 .row)]⟩
def cG(m:Nat)(d:Int)(a:(List<|List ae))(b:YI)(c:List ai)(g:List ae)(f:ae)(i j k:Nat)(n:(List<|List<|Int×ah))(e:(List<|List<|Int×ah)):Prop:=∀(K:Ctx) (E G:Nat),aw K [1,0]->m<=E->m<=G->qLG K f24 (z4 (.tup []) ⟨3,[(2,.row 44 6<|List.map ai.w c),(1,.mps 61 3 105<|List.map (bz (V.int .i64) ah.w) e),(0,vF d (.row 1<|List.map (λl=>V.row 7<|List.map ae.w l) a) b<|.mm 1 .row)]⟩) (cL<|xL<|xN<|xA<|cL<|xD<|ac f24) [.loop (cL<|xL<|xN<|xA<|cL<|xD<|ac f24) E,.blk 2,.blk 1,.seq<|xH<|cL<|xD<|ac f24,.loop (cL<|xD<|ac f24) G,.blk 0] 70 (mkF 70 0 [(0,.ptr 0 0),(2,qi (j:Int)),(3,.row 7<|List.map ae.w g),(11,.row 1<|List.map (λl=>V.row 7<|List.map ae.w l) a),(12,qi (a.length:Int)),(13,qi (k:Int)),(21,.row 1<|List.map (V.int .i64) f.kids),(22,qi (f.kids.length:Int)),(23,qi (i:Int))]) ⟨3,[(2,.row 44 6<|List.map ai.w c),(1,.mps 61 3 105<|List.map (bz (V.int .i64) ah.w) n),(0,vF d (.row 1<|List.map (λl=>V.row 7<|List.map ae.w l) a) b<|.mm 1 .row)]⟩
def cH(m:Nat)(d:Int)(a:(List<|List ae))(b:YI)(c:List ai)(i:List ae)(f:ae)(j:Int)(g:List aD)(k:(List<|List<|Int×ah))(n o p q:Nat)(e:(List<|List<|Int×ah)):Prop:=∀(K:Ctx) (E G J:Nat),aw K [1,0]->m<=E->m<=G->m<=J->qLG K f24 (z4 (.tup []) ⟨3,[(2,.row 44 6<|List.map ai.w c),(1,.mps 61 3 105<|List.map (bz (V.int .i64) ah.w) e),(0,vF d (.row 1<|List.map (λl=>V.row 7<|List.map ae.w l) a) b<|.mm 1 .row)]⟩) (cL<|cK<|xH<|xN<|xA<|cL<|xL<|xN<|xA<|cL<|xD<|ac f24) [.loop (cL<|cK<|xH<|xN<|xA<|cL<|xL<|xN<|xA<|cL<|xD<|ac f24) E,.blk 4,.blk 3,.seq<|xH<|cL<|xL<|xN<|xA<|cL<|xD<|ac f24,.loop (cL<|xL<|xN<|xA<|cL<|xD<|ac f24) G,.blk 2,.blk 1,.seq<|xH<|cL<|xD<|ac f24,.loop (cL<|xD<|ac f24) J,.blk 0] 70 (mkF 70 0 [(0,.ptr 0 0),(2,qi (o:Int)),(3,.row 7<|List.map ae.w i),(5,qi j),(11,.row 1<|List.map (λl=>V.row 7<|List.map ae.w l) a),(12,qi (a.length:Int)),(13,qi (p:Int)),(21,.row 1<|List.map (V.int .i64) f.kids),(22,qi (f.kids.length:Int)),(23,qi (q:Int)),(39,.row 3<|List.map aD.w g),(40,qi (g.length:Int)),(41,qi (n:Int))]) ⟨3,[(2,.row 44 6<|List.map ai.w c),(1,.mps 61 3 105<|List.map (bz (V.int .i64) ah.w) k),(0,vF d (.row 1<|List.map (λl=>V.row 7<|List.map ae.w l) a) b<|.mm 1 .row)]⟩
theorem rY(m:Nat)(d:Int)(a:(List<|List ae))(b:YI)(e:(List<|List<|Int×ah))(c:List ai)(f:(List<|List<|Int×ah))(h:dG m d a b c 0 e f):gx d a b e c f:=by
 refine qA 70 [1,0] func24 λK hK=>?_;exact gR 7 I<|gV 12 (qi (a.length:Int)) I (aK<|az (λl=>V.row 7<|List.map ae.w l) _) I<|gLB 11 I (az (λl=>V.row 7<|List.map ae.w l) _) λg=>gR 4 I<|go_loop m<|qW hK h [0,1,2]
theorem kr(m:Nat)(g:Int)(a:(List<|List ae))(c:YI)(d:List ai)(e:Nat)(k:(List<|List<|Int×ah))(b:(List<|List<|Int×ah))(h:z8 (e<a.length) (∃i,a[e]?=some i∧∃j,i[0]?=some j∧cG m g a c d i j 0 e e k b)<|k=b):dG (m+1) g a c d e k b:=by
 refine qj λK j1 hK q=>?_;refine gR 6 rfl<|qXh 14 rfl rfl rfl h bx bw ?_ ?_<;>intro hd h;refine gR 8 I ?_;obtain⟨i,n,h⟩:=h;refine gY (ar (an (f:=(λl=>V.row 7<|List.map ae.w l)) n) ab I I I I) I I<|gR 8 I ?_;obtain⟨j,o,h⟩:=h;exact gY (ar (an (f:=ae.w) o) ab I I I I) I I<|gR 3 I<|gV 22 (qi (j.kids.length:Int)) I (aK<|az (V.int .i64) _) I<|gLB 21 I (az (V.int .i64) _) λp=>gR 4 I<|go_loop m<|qJ hK (h K _ _ hK (by omega)<|by omega) [0,1,2];refine gR 3 I<|go_xloopE<|gR 1 I ?_;subst h;exact gE hK [] [] [0,1,2] []
theorem fB(m:Nat)(d:Int)(a:(List<|List ae))(b:YI)(c:List ai)(l:List ae)(i:ae)(g v k:Nat)(o:(List<|List<|Int×ah))(e:(List<|List<|Int×ah))(h:z8 (g<i.kids.length) (∃n,i.kids[g]?=some n∧∃p,n=((p:Nat):Int)∧∃q,l[p]?=some q∧y6 q.t.kind 2 (g+1<=9223372036854775807∧cG m d a b c l i (g+1) v k o e) (∃r,n=((r:Nat):Int)∧∃x,l[r]?=some x∧∃s,nX x.t s∧cH m d a b c l i n s o 0 v k g e))<|k+1<=9223372036854775807∧dG m d a b c (k+1) o e):cG (m+1) d a b c l i g v k o e:=by
 intro K j1 j2 hK ζ η;obtain⟨j1,rfl⟩:∃j,j1=j+1:=⟨j1-1,by omega⟩;obtain⟨j2,rfl⟩:∃j,j2=j+1:=⟨j2-1,by omega⟩;refine gR 6 rfl<|qXh 24 rfl rfl rfl h bx bw ?_ ?_<;>intro hd h;refine gR 7 I ?_;obtain⟨n,y,h⟩:=h;refine gY (ar (an (f:=(V.int .i64)) y) ab I I I I) I I<|gR 9 I ?_;obtain⟨p,β,h⟩:=h;refine gV 28 (qi ((p:Nat):Int)) I (aI β) I ?_;obtain⟨q,z,h⟩:=h;refine gY (ar (an (f:=ae.w) z) ab rfl rfl rfl rfl) rfl rfl<|gR 6 rfl<|qXh 33 rfl rfl rfl h iS eY ?_ ?_<;>intro hd h;refine gR 6 I ?_;obtain⟨hb,h⟩:=h;exact gR 1 I<|gV 68 (qi ((g+1:Nat):Int)) I (al (by omega) (by omega)) I<|gR 2 I<|go_xloop<|qJ hK (h K _ _ hK (by omega) (by omega)) [0,1,2];refine gR 7 I ?_;obtain⟨r,γ,h⟩:=h;refine gV 35 (qi ((r:Nat):Int)) I (aI γ) I ?_;obtain⟨x,α,h⟩:=h;refine gY (ar (an (f:=ae.w) α) ab I I I I) I I<|gR 2 I ?_;obtain⟨s,δ,h⟩:=h;exact qC0 δ I<|gR 1 I<|gV 40 (qi (s.length:Int)) I (aK (az aD.w _)) I<|gLB 39 I (az aD.w _) λε=>gR 4 I<|go_loop m<|qJ hK (h K _ _ _ hK (by omega) (by omega)<|by omega) [0,1,2];refine gR 3 I<|go_xloopE<|gR 4 I ?_;obtain⟨hb,h⟩:=h;exact gR 1 I<|gV 69 (qi ((k+1:Nat):Int)) I (al (by omega)<|by omega) I<|gR 2 I<|go_xloop<|qW hK h [0,1,2]
theorem fv(m:Nat)(i:Int)(a:(List<|List ae))(b:YI)(c:List ai)(p:List ae)(α:ae)(v:Int)(q:List aD)(o:(List<|List<|Int×ah))(e g β r:Nat)(n:(List<|List<|Int×ah))(h:z8 (e<q.length) (∃s,q[e]?=some s∧y4 s.Free (∃x,o[g]?=some x∧∃y,kw p v s.Path y∧∃z,kw p v s.Binder z∧e+1<=9223372036854775807∧cH m i a b c p α v q (o.set g<|eC y (ah.mk (g:Int) z) x) (e+1) g β r n) (e+1<=9223372036854775807∧cH m i a b c p α v q o (e+1) g β r n))<|r+1<=9223372036854775807∧cG m i a b c p α (r+1) g β o n):cH (m+1) i a b c p α v q o e g β r n:=by
 intro K G J O E ζ η θ;obtain⟨G,rfl⟩:∃j,G=j+1:=⟨G-1,by omega⟩;obtain⟨J,rfl⟩:∃j,J=j+1:=⟨J-1,by omega⟩;obtain⟨O,rfl⟩:∃j,O=j+1:=⟨O-1,by omega⟩;refine gR 6 rfl<|qXh 42 rfl rfl rfl h bx bw ?_ ?_<;>intro U h;refine gR 7 I ?_;obtain⟨s,γ,h⟩:=h;refine gY (ar (an (f:=aD.w) γ) ab rfl rfl rfl rfl) rfl rfl<|gR 12 rfl<|qXh 47 rfl rfl rfl h bI bJ ?_ ?_<;>intro U h;refine gR 1 I<|qDs [0,1,3] 19 20<|qDr (qR 0 3 2 [(3,3),(4,2)]) I I ?_;obtain⟨x,t,h⟩:=h;refine gYd 5 I (by kernel_rfl) (Ip underlying56 (by kernel_rfl) I I I (by rw[aan];exact(List.getElem?_eq_some_iff.1 t).1)) I I ?_;refine LJ 6 I (by kernel_rfl) I (by kernel_rfl) I I (by rw[aan];exact(List.getElem?_eq_some_iff.1 t).1) I ?_;refine qDr (qR 7 3 2 ((10,3)::(qR 12 4 2 [(16,3)]))) I I ?_;obtain⟨y,δ,h⟩:=h;refine bp 11 δ (by kernel_rfl) I (by kernel_rfl) I I .rfl I I ?_;obtain⟨z,ε,h⟩:=h;refine bp 17 ε (by kernel_rfl) I (by kernel_rfl) I I .rfl I I ?_;refine qDr [(18,0)] I I<|ce 19 (.set 1 (.mps 61 3 105 (List.map (bz (V.int .i64) ah.w) (o.set g (eC y (ah.mk (g:Int) z) x))))) I (by kernel_rfl) (Jr By (encV:=ah.w) (k:=y) (d:=(ah.mk (g:Int) z)) (L:=o) (l:=x) underlying61 I I I I I I t I) (Ml I) I (by kernel_rfl) I I<|qDe<|gR 3 I ?_;obtain⟨hb,h⟩:=h;exact gR 1 I<|gV 67 (qi ((e+1:Nat):Int)) I (al (by omega) (by omega)) I<|gR 2 I<|go_xloop<|qJ E (h K _ _ _ E (by omega) (by omega) (by omega)) [0,1,2];refine gR 5 I ?_;obtain⟨hb,h⟩:=h;exact gR 1 I<|gV 67 (qi ((e+1:Nat):Int)) I (al (by omega) (by omega)) I<|gR 2 I<|go_xloop<|qJ E (h K _ _ _ E (by omega) (by omega) (by omega)) [0,1,2];refine gR 3 I<|go_xloopE<|gR 4 I ?_;obtain⟨hb,h⟩:=h;exact gR 1 I<|gV 68 (qi ((r+1:Nat):Int)) I (al (by omega) (by omega)) I<|gR 2 I<|go_xloop<|qJ E (h K _ _ E (by omega) (by omega)) [0,1,2]
def cp(m:Nat)(d:Int)(a:(List<|List ae))(b:YI)(c:List ai)(f:List aC)(g:Nat)(i:(List<|List<|Int×ah))(e:(List<|List<|Int×ah)):Prop:=z5 m [1,0] f25 (z4 (.tup []) ⟨3,[(2,.row 44 6<|List.map ai.w c),(1,.mps 61 3 105<|List.map (bz (V.int .i64) ah.w) e),(0,vF d (.row 1<|List.map (λl=>V.row 7<|List.map ae.w l) a) b<|.mm 1 .row)]⟩) (cL<|xD<|ac f25) [.blk 0] 119 [(0,.ptr 0 0),(13,.row 5<|List.map aC.w f),(14,qi (f.length:Int)),(15,qi (g:Int))] ⟨3,[(2,.row 44 6<|List.map ai.w c),(1,.mps 61 3 105<|List.map (bz (V.int .i64) ah.w) i),(0,vF d (.row 1<|List.map (λl=>V.row 7<|List.map ae.w l) a) b<|.mm 1 .row)]⟩
def df(m:Nat)(e:Int)(a:(List<|List ae))(b:YI)(d:List ai)(i:List aC)(k:aC)(j f:ae)(n:(List<|List<|Int×ah))(o p:Nat)(g:(List<|List<|Int×ah)):Prop:=∀(K:Ctx) (E G:Nat),aw K [1,0]->m<=E->m<=G->qLG K f25 (z4 (.tup []) ⟨3,[(2,.row 44 6<|List.map ai.w d),(1,.mps 61 3 105<|List.map (bz (V.int .i64) ah.w) g),(0,vF e (.row 1<|List.map (λl=>V.row 7<|List.map ae.w l) a) b<|.mm 1 .row)]⟩) (cL<|cK<|xF<|xF<|cB<|xN<|xA<|cL<|xD<|ac f25) [.loop (cL<|cK<|xF<|xF<|cB<|xN<|xA<|cL<|xD<|ac f25) E,.blk 2,.blk 1,.seq<|xH<|cL<|xD<|ac f25,.loop (cL<|xD<|ac f25) G,.blk 0] 119 (mkF 119 0 [(0,.ptr 0 0),(5,.ptr 2 0),(9,.ptr 3 0),(13,.row 5<|List.map aC.w i),(14,qi (i.length:Int)),(15,qi (p:Int)),(86,.row 1<|List.map (V.int .i64) f.kids),(87,qi (f.kids.length:Int)),(88,qi (o:Int))]) ⟨5,[(4,.row 44 6<|List.map ai.w d),(3,.var 98<|ae.c j),(2,.var 111<|aC.c k),(1,.mps 61 3 105<|List.map (bz (V.int .i64) ah.w) n),(0,.var 58 [qi e,.row 1<|List.map (λl=>V.row 7<|List.map ae.w l) a,.row 1<|List.map (V.int .i64) b,.mm 1 .row,.sl 4])]⟩
theorem sC(m:Nat)(d:Int)(a:(List<|List ae))(b:YI)(e:(List<|List<|Int×ah))(c:List ai)(p1:YT)(f:(List<|List<|Int×ah))(h:∃g,rv p1 g∧cp m d a b c g 0 e f):ib d a b e c p1 f:=by
 refine qA 119 [1,0] func25 λK hK=>?_;refine gR 3 I ?_;obtain⟨g,i,h⟩:=h;exact qC0 i I<|gR 1 I<|gV 14 (qi (g.length:Int)) I (aK<|az aC.w _) I<|gLB 13 I (az aC.w _) λj=>gR 4 I<|go_loop m<|qW hK h [0,1,2]
theorem dT(m:Nat)(j:Int)(a:(List<|List ae))(g:YI)(e:List ai)(r:List aC)(i:Nat)(s:(List<|List<|Int×ah))(n:(List<|List<|Int×ah))(h:z8 (i<r.length) (∃b,r[i]?=some b∧z9 b.Free (i+1<=9223372036854775807∧cp m j a g e r (i+1) s n) (∃θ,b.Use.Module=((θ:Nat):Int)∧∃y,a[θ]?=some y∧∃p,kw y 0 b.Use.Path p∧∃ι,b.Module=((ι:Nat):Int)∧∃μ,a[ι]?=some μ∧∃ν,μ[0]?=some ν∧∃κ,b.Def=((κ:Nat):Int)∧∃v,ν.kids[κ]?=some v∧∃o,b.Use.Module=((o:Nat):Int)∧∃q,s[o]?=some q∧∃z,p=((z:Nat):Int)∧∃α,y[z]?=some α∧y6 α.t.kind 16 (i+1<=9223372036854775807∧cp m j a g e r (i+1) (s.set o<|eC p (ah.mk b.Module v) q) n) (∃β,b.Module=((β:Nat):Int)∧∃ζ,a[β]?=some ζ∧∃γ,v=((γ:Nat):Int)∧∃η,ζ[γ]?=some η∧∃δ,p=((δ:Nat):Int)∧∃ε,y[δ]?=some ε∧df m j a g e r b η ε (s.set o<|eC p (ah.mk b.Module v) q) 0 i n)))<|s=n):cp (m+1) j a g e r i s n:=by
 refine qj λK j1 hK hj1=>?_;refine gR 6 rfl<|qXh 16 rfl rfl rfl h bx bw ?_ ?_<;>intro hd h;refine gR 7 I ?_;obtain⟨b,υ,h⟩:=h;refine gY (ar (an (f:=aC.w) υ) ab rfl rfl rfl rfl) rfl rfl<|gR 12 rfl<|qXi 20 rfl rfl rfl h ?_ ?_<;>intro hd h;refine gR 6 I ?_;obtain⟨hb,h⟩:=h;exact gR 1 I<|gV 118 (qi ((i+1:Nat):Int)) I (al (by omega)<|by omega) I<|gR 2 I<|go_xloop<|qW hK h [0,1,2];refine gR 4 I<|qDs [0,3] 7 10<|qDr (qR 0 3 2<|(3,3)::(qR 4 3 0 [])) I I ?_;obtain⟨θ,ek1_2,h⟩:=h;refine gV 27 (qi ((θ:Nat):Int)) I (aI ek1_2) I ?_;obtain⟨y,φ,h⟩:=h;refine cc 7 I (by kernel_rfl) (ar (an (f:=(λl=>V.row 7<|List.map ae.w l)) φ) ab I I I I) I I ?_;refine qDr [(8,1),(9,1)] I I<|qDe<|gR 7 I ?_;obtain⟨p,hs18,h⟩:=h;refine qC0 hs18 I<|gR 4 I<|qDs [0,3] 15 16<|qDr (qR 0 3 2 [(3,3),(4,2),(5,3)]) I I ?_;obtain⟨ι,ek1_5,h⟩:=h;refine gV 40 (qi ((ι:Nat):Int)) I (aI ek1_5) I ?_;obtain⟨μ,χ,h⟩:=h;refine gYd 6 I (by kernel_rfl) (ar (an (f:=(λl=>V.row 7<|List.map ae.w l)) χ) ab I I I I) I I<|qDr [(7,2)] I I ?_;obtain⟨ν,ψ,h⟩:=h;refine gYd 8 I (by kernel_rfl) (ar (an (f:=ae.w) ψ) ab I I I I) I I<|qDr [(9,2),(10,2),(11,0),(12,0)] I I ?_;obtain⟨κ,ek1_8,h⟩:=h;refine gV 47 (qi ((κ:Nat):Int)) I (aI ek1_8) I ?_;obtain⟨v,ω,h⟩:=h;refine cc 13 I (by kernel_rfl) (ar (an (f:=(V.int .i64)) ω) ab I I I I) I I ?_;refine qDr [(14,0),(15,1)] I I<|qDe<|gR 2 I<|qDs [0,3,1] 14 15<|qDr (qR 0 3 2 [(3,3),(4,2),(5,2),(6,3)]) I I ?_;obtain⟨o,ek1_10,h⟩:=h;refine gV 56 (qi ((o:Nat):Int)) I (aI ek1_10) I ?_;obtain⟨q,x,h⟩:=h;refine gYd 7 I (by kernel_rfl) (Ip underlying56 (by kernel_rfl) I I I (by rw[aan];exact(List.getElem?_eq_some_iff.1 x).1)) I I ?_;refine LJ 8 I (by kernel_rfl) I (by kernel_rfl) I I (by rw[aan];exact(List.getElem?_eq_some_iff.1 x).1) I ?_;refine qDr [(9,2),(10,2),(11,3),(12,0),(13,0)] I I<|ce 14 (.set 1<|.mps 61 3 105<|List.map (bz (V.int .i64) ah.w)<|s.set o<|eC p (ah.mk b.Module v) q) I (by kernel_rfl) (Jr By (encV:=ah.w) (k:=p) (d:=(ah.mk b.Module v)) (L:=s) (l:=q) underlying61 I I I I I I x I) (Ml I) I (by kernel_rfl) I I<|qDe<|gR 1 I<|go_sub (F':=(mkF 119 0 [(0,.ptr 0 0),(5,.ptr 2 0),(6,.row 7<|List.map ae.w y),(7,qi p),(8,qi v),(13,.row 5<|List.map aC.w r),(14,qi (r.length:Int)),(15,qi (i:Int))])) (H':=⟨4,[(3,.row 44 6<|List.map ai.w e),(2,.var 111<|aC.c b),(1,.mps 61 3 105<|List.map (bz (V.int .i64) ah.w)<|s.set o<|eC p (ah.mk b.Module v) q),(0,.var 58 [qi j,.row 1<|List.map (λl=>V.row 7<|List.map ae.w l) a,.row 1<|List.map (V.int .i64) g,.mm 1 .row,.sl 3])]⟩) [0,1,3,2] [1,0] I hK pq8 ⟨⟨_,I,I,I,(vG _ e).symm⟩,pqo I I,⟨_,I,I,I,I,I⟩,(pqo1 I I)⟩ I ?_;refine gR 5 I ?_;obtain⟨z,ek1_12,h⟩:=h;refine gV 65 (qi ((z:Nat):Int)) I (aI ek1_12) I ?_;obtain⟨α,ξ,h⟩:=h;refine gY (ar (an (f:=ae.w) ξ) ab rfl rfl rfl rfl) rfl rfl<|gR 6 rfl<|qXh 70 rfl rfl rfl h iS eY ?_ ?_<;>intro hd h;refine gR 6 I ?_;obtain⟨hb,h⟩:=h;exact gR 1 I<|gV 118 (qi ((i+1:Nat):Int)) I (al (by omega)<|by omega) I<|gR 2 I<|go_xloop<|qW hK h [0,1,3];refine gR 4 I<|qDs [0,2] 12 13<|qDr (qR 0 3 2 [(3,3),(4,2),(5,3)]) I I ?_;obtain⟨β,ek1_14,h⟩:=h;refine gV 76 (qi ((β:Nat):Int)) I (aI ek1_14) I ?_;obtain⟨ζ,ο,h⟩:=h;refine gYd 6 I (by kernel_rfl) (ar (an (f:=(λl=>V.row 7<|List.map ae.w l)) ο) ab I I I I) I I<|qDr [(7,2),(8,2)] I I ?_;obtain⟨γ,ek1_16,h⟩:=h;refine gV 79 (qi ((γ:Nat):Int)) I (aI ek1_16) I ?_;obtain⟨η,π,h⟩:=h;refine gYd 9 I (by kernel_rfl) (ar (an (f:=ae.w) π) ab I I I I) I I<|qDr [(10,2),(11,0),(12,1)] I I<|qDe<|gR 5 I ?_;obtain⟨δ,ek1_18,h⟩:=h;refine gV 83 (qi ((δ:Nat):Int)) I (aI ek1_18) I ?_;obtain⟨ε,τ,h⟩:=h;exact gY (ar (an (f:=ae.w) τ) ab I I I I) I I<|gR 3 I<|gV 87 (qi ((ε.kids.length:Nat):Int)) I (aK<|az (V.int .i64) _) I<|gLB 86 I (az (V.int .i64) _) λhl19=>gR 4 I<|go_loop m<|qJ hK (h K _ _ hK (by omega)<|by omega) [0,1,2,4,3];refine gR 3 I<|go_xloopE<|gR 1 I ?_;subst h;exact gE hK [] [] [0,1,2] []
theorem gA(m:Nat)(i:Int)(c:(List<|List ae))(e:YI)(g:List ai)(z:List aC)(p:aC)(b o:ae)(q:(List<|List<|Int×ah))(a r:Nat)(n:(List<|List<|Int×ah))(h:z8 (a<o.kids.length) (∃v,o.kids[a]?=some v∧z8 ((a:Int)<((b.kids.length:Int)-2)) (∃s,p.Use.Module=((s:Nat):Int)∧∃x,q[s]?=some x∧∃y,b.kids[a]?=some y∧a+1<=9223372036854775807∧df m i c e g z p b o (q.set s<|eC v (ah.mk p.Module y) x) (a+1) r n) (a+1<=9223372036854775807∧df m i c e g z p b o q (a+1) r n))<|r+1<=9223372036854775807∧cp m i c e g z (r+1) q n):df (m+1) i c e g z p b o q a r n:=by
 intro K G J E ε ζ;obtain⟨G,rfl⟩:∃j,G=j+1:=⟨G-1,by omega⟩;obtain⟨J,rfl⟩:∃j,J=j+1:=⟨J-1,by omega⟩;refine gR 6 rfl<|qXh 89 rfl rfl rfl h bx bw ?_ ?_<;>intro O h;refine gR 8 I ?_;obtain⟨v,α,h⟩:=h;refine gY (ar (an (f:=(V.int .i64)) α) ab rfl rfl rfl rfl) rfl rfl<|gR 11 rfl<|gV 96 (qi (b.kids.length:Int)) rfl (aK (az (V.int .i64) _)) rfl<|gLB 95 rfl (az (V.int .i64) _) λδ=>gR 1 rfl<|gV 97 (qi<|(b.kids.length:Int)-2) rfl (al (by have :=δ;omega) rfl) rfl<|gR 3 rfl<|qXd 98 rfl rfl rfl h ?_ ?_<;>intro O h;refine gR 1 I<|qDs [0,2,1,3] 18 19<|qDr (qR 0 3 2 [(3,3),(4,2),(5,2),(6,3)]) I I ?_;obtain⟨s,γ,h⟩:=h;refine gV 105 (qi ((s:Nat):Int)) I (aI γ) I ?_;obtain⟨x,t,h⟩:=h;refine gYd 7 I (by kernel_rfl) (Ip underlying56 (by kernel_rfl) I I I (by rw[aan];exact(List.getElem?_eq_some_iff.1 t).1)) I I ?_;refine LJ 8 I (by kernel_rfl) I (by kernel_rfl) I I (by rw[aan];exact(List.getElem?_eq_some_iff.1 t).1) I ?_;refine qDr [(9,2),(10,2),(11,3),(12,2),(13,3),(14,0)] I I ?_;obtain⟨y,β,h⟩:=h;refine cc 15 I (by kernel_rfl) (ar (an (f:=(V.int .i64)) β) ab I I I I) I I ?_;refine qDr [(16,0),(17,0)] I I<|ce 18 (.set 1<|.mps 61 3 105<|List.map (bz (V.int .i64) ah.w)<|q.set s<|eC v (ah.mk p.Module y) x) I (by kernel_rfl) (Jr By (encV:=ah.w) (k:=v) (d:=(ah.mk p.Module y)) (L:=q) (l:=x) underlying61 I I I I I I t I) (Ml I) I (by kernel_rfl) I I<|qDe<|gR 3 I ?_;obtain⟨hb,h⟩:=h;exact gR 1 I<|gV 117 (qi ((a+1:Nat):Int)) I (al (by omega)<|by omega) I<|gR 2 I<|go_xloop<|qJ E (h K _ _ E (by omega)<|by omega) [0,1,2,3,4];refine gR 5 I ?_;obtain⟨hb,h⟩:=h;exact gR 1 I<|gV 117 (qi ((a+1:Nat):Int)) I (al (by omega)<|by omega) I<|gR 2 I<|go_xloop<|qJ E (h K _ _ E (by omega)<|by omega) [0,1,2,3,4];refine gR 3 I<|go_xloopE<|gR 4 I ?_;obtain⟨hb,h⟩:=h;exact gR 1 I<|gV 118 (qi ((r+1:Nat):Int)) I (al (by omega)<|by omega) I<|gR 2 I<|go_xloop<|qW E h [0,1,4]
abbrev Asg:=Nat×Int×ah
abbrev Mps:=List (List (Int×ah))
def dQ(L:Mps):List Asg->Mps
 |[]=>L
 |a::r=>dQ (L.set a.1 (eC a.2.1 a.2.2 (L.getD a.1 []))) r
theorem oU:∀(a b:List Asg) (L:Mps),dQ L (a++b)=dQ (dQ L a) b
 |[],b,L=>rfl
 |x::a,b,L=>by simp only[aas,dQ,oU a b]
theorem Al:∀(a:List Asg) (L:Mps),(dQ L a).length=L.length
 |[],L=>rfl
 |x::a,L=>by simp only[dQ,Al a,aay]
variable{m:Nat}
theorem Mq{L:Mps}{k:Int}{v:ah}{l:List<|Int×ah}(h:L[m]?=some l):L.set m (eC k v l)=dQ L [(m,k,v)]:=by simp only[dQ,List.getD_eq_getElem?_getD,h,Option.getD_some]
theorem Ax{L:Mps}{a:Nat}{l:List<|Int×ah}(E:m<L.length):(L.set a l).getD m []=if m=a then l else L.getD m []:=by
 simp only[List.getD_eq_getElem?_getD];by_cases h:m=a
 ·subst h;rw[if_pos rfl,List.getElem?_set_self E,Option.getD_some]
 ·rw[if_neg h,List.getElem?_set_ne λe=>h e.symm]
theorem Ct{m:Nat}{k:Int}{v0:ah}:∀(a:List Asg) (L:Mps),m<L.length->(∀v,(m,k,v)∈a->v=v0)->((∃v,(m,k,v)∈a)∨dU k (L.getD m [])=some v0)->dU k ((dQ L a).getD m [])=some v0
 |[],L,hm,h1,h2=>by
  rcases h2 with⟨v,hv⟩|h2
  ·cases hv
  ·exact h2
 | x ::a,L,hm,h1,h2=>by
  simp only[dQ];refine Ct a _ (by rw[aay];exact hm) (λv hv=>h1 v<|List.mem_cons_of_mem _ hv) ?_;by_cases hx:x.1=m∧x.2.1=k
  ·obtain⟨e1,e2⟩:=hx;right;rw[Ax hm,if_pos e1.symm,sI,if_pos e2.symm];have :=h1 x.2.2 (by rw[<-e1,<-e2];exact List.mem_cons_self);rw[this]
  ·have hkeep:dU k ((L.set x.1 (eC x.2.1 x.2.2 (L.getD x.1 []))).getD m [])=dU k (L.getD m []):=by
    rw[Ax hm];split
    ·rename_i e;rw[sI,if_neg λe2=>hx ⟨e.symm,e2.symm⟩,e]
    ·rfl
   rw[hkeep];rcases h2 with⟨v,hv⟩|h2
   ·rcases List.mem_cons.1 hv with e|hv
    ·exact absurd ⟨by rw[<-e],by rw[<-e]⟩ hx
    ·exact .inl ⟨v,hv⟩
   ·exact .inr h2
theorem Cy{m:Nat}{k:Int}:∀(a:List Asg) (L:Mps),m<L.length->(∀v,(m,k,v)∉a)->dU k ((dQ L a).getD m [])=dU k (L.getD m [])
 |[],L,hm,h1=>rfl
 | x::a,L,hm,h1=>by
  simp only[dQ];rw[Cy a _ (by rw[aay];exact hm) λv hv=>h1 v<|List.mem_cons_of_mem _ hv,Ax hm];split
  ·rename_i e;rw[sI,if_neg (λe2=>h1 x.2.2 (by rw[e,e2];exact List.mem_cons_self)),e]
  ·rfl
def bS(p:YT):List (List ae):=p.map λt=>flatK t (-1) 0 0
variable{p:YT}{t:Tree}
theorem eQ(h:p[m]?=some t):(bS p)[m]?=some (flatK t (-1) 0 0):=by simp[bS,h]
variable{u:Tree}{q:YI}
theorem mT(h:atK t q=some u):∃par ix,(flatK t (-1) 0 0)[ay t q]?=some ⟨u,par,ix,fU u.kids<|ay t q+1⟩∧(q=[]->par=-1∧ix=0)∧(∀r i,q=r++[i]->par=((ay t r:Nat):Int)∧ix=i):=by obtain⟨par,ix,h1,h2,E⟩:=Eu q t u (-1) 0 0 h;simp only[Nat.zero_add]at h1 E;exact⟨par,ix,h1,h2,E⟩
theorem vw{v:Tree}{i:Nat}(h:atK t q=some u)(hi:u.kids[i]?=some v):(fU u.kids<|ay t q+1)[i]?=some ((ay t (q++[(i:Int)]):Nat):Int):=by rw[Ev _ _ _ (List.getElem?_eq_some_iff.1 hi).1,KQ h hi]
theorem JI:∀(q:YI) (t u:Tree) (r:YI),atK t q=some u->atK t (q++r)=atK u r
 |[],t,u,r,h=>by simp only[atK,aab]at h;subst h;rfl
 |i::q,t,u,r,h=>by
  simp only[atK]at h;split at h
  ·cases h
  rename_i hi;split at h
  ·cases h
  rename_i y hy;rw[aas];simp only[atK,if_neg hi,hy];exact JI q y u r h
theorem Et:∀(r q:YI) (u v:Tree),atK t q=some u->atK u r=some v->r.length<=1000000000->kw (flatK t (-1) 0 0) ((ay t q:Nat):Int) r ((ay t (q++r):Nat):Int):=λr q u v hq hr hl=>by
 have loop:∀k i (q':YI) (u':Tree),k+i=r.length->atK t q'=some u'->atK u' (r.drop i)=some v->mA (k+1) (flatK t (-1) 0 0) r ((ay t q':Nat):Int) i ((ay t (q'++r.drop i):Nat):Int):=λk=>by
  induction k with
  |zero=>
   intro i q' u' hi hq' hr';refine sS 0 _ _ _ _ _ (⟨λh=>by omega,λ_=>?_⟩);rw[List.drop_of_length_le (by omega),aaz]
  | succ k ih=>
   intro i q' u' hi hq' hr';obtain⟨x,hx⟩:∃x,r[i]?=some x:=⟨_,List.getElem?_eq_getElem (by omega)⟩;have hd:r.drop i=x::r.drop (i+1):=by obtain⟨hlt,hg⟩:=List.getElem?_eq_some_iff.1 hx;rw[aam hlt,hg]
   rw[hd]at hr'⊢;simp only[atK]at hr';split at hr'
   ·cases hr'
   rename_i h0;split at hr'
   ·cases hr'
   rename_i y hy;obtain⟨par,ix,f1,_⟩:=mT hq';obtain⟨c,rfl⟩:∃c:Nat,x=c:=⟨x.toNat,by omega⟩;rw[Int.toNat_natCast]at hy;have hqy:atK t (q'++[(c:Int)])=some y:=by rw[JI q' t u' _ hq',atK,if_neg (by omega),Int.toNat_natCast,hy];rfl
   refine sS (k+1) _ _ _ _ _ (⟨λ_=>⟨_,hx,_,I,_,f1,c,I,_,vw hq' hy,by omega,?_⟩,λh=>by omega⟩);have :=ih (i+1) (q'++[(c:Int)]) y (by omega) hqy hr'
   rwa [aai,List.singleton_append]at this
 have :=loop r.length 0 q u (by omega) hq (by rw[List.drop_zero];exact hr);rw[List.drop_zero]at this;exact AW _ _ _ _ _<|this
def fw(k:Int):Int:=if k=1 then 1 else if k=2 then 2 else if k=3 then 3 else if k=4 then 4 else 5
theorem Lw(k:Int):pc k (fw k):=by
 refine zH 0 _ _<|?_;unfold fw;exact⟨λh=>by rw[if_pos h],λh=>by rw[if_neg h];exact⟨λh=>by rw[if_pos h],λh=>by rw[if_neg h];exact⟨λh=>by rw[if_pos h],λh=>by rw[if_neg h];exact⟨λh=>by rw[if_pos h],λh=>by rw[if_neg h]⟩⟩⟩⟩
def ca(t:Tree):Int:=if t.kind=1∨t.kind=16∨t.kind=18 then(t.kids.length:Int)else if t.kind=2 then(t.kids.length:Int)-2 else 0
theorem MF(t:Tree):oZ t (ca t):=by
 refine zG 1 _ _<|⟨λh=>?_,λh=>⟨λh'=>?_,λh'=>?_⟩⟩
 ·exact mI 0 _ _ _ (⟨λ_=>by rw[ca,if_pos<|.inl h],λh=>by cases h⟩)
 ·exact mI 0 _ _ _ (⟨λ_=>by rw[ca,if_pos<|.inr<|.inl h'],λh=>by cases h⟩)
 ·refine mI 0 _ _ _ (⟨λh2=>?_,λh2=>?_⟩)
  ·rw[ca,if_pos<|.inr<|.inr<|by simpa using h2]
  ·have G:t.kind≠18:=by simpa using h2
   refine⟨λE=>?_,λE=>?_⟩
   ·rw[ca,if_neg (by omega),if_pos E]
   ·rw[ca,if_neg (by omega),if_neg E]
def pd(v:ak):Bool:=decide<|v.N=0∧v.Flag=false∧v.Text=[]∧v.Ref=0
variable{b:Int}
theorem Nr{sp:List<|List ae}{fi:YI}{us:Mps}{cs:List ai}(i f:Int)(v:ak)(E:cs.length+1<=1000000000):ci b sp fi us cs i f v (cs++if pd v=true then[]else[⟨i,f,v⟩]):=by
 refine wm 0 _ _ _ _ _ _ _ _ _<|⟨λh=>?_,λh=>?_⟩
 ·rw[if_neg (by rw[pd,aat];exact h)];exact⟨by simp;omega,rfl⟩
 ·rw[if_pos (by rw[pd,aat];exact h),aaz]
def dV:Nat->YT->YI
 |_,[]=>[]
 |n,t::r=>(n:Int)::dV (n+nN t) r
theorem DG:∀(l:YT) (n m:Nat),m<l.length->(dV n l)[m]?=some ((n+nNs (l.take m):Nat):Int)
 |[],n,m,h=>by simp at h
 |t::r,n,0,h=>by simp[dV,nNs]
 |t::r,n,m+1,h=>by
  simp only[dV,List.getElem?_cons_succ,List.take_succ_cons,nNs];rw[DG r _ m<|by simpa using h]
  congr 2;omega
def idK(b:Int)(p:YT)(m n:Nat):Int:=(bM b ((nNs (p.take m)+n+1:Nat):Int)).1
theorem c_id{us:Mps}{cs:List ai}{n:Nat}(E:m<p.length)(hn:nNs (p.take m)+n+1<=2000000000):db b (bS p) (dV 0 p) us cs (m:Int) (n:Int) (idK b p m n):=by
 have hf:=DG p 0 m E;rw[Nat.zero_add]at hf;have h1:=AB b ((nNs (p.take m)+n+1:Nat):Int) (by omega);rw[show((nNs (p.take m)+n+1:Nat):Int)=((nNs (p.take m):Nat):Int)+(n:Int)+1 by omega]at h1;have e:idK b p m n=(bM b<|((nNs (p.take m):Nat):Int)+(n:Int)+1).1:=by rw[idK,show((nNs (p.take m)+n+1:Nat):Int)=((nNs (p.take m):Nat):Int)+(n:Int)+1 by omega]
 rw[e];exact wR 0 _ _ _ _ _ _ _ _ (⟨m,I,_,hf,by constructor<;>omega,by constructor<;>omega,_,_,h1,I⟩)
def fy:List aj->YB->YI×Bool
 |[],_=>([],false)
 |b::r,w=>if b.name=w then(b.path,true)else fy r w
theorem LP{α:Type}{l:List α}{n:Nat}{x:α}(h:l[n]?=some x):(l.take<|n+1).reverse=x::(l.take n).reverse:=by rw[List.take_add_one,h];simp
theorem LS(stk:List aj)(w:YB)(hs:stk.length<=1000000000)(hp:∀b∈stk,b.path.length<=1000000000):lT stk w (fy stk.reverse w).1 (fy stk.reverse w).2:=by
 have loop:∀n,n<=stk.length->gO (n+1) stk w ((n:Int)-1) (fy (stk.take n).reverse w).1 (fy (stk.take n).reverse w).2:=λn=>by
  induction n with
  |zero=>intro _;exact pr 0 _ _ _ _ _ ⟨λh=>by omega,λ_=>⟨rfl,rfl⟩⟩
  | succ n ih=>
   intro hn;obtain⟨x,hx,_⟩|h':=aQ stk n
   ·rw[LP hx,fy];refine pr (n+1) _ _ _ _ _ ⟨λ_=>⟨n,by omega,x,hx,λh=>⟨n,by omega,x,hx,_,OW _<|hp x<|List.mem_of_getElem? hx,by rw[if_pos h],by rw[if_pos h]⟩,λh=>⟨by omega,?_⟩⟩,λh=>by omega⟩;rw[if_neg h,show((n+1:Nat):Int)-1-1=(n:Int)-1 by omega];exact ih (by omega)
   ·omega
 have :=loop stk.length<|aaf _;rw[List.take_length]at this;exact wW (stk.length+1) _ _ _ _ this
mutual
def nodE:Tree->YI->List aj->List (YI×Tree×List aj)
 |.node k s ls ks,q,E=>(q,.node k s ls ks,E)::nodEs k s ks q 0 E
def nodEs(k:Int)(s:YB):YT->YI->Nat->List aj->List (YI×Tree×List aj)
 |[],_,_,_=>[]
 |t::r,q,i,E=>nodE t (q++[(i:Int)]) (if k=20∧i=1 then E++[⟨s,q⟩]else E)++nodEs k s r q (i+1) E
end
theorem GO(t:Tree)(q:YI)(E:List aj):nodE t q E=(q,t,E)::nodEs t.kind t.text t.kids q 0 E:=by cases t;simp only[nodE];rfl
mutual
theorem nodE_nodK:∀(t:Tree) (q:YI) (E:List aj),(nodE t q E).map (λx=>(x.1,x.2.1))=nodK t q
 |.node k s ls ks,q,E=>by simp only[nodE,nodK,aah,nodEs_nodKs ks]
theorem nodEs_nodKs{k:Int}{s:YB}:∀(l:YT) (q:YI) (i:Nat) (E:List aj),(nodEs k s l q i E).map (λx=>(x.1,x.2.1))=nodKs l q i
 |[],q,i,E=>by simp only[nodEs,nodKs,aav]
 |t::r,q,i,E=>by simp only[nodEs,nodKs,aao,nodE_nodK t,nodEs_nodKs r]
end
theorem LM(t:Tree)(q:YI)(E:List aj):(nodE t q E).length<=tbulk t:=by have :=nodK_len t q;rw[<-nodE_nodK t q E,aan]at this;exact this
def MR(q:YI)(w:YB)(E:List aj):aD:=⟨q,(fy E.reverse w).1,!(fy E.reverse w).2⟩
def jk:List (YI×Tree×List aj)->List aD
 |[]=>[]
 |x::r=>(if x.2.1.kind=12 then[MR x.1 x.2.1.text x.2.2]else[])++jk r
theorem Di:∀a b,jk (a++b)=jk a++jk b
 |[],b=>rfl
 |x::r,b=>by simp only[aas,jk,Di r b,aai]
theorem CQ:∀a,(jk a).length<=a.length
 |[]=>aaf _
 |x::r=>by have :=CQ r;simp only[jk,aac,aad];split<;>simp <;>omega
theorem Mk:∀(t:Tree) (E:List aj) (q:List Int) (fd:List aD),q.length+tbulk t<=1000000000->fd.length+tbulk t<=1000000000->E.length+tbulk t<=1000000000->(∀b∈E,b.path.length<=1000000000)->eX E q fd t E q (fd++jk (nodE t q E)):=cP λt ih E q fd hq hf hE hp=>by
 have hk:=cb t;have ht:=cN t;have hb:=bt t;have loop:∀k i fd,t.kids.length-i<=k->fd.length+kbulk (t.kids.drop i)<=1000000000->cv (3*k+1) t fd E q i E q (fd++jk (nodEs t.kind t.text (t.kids.drop i) q i E)):=λk=>by
  induction k with
  |zero=>
   intro i fd hi hf;refine mf 0 _ _ _ _ _ _ _ _ ⟨λh=>by omega,λh=>⟨I,I,?_⟩⟩;rw[List.drop_of_length_le<|by omega];simp[nodEs,jk]
  | succ k ihk=>
   intro i fd hi hf;rw[show 3*(k+1)+1=(3*k+1+1+1)+1 by omega];refine mf _ _ _ _ _ _ _ _ _ ⟨λh=>?_,λh=>⟨I,I,?_⟩⟩
   ·obtain⟨u,hu,_⟩|h':=aQ t.kids i
    ·have hd:=bc hu;rw[hd,kbulk]at hf;have hbu:=cm hu;have key:∀b:Bool,((b=true)↔(t.kind=20∧i=1))->ev (3*k+1+1+1) t fd u E q i b i E q (fd++jk (nodEs t.kind t.text (t.kids.drop i) q i E)):=λb hbb=>by
      have hl:=LM u (q++[(i:Int)]) (if t.kind=20∧i=1 then E++[⟨t.text,q⟩]else E);have hl2:=CQ (nodE u (q++[(i:Int)]) (if t.kind=20∧i=1 then E++[⟨t.text,q⟩]else E));have hih:=ih i u hu (if t.kind=20∧i=1 then E++[⟨t.text,q⟩]else E) (q++[(i:Int)]) fd (by simp;omega) (by omega) (by
       split
       ·simp only[aac,aad,aae];omega
       ·omega) (by
       split
       ·intro b hb;simp only[aal,List.mem_singleton]at hb;rcases hb with hb|rfl
        ·exact hp b hb
        ·simp only;omega
       ·exact hp)
      have hnx:=ihk (i+1) (fd++jk (nodE u (q++[(i:Int)])<|if t.kind=20∧i=1 then E++[⟨t.text,q⟩]else E)) (by omega) (by simp;omega);rw[hd,nodEs,Di,<-aai];cases b with
      |true=>
       have hc:=hbb.1 rfl;rw[if_pos hc]at hih hnx⊢;refine mh _ _ _ _ _ _ _ _ _ _ _ _ ⟨λ_=>⟨_,As q (by omega),by simp;omega,?_⟩,λh=>by cases h⟩;refine mo _ _ _ _ _ _ _ _ _ _ _ _ ⟨by simp;omega,_,_,_,hih,q.length,by simp,by simp,λ_=>⟨E.length,by simp,by simp,by omega,?_⟩,λh=>by cases h⟩;simpa using hnx
      |false=>
       have hc:¬(t.kind=20∧i=1):=λh=>by have :=hbb.2 h;cases this
       rw[if_neg hc]at hih hnx⊢;refine mh _ _ _ _ _ _ _ _ _ _ _ _ ⟨λh=>(by cases h),λ_=>?_⟩;refine mo _ _ _ _ _ _ _ _ _ _ _ _ ⟨by simp;omega,_,_,_,hih,q.length,by simp,by simp,λh=>(by cases h),λ_=>⟨by omega,?_⟩⟩;simpa using hnx
     refine⟨u,hu,λh20=>key _ ?_,λh20=>key _ ?_⟩
     ·simp[h20];omega
     ·simp[h20]
    ·exact absurd h h'
   ·rw[List.drop_of_length_le<|by omega];simp[nodEs,jk]
 rw[GO,jk];refine tl (3*t.kids.length+1) _ _ _ _ _ _ _ ⟨λh=>?_,λh=>?_⟩
 ·simp only;rw[if_pos h];refine⟨_,_,LS E t.text (by omega) hp,_,As q (by omega),by simp;omega,?_⟩;have :=loop t.kids.length 0 (fd++[MR q t.text E]) (by omega) (by simp;omega);rw[<-aai];exact this
 ·simp only;rw[if_neg h];have :=loop t.kids.length 0 fd (by omega) (by rw[List.drop_zero];omega);simpa using this
def zT0:Tree:=.node 0 [] [] []
def atD(t:Tree)(q:YI):Tree:=(atK t q).getD zT0
theorem NA(t:Tree)(q:YI)(hq:q.length<=1000000000):∃b,bF t q (atD t q) b:=⟨_,Mw t q hq⟩
def iO(t:Tree)(q:YI):Nat->List YI
 |0=>[]
 |n+1=>(if(atD t<|q.take n).kind=20∧q[n]?=some 1 then[q.take n]else[])++iO t q n
theorem Fa(t:Tree)(q:YI):∀n,(iO t q n).length<=n
 |0=>aaf _
 |n+1=>by have :=Fa t q n;simp only[iO,aac];split<;>simp <;>omega
def uQ(n:Nat):List YI:=(List.range n).map λ(i:Nat)=>[(i:Int)]
def arP(t:Tree)(q:YI):List YI:=if(atK t q).isSome=false then[]else match q with
 |[]=>[]
 |i::_=>if i=(t.kids.length:Int)-1 then iO t q q.length++uQ (t.kids.length-2)else[]
theorem Nf(t:Tree)(q:YI)(ht:2<=t.kids.length)(hk:t.kids.length<=400000000)(hq:q.length<=400000000):lq t q (arP t q):=by
 have l2:∀(k i:Nat) (l:List YI),t.kids.length-2-i<=k->i<=t.kids.length-2->l.length+(t.kids.length-2-i)<=1000000000->gq (k+1) t l i (l++((List.range<|t.kids.length-2).drop i).map λ(i:Nat)=>[(i:Int)]):=λk=>by
  induction k with
  |zero=>
   intro i l hi hil hl;refine oH 0 _ _ _ _ ⟨by omega,λh=>by omega,λh=>?_⟩;rw[List.drop_of_length_le (by simp;omega)];simp
  | succ k ih=>
   intro i l hi hil hl;refine oH (k+1) _ _ _ _ ⟨by omega,λh=>?_,λh=>?_⟩
   ·have hd:(List.range<|t.kids.length-2).drop i=i::(List.range<|t.kids.length-2).drop (i+1):=by
     rw[aam (by simp;omega)];simp
    rw[hd,aah];refine⟨by simp;omega,by omega,?_⟩;have :=ih (i+1) (l++[[(i:Int)]]) (by omega) (by omega) (by simp;omega);simpa using this
   ·rw[List.drop_of_length_le (by simp;omega)];simp
 have l0:∀(n:Nat) (l:List YI),n<=q.length->l.length+n<=500000000->dl (2*n+(t.kids.length+3)) t q l (n:Int) (l++(iO t q n++uQ (t.kids.length-2))):=λn=>by
  induction n with
  |zero=>
   intro l hn hl;rw[show 2*0+(t.kids.length+3)=(t.kids.length+1+1)+1 by omega];refine ou _ _ _ _ _ _ ⟨λh=>by omega,λ_=>?_⟩;have :=l2 (t.kids.length+1) 0 l (by omega) (by omega) (by omega);simpa[iO,uQ]using this
  | succ n ih=>
   intro l hn hl;rw[show 2*(n+1)+(t.kids.length+3)=(2*n+(t.kids.length+3))+1+1 by omega];obtain⟨b,hb⟩:=NA t (q.take n) (by simp;omega);refine ou _ _ _ _ _ _ ⟨λ_=>⟨by omega,n,by omega,by omega,_,b,hb,?_⟩,λh=>by omega⟩;obtain⟨x,hx,_⟩|h':=aQ q n
   rotate_left
   ·omega
   ·have e:((n+1:Nat):Int)-1=(n:Int):=by omega
    refine uS _ _ _ _ _ _ _ ⟨λh20=>⟨by omega,n,by omega,x,hx,λh1=>⟨by omega,n,by omega,by omega,by simp;omega,by omega,?_⟩,λh1=>⟨by omega,?_⟩⟩,λh20=>⟨by omega,?_⟩⟩
    ·rw[iO,if_pos ⟨h20,by rw[hx,h1]⟩,e];have :=ih (l++[q.take n]) (by omega) (by simp;omega);simpa using this
    ·rw[iO,if_neg (λh=>h1 (by have :=h.2;rw[hx]at this;injection this)),e];have :=ih l (by omega) (by omega);simpa using this
    ·rw[iO,if_neg λh=>h20 h.1,e];have :=ih l (by omega) (by omega);simpa using this
 refine vT (2*q.length+(t.kids.length+3)) _ _ _ ⟨_,_,Mw t q (by omega),λh=>?_,λh=>⟨λh0=>?_,λh0=>?_⟩⟩
 ·simp[arP,h]
 ·have :q=[]:=List.length_eq_zero_iff.1 (by omega);subst this;simp[arP]
 ·cases q with
  |nil=>simp at h0
  | cons i r=>
   have e:arP t (i::r)=if i=(t.kids.length:Int)-1 then iO t (i::r) (i::r).length++uQ (t.kids.length-2)else[]:=by simp[arP,h]
   rw[e];refine⟨i,I,λh1=>?_,λh1=>?_⟩
   ·rw[if_neg h1]
   ·rw[if_pos h1];have :=l0 (i::r).length [] (aaf _) (by simp only[aae];omega);simpa using this
def de(t:Tree)(x:YI):aj:=⟨(atD t x).text,x⟩
def jr(t:Tree):Bool:=t.kind==2&&shapeK t
theorem Kx(t:Tree)(ht:tbulk t<=1000000000):mV t (jr t):=yf 0 _ _ ⟨λh=>⟨_,yz t ht,by simp[jr,h]⟩,λh=>by simp[jr,h]⟩
theorem RK(t:Tree)(ht:tbulk t<=1000000000):oT t (jr t):=zK 0 _ _ ⟨λh=>⟨_,AH t ht,by simp[jr,h]⟩,λh=>by simp[jr,h]⟩
theorem An(h:jr t=true):2<=t.kids.length:=by
 simp only[jr,aaa,aaq]at h;have h2:=h.2;rw[ee,h.1]at h2;simp only[aaa,aat]at h2;have :=h2.1.1;simp only[bT,f0]at this
 repeat' split at this
 all_goals omega
theorem LU(t:Tree)(q:YI)(w:YB)(hf:jr t=true)(ht:tbulk t<=400000000)(hq:q.length<=400000000)(hb:∀x∈arP t q,x.length<=1000000000):gN t q w (fy ((arP t q).map<|de t) w).1 (fy ((arP t q).map<|de t) w).2:=by
 have hk:=cb t;have har:=Nf t q (An hf) (by omega) hq;have hal:(arP t q).length<=1000000000:=by
  cases q with
  |nil=>unfold arP;split<;>simp
  | cons i r=>
   have :=Fa t (i::r) (i::r).length;unfold arP;split
   ·simp
   ·simp only;split
    ·simp only[aac,uQ,aan,List.length_range];omega
    ·simp
 obtain⟨A,hA⟩:∃A,A=arP t q:=⟨_,rfl⟩;rw[<-hA]at har hal hb⊢;have loop:∀k i,A.length-i<=k->gv (2*k+1) t w A i (fy ((A.drop i).map<|de t) w).1 (fy ((A.drop i).map<|de t) w).2:=λk=>by
  induction k with
  |zero=>
   intro i hi;refine jB 0 _ _ _ _ _ _ ⟨λh=>by omega,λ_=>?_⟩;rw[List.drop_of_length_le<|by omega];simp[fy]
  | succ k ih=>
   intro i hi;rw[show 2*(k+1)+1=2*k+1+1+1 by omega];obtain⟨x,hx,_⟩|h':=aQ A i
   ·have hxl:=hb x<|List.mem_of_getElem? hx;obtain⟨b,hb'⟩:=NA t x hxl;refine jB _ _ _ _ _ _ _ ⟨λ_=>⟨x,hx,_,b,hb',?_⟩,λh=>by omega⟩;rw[bc hx,aah,fy];refine ve _ _ _ _ _ _ _ _ ⟨λh=>⟨x,hx,hxl,?_,?_⟩,λh=>⟨by omega,?_⟩⟩
    ·rw[if_pos<|show(de t x).name=w from h];rfl
    ·rw[if_pos<|show(de t x).name=w from h]
    ·rw[if_neg<|show¬(de t x).name=w from h];exact ih (i+1) (by omega)
   ·refine jB _ _ _ _ _ _ _ ⟨λh=>absurd h h',λ_=>?_⟩;rw[List.drop_of_length_le<|by omega];simp[fy]
 have :=loop A.length 0 (by omega);rw[List.drop_zero]at this;exact pm (2*A.length+1) _ _ _ _ _ ⟨_,Kx t (by omega),λh=>(by rw[hf]at h;cases h),λ_=>⟨A,har,this⟩⟩
theorem CL:∀{l:YT} {q:YI} {i:Nat} {x:YI×Tree},x∈nodKs l q i->∃j w,l[j]?=some w∧x∈nodK w (q++[((i+j:Nat):Int)])
 |[],q,i,x,h=>by simp[nodKs]at h
 | t::r,q,i,x,h=>by
  simp only[nodKs,aal]at h;rcases h with h|h
  ·exact⟨0,t,I,h⟩
  ·obtain⟨j,w,h1,h2⟩:=CL h;exact⟨j+1,w,by simpa using h1,by rw[show i+(j+1)=i+1+j by omega];exact h2⟩
theorem CZ{k:Int}{s:YB}:∀{l:YT} {q:YI} {i:Nat} {E:List aj} {x:YI×Tree×List aj},x∈nodEs k s l q i E->∃j w,l[j]?=some w∧x∈nodE w (q++[((i+j:Nat):Int)]) (if k=20∧i+j=1 then E++[⟨s,q⟩]else E)
 |[],q,i,E,x,h=>by simp[nodEs]at h
 | t::r,q,i,E,x,h=>by
  simp only[nodEs,aal]at h;rcases h with h|h
  ·exact⟨0,t,I,h⟩
  ·obtain⟨j,w,h1,h2⟩:=CZ h;exact⟨j+1,w,by simpa using h1,by rw[show i+(j+1)=i+1+j by omega];exact h2⟩
theorem uU{k n:Int}:∀{l:YT} {i j:Nat} {u:Tree},shapeKs k n i l=true->l[j]?=some u->gb k n ((i+j:Nat):Int) u.kind=true∧shapeK u=true
 |[],i,j,u,_,h=>by simp at h
 |t::r,i,0,u,h,E=>by simp only[shapeKs,aaa]at h;simp only[List.getElem?_cons_zero,aab]at E;subst E;exact⟨by simpa using h.1.1,h.1.2⟩
 |t::r,i,j+1,u,h,E=>by simp only[shapeKs,aaa]at h;have :=uU (i:=i+1) (j:=j) h.2 (by simpa using E);exact⟨by rw[show i+(j+1)=i+1+j by omega];exact this.1,this.2⟩
theorem Sa:∀(v:Tree) (q:YI),shapeK v=true->(nh v.kind=true∨v.kind=4)->∀x∈nodK v q,x.2.kind≠12:=cP λv ih q hs J x hx=>by
 rw[zm,aak]at hx;rw[ee]at hs;simp only[aaa,aat]at hs;have O:(5<=v.kind∧v.kind<=9)∨v.kind=4:=by
  rcases J with h|h
  ·exact .inl (by simpa[nh]using h)
  ·exact .inr h
 rcases hx with rfl|hx
 ·simp only;omega
 ·obtain⟨j,w,E,U⟩:=CL hx;obtain⟨h1,h2⟩:=uU hs.2 E;have G:=(List.getElem?_eq_some_iff.1 E).1;refine ih j w E _ h2 (.inl ?_) x U;have hl:=hs.1.1;by_cases Z:v.kind=4
  ·rw[Z]at h1;simpa[gb]using h1
  ·by_cases h8:v.kind=8
   ·rw[h8]at h1;simpa[gb]using h1
   ·exfalso;have h5:v.kind=5∨v.kind=6∨v.kind=7∨v.kind=9:=by omega
    have :bT v.kind v.kids.length=f0 v.kids.length 0 1 0 0:=by
     rcases h5 with e|e|e|e<;>rw[e]<;>rfl
    have h6:f0 v.kids.length 0 1 0 0=-1:=by unfold f0;rw[if_pos ⟨by omega,by omega⟩]
    omega
theorem FW(t:Tree)(q s:YI):∀n,n<=q.length->iO t (q++s) n=iO t q n
 |0,_=>rfl
 |n+1,h=>by
  simp only[iO,FW t q s n<|by omega];rw[List.take_append_of_le_length (by omega),List.getElem?_append_left<|by omega]
theorem Nd{v:Tree}{r:YI}{j:Nat}(hq:q=b::r)(hb:b=(t.kids.length:Int)-1)(h1:atK t q=some v)(h2:(atK t<|q++[(j:Int)]).isSome=true):arP t (q++[(j:Int)])=(if v.kind=20∧j=1 then[q]else[])++arP t q:=by
 subst hq;have G:arP t (b::r)=iO t (b::r) (b::r).length++uQ (t.kids.length-2):=by unfold arP;rw[h1];simp[hb]
 have J:arP t (b::r++[(j:Int)])=iO t (b::r++[(j:Int)]) (b::r++[(j:Int)]).length++uQ (t.kids.length-2):=by unfold arP;rw[if_neg (by rw[h2];simp)];simp only[aas];rw[if_pos hb]
 rw[G,J,<-aai]
 congr 1
 rw[aac,List.length_singleton,iO,FW t (b::r) _ _<|aaf _]
 congr 1
 have O:(b::r++[(j:Int)]).take (b::r).length=b::r:=by rw[List.take_append_of_le_length<|aaf _,List.take_length]
 have U:(b::r++[(j:Int)])[(b::r).length]?=some (j:Int):=by rw[List.getElem?_append_right<|aaf _];simp
 rw[O,U];have Z:atD t (b::r)=v:=by unfold atD;rw[h1];rfl
 rw[Z];by_cases h:v.kind=20∧j=1
 ·rw[if_pos h,if_pos ⟨h.1,by rw[h.2];rfl⟩]
 ·rw[if_neg h,if_neg (λE=>h ⟨E.1,by have :=E.2;injection this with this;omega⟩)]
theorem PC(hb:b=(t.kids.length:Int)-1):∀(v:Tree) (q:YI) (E:List aj),atK t q=some v->(∃r,q=b::r)->E.reverse=(arP t q).map (de t)->∀x∈nodE v q E,x.2.2.reverse=(arP t x.1).map (de t):=cP λv ih q E hq hr J x hx=>by
 rw[GO,aak]at hx;rcases hx with rfl|hx
 ·exact J
 ·obtain⟨j,w,O,U⟩:=CZ hx;rw[Nat.zero_add]at U;have G:atK t (q++[(j:Int)])=some w:=by rw[vt,hq];exact jY O
  obtain⟨r,hr⟩:=hr;refine ih j w O _ _ G ⟨r++[(j:Int)],by rw[hr];rfl⟩ ?_ x U;rw[Nd hr hb hq (by rw[G];rfl),aao,<-J];by_cases h:v.kind=20∧j=1
  ·rw[if_pos h,if_pos h,List.reverse_append];have :de t q=⟨v.text,q⟩:=by unfold de atD;rw[hq];rfl
   simp[this]
  ·rw[if_neg h,if_neg h];rfl
def lu(t:Tree):List (YI×Tree)->List aD
 |[]=>[]
 |x::r=>(if x.2.kind=12 then[⟨x.1,(fy ((arP t x.1).map<|de t) x.2.text).1,!(fy ((arP t x.1).map<|de t) x.2.text).2⟩]else[])++lu t r
theorem EY(t:Tree):∀a b,lu t (a++b)=lu t a++lu t b
 |[],b=>rfl
 |x::r,b=>by simp only[aas,lu,EY t r b,aai]
theorem Fu(t:Tree):∀a,(lu t a).length<=a.length
 |[]=>aaf _
 |x::r=>by have :=Fu t r;simp only[lu,aac,aad];split<;>simp <;>omega
theorem CA(t:Tree):∀a,(∀x∈a,x.2.kind≠12)->lu t a=[]
 |[],_=>rfl
 |x::r,h=>by rw[lu,if_neg (h x<|by simp),CA t r λy hy=>h y<|by simp[hy]];rfl
theorem Fk{t:Tree}:∀X:List<|YI×Tree×List aj,(∀x∈X,x.2.2.reverse=(arP t x.1).map (de t))->jk X=lu t (X.map λx=>(x.1,x.2.1))
 |[],_=>rfl
 |x::r,h=>by
  rw[aah,lu,jk,Fk r λy hy=>h y<|by simp[hy]]
  congr 1
  rw[MR,h x<|by simp]
def pO:Nat->YT->List aj
 |_,[]=>[]
 |i,t::r=>⟨t.text,[(i:Int)]⟩::pO (i+1) r
theorem yu:∀(i:Nat) (l:YT) (t:Tree),pO i (l++[t])=pO i l++[⟨t.text,[((i+l.length:Nat):Int)]⟩]
 |i,[],t=>rfl
 |i,u::r,t=>by simp only[aas,pO,yu (i+1) r t,aad];rw[show i+1+r.length=i+(r.length+1) by omega]
theorem EJ:∀(i:Nat) (l:YT),(pO i l).length=l.length
 |i,[]=>rfl
 |i,t::r=>by simp[pO,EJ (i+1) r]
theorem Dl:∀(i:Nat) (l:YT),∀b∈pO i l,b.path.length=1
 |i,[],b,h=>by simp[pO]at h
 |i,t::r,b,h=>by
  simp only[pO,aak]at h;rcases h with rfl|h
  ·rfl
  ·exact Dl (i+1) r b h
def yv(t:Tree):List aj:=(pO 0<|t.kids.take<|t.kids.length-2).reverse
theorem Mp(t:Tree)(h2:2<=t.kids.length)(ht:t.kids.length<=400000000):ru t (yv t):=by
 have loop:∀(n:Nat) (l:List aj),n<=t.kids.length->l.length+n<=1000000000->mw (n+1) t l ((n:Int)-1) (l++(pO 0<|t.kids.take n).reverse):=λn=>by
  induction n with
  |zero=>intro l _ _;exact tr 0 _ _ _ _ ⟨λh=>by omega,λ_=>by simp[pO]⟩
  | succ n ih=>
   intro l hn hl;obtain⟨x,hx,_⟩|h':=aQ t.kids n
   ·refine tr (n+1) _ _ _ _ ⟨λ_=>⟨n,by omega,x,hx,by simp;omega,by omega,?_⟩,λh=>by omega⟩;rw[show((n+1:Nat):Int)-1-1=(n:Int)-1 by omega];have :=ih (l++[⟨x.text,[((n+1:Nat):Int)-1]⟩]) (by omega) (by simp;omega);rw[List.take_add_one,hx,Option.toList_some,yu,aax,List.reverse_append];rw[show min n t.kids.length=n by omega,Nat.zero_add];rw[show((n+1:Nat):Int)-1=(n:Int) by omega]at this⊢;simpa using this
   ·omega
 have :=loop (t.kids.length-2) [] (by omega) (by simp;omega);rw[show((t.kids.length-2:Nat):Int)-1=(t.kids.length:Int)-3 by omega]at this;exact Bf _ _ _ (by simpa[yv]using this)
def jf(t:Tree):List aD:=if jr t=true then lu t (nodK t [])else[]
theorem JA(hf:jr t=true)(hu:t.kids[t.kids.length-1]?=some u):jk (nodE u [(t.kids.length:Int)-1]<|yv t)=lu t (nodK t []):=by
 have h2:=An hf;have hb:((t.kids.length-1:Nat):Int)=(t.kids.length:Int)-1:=by omega
 have hat:atK t [(t.kids.length:Int)-1]=some u:=by rw[<-hb];exact jY hu
 have henv:=PC (t:=t) (b:=(t.kids.length:Int)-1) rfl u [(t.kids.length:Int)-1] (yv t) hat ⟨[],rfl⟩ (by
  rw[yv,List.reverse_reverse];have e:arP t [(t.kids.length:Int)-1]=iO t [(t.kids.length:Int)-1] 1++uQ (t.kids.length-2):=by unfold arP;rw[hat];simp
  simp only[jr,aaa,aaq]at hf;have e2:iO t [(t.kids.length:Int)-1] 1=[]:=by simp only[iO,aaz];rw[if_neg];intro h;have :=h.1;simp only[List.take_zero,atD,atK,Option.getD_some]at this;omega
  rw[e,e2,aaj,uQ,List.map_map];have key:∀n,n<=t.kids.length->pO 0 (t.kids.take n)=(List.range n).map (de t∘λ(i:Nat)=>[(i:Int)]):=λn=>by
   induction n with
   |zero=>intro _;simp[pO]
   | succ n ih=>
    intro hn;obtain⟨x,hx,_⟩|h':=aQ t.kids n
    ·rw[List.take_add_one,hx,Option.toList_some,yu,ih (by omega),List.range_succ,aao,aax];rw[show min n t.kids.length=n by omega,Nat.zero_add]
     congr 1
     simp only[aah,aav,Function.comp];have :atK t [(n:Int)]=some x:=jY hx;simp[de,atD,this]
    ·omega
  exact key _ (by omega))
 rw[Fk _ henv,nodE_nodK,zm t []];simp only[jr,aaa,aaq]at hf;rw[lu,if_neg (by simp only;omega),aaj];have hs:=hf.2;rw[ee,hf.1]at hs;simp only[aaa]at hs;have key:∀k i,t.kids.length-1-i=k->i<=t.kids.length-1->lu t (nodKs (t.kids.drop i) [] i)=lu t (nodK u [(t.kids.length:Int)-1]):=λk=>by
  induction k with
  |zero=>
   intro i hk hi;have e:i=t.kids.length-1:=by omega
   subst e;rw[bc hu,nodKs,List.drop_of_length_le (by omega),nodKs,aaz,hb];rfl
  | succ k ih=>
   intro i hk hi;obtain⟨x,hx,_⟩|h':=aQ t.kids i
   ·rw[bc hx,nodKs,EY,ih (i+1) (by omega)<|by omega];obtain⟨g1,g2⟩:=uU hs.2 hx;rw[Nat.zero_add]at g1;rw[CA t _<|Sa x _ g2 ?_]
    ·rfl
    ·simp only[gb]at g1;rw[if_neg (by omega),if_pos trivial,if_neg<|by omega]at g1;split at g1
     ·exact .inl g1
     ·exact .inr (by simpa using g1)
   ·omega
 exact(key _ 0 I<|by omega).symm
theorem ES(t:Tree)(ht:tbulk t<=100000000):nX t (jf t):=by
 have J:=cb t;refine yR 0 _ _ ⟨_,RK t (by omega),λh=>by simp[jf,h],λh=>?_⟩;have h2:=An h;obtain⟨u,E,_⟩|h':=aQ t.kids<|t.kids.length-1
 ·have G:=cm E;have hs:(yv t).length<=t.kids.length:=by
   rw[yv,List.length_reverse,EJ,aax];omega
  have hv:=Mk u (yv t) [(t.kids.length:Int)-1] [] (by simp;omega) (by simp;omega) (by omega) (λb hb=>by have :=Dl 0 _ b (List.mem_reverse.1 hb);omega)
  rw[aaj,JA h E]at hv;exact⟨_,Mp t h2 (by omega),t.kids.length-1,by omega,u,E,_,_,_,hv,by simp[jf,h]⟩
 ·omega
open Go.RowKit
set_option maxHeartbeats 1000000 in
theorem GU(s:ByteArray)(c:Int)(w:World):Calls prog 176 #[.string s,.int .u8 c] w λe w'=>e=.returned (.int .i64<|Lib.indexByte s.data.toList c.toNat.toUInt8)∧w=w':=by
 go_enter func176,ntmps176
 go_wp2
 rw[run_callFunc_extern func195 (by kernel_rfl) (by kernel_rfl) (by kernel_rfl) (e:=Extern.BytealgIndexByte.indexByte) (by kernel_rfl),Lib.run_indexByteString];simp only[Result.andThen];rw[Oper.upon_value]
 go_wp2
 go_ret
 exact⟨I,I⟩
theorem IX(s:ByteArray)(c:Int)(w:World):Calls prog 134 #[.string s,.int .u8 c] w λe w'=>e=.returned (.int .i64<|Lib.indexByte s.data.toList c.toNat.toUInt8)∧w=w':=by
 go_enter func134,ntmps134
 go_wp2_with (go_at_call 176;refine qmm (GU _ _ _) ?_)
 go_ret
 exact⟨I,I⟩
def bC(s:YB):YT->Nat->Int
 |[],_=>-1
 |t::r,i=>if t.text=s then(i:Int)else bC s r (i+1)
theorem tg(s:YB):∀(l:YT) (i:Nat),bC s l i=-1∨∃k t,bC s l i=((i+k:Nat):Int)∧l[k]?=some t∧t.text=s∧∀j u,j<k->l[j]?=some u->u.text≠s
 |[],i=>.inl rfl
 | t::r,i=>by
  simp only[bC];split
  ·rename_i h;exact .inr ⟨0,t,I,I,h,λj u hj _=>by omega⟩
  ·rename_i h;rcases tg s r (i+1)with h1|⟨k,u,h1,h2,h3,h4⟩
   ·exact .inl h1
   ·refine .inr ⟨k+1,u,by rw[h1];congr 1;omega,by simpa using h2,h3,λj x hj hx=>?_⟩;cases j with
    |zero=>simp at hx;subst hx;exact h
    |succ j=>exact h4 j x (by omega) (by simpa using hx)
theorem MN(t:Tree)(s:YB):rp t s (t.text==s):=AP 0 _ _ _ rfl
theorem Gi(l:YT)(s:YB)(hl:l.length<=1000000000):mB l s (bC s l 0):=by
 have loop:∀m i,l.length-i<=m->iA (m+1) l s i (bC s (l.drop i) i):=λm=>by
  induction m with
  |zero=>
   intro i hi;refine qw 0 _ _ _ _ ⟨λh=>by omega,λh=>?_⟩;rw[List.drop_of_length_le (by omega),bC]
  | succ m ihm=>
   intro i hi;refine qw (m+1) _ _ _ _ ⟨λh=>?_,λh=>?_⟩
   ·obtain⟨u,hu,_⟩|h':=aQ l i
    ·rw[bc hu,bC];refine⟨u,hu,_,MN u s,λh1=>?_,λh1=>⟨by omega,?_⟩⟩
     ·rw[if_pos<|by simpa using h1]
     ·rw[if_neg<|by simpa using h1];exact ihm (i+1) (by omega)
    ·exact absurd h h'
   ·rw[List.drop_of_length_le (by omega),bC]
 exact ye _ _ _ _ (loop l.length 0<|by omega)
theorem Hn(l:YT)(s:YB)(E:l.length<=1000000000):qv l s (bC s l 0):=Dr 0 _ _ _ ⟨_,Gi l s E,rfl⟩
def dB:YB->Nat->Int
 |[],_=>-1
 |c::r,i=>if c=46 then(i:Int)else dB r (i+1)
theorem wO:∀(l:YB) (i:Nat),dB l i=-1∨∃k,dB l i=((i+k:Nat):Int)∧k<l.length
 |[],i=>.inl rfl
 | c::r,i=>by
  simp only[dB];split
  ·exact .inr ⟨0,rfl,by simp⟩
  ·rcases wO r (i+1)with h1|⟨k,h1,h2⟩
   ·exact .inl h1
   ·exact .inr ⟨k+1,by rw[h1];congr 1;omega,by simp;omega⟩
theorem NB(c:UInt8):∀(l:YB),-1<=Lib.indexByte l c
 |[]=>by simp[Lib.indexByte]
 |b::r=>by
  have :=NB c r;simp only[Lib.indexByte];split
  ·omega
  ·split<;>omega
theorem xV:∀(l:YB) (i:Nat),dB l i=if Lib.indexByte l 46=-1 then-1 else Lib.indexByte l 46+(i:Int)
 |[],i=>by simp[dB,Lib.indexByte]
 | c::r,i=>by
  have ih:=xV r<|i+1;have :=NB 46 r;simp only[dB,Lib.indexByte,ih];by_cases h:c=46
  ·simp[h]
  ·have h':(c==46)=false:=by simpa using h
   simp only[if_neg h,h'];by_cases h2:Lib.indexByte r 46=-1
   ·simp[h2]
   ·have h3:(Lib.indexByte r 46==-1)=false:=by simpa using h2
    simp only[if_neg h2,h3,aaB,if_false];rw[if_neg<|by omega];omega
theorem Gm(l:YB):ii l 46 (dB l 0):=sum0_calls rfl rfl λS w ρ xs hx=>by
 simp only[LRel]at hx;obtain⟨x,ys,rfl,h1,y,zs,rfl,h2,rfl⟩:=hx;simp only[VRel]at h1 h2;subst h1 h2;refine(GU _ _ w).mono λe w' ⟨h1,h2⟩=>⟨_,h1,?_,h2▸Chg.refl _ _⟩;simp only[VRel];have e:dB l 0=Lib.indexByte l 46:=by
  rw[xV];split
  ·rename_i h;rw[h]
  ·simp
 rw[e];rfl
theorem Hr(l:YB):cM l (dB l 0):=by
 refine oq 1 _ _ ⟨λh=>?_,λh=>nU 0 _ _ ?_⟩
 ·subst h;rfl
 ·exact⟨_,Gm l,I⟩
theorem QM(l:YB)(E:l.length<=1000000000):nR l (if 0<=dB l 0 then l.take (dB l 0).toNat else l) (if 0<=dB l 0 then l.drop ((dB l 0).toNat+1)else[]) (decide<|0<=dB l 0):=by
 refine yO 0 _ _ _ _ ⟨_,_,_,?_,I,I,I⟩;refine pG 0 _ _ _ _ ⟨_,Hr l,λh=>?_,λh=>?_⟩
 ·rcases wO l 0 with h1|⟨k,h1,h2⟩
  ·rw[h1]at h;omega
  ·rw[h1];exact⟨k,by simp,by omega,by omega,k+1,by simp,by omega,by simp,by simp,by simp⟩
 ·simp[h]
def inK(p:YT)(m:Int)(w:YB):Int×Int×Bool:=if m<0 then(0,0,false)else match p[m.toNat]? with
 |none=>(0,0,false)
 |some t=>if bC w t.kids 0<0 then(0,0,false)else(m,bC w t.kids 0,true)
def cx(p:YT)(m:Int)(w:YB):Int×Int×Bool:=if 0<=dB w 0 then inK p (bC (w.take (dB w 0).toNat) p 0) (w.drop<|(dB w 0).toNat+1)else inK p m w
theorem GL{m:Int}{w:YB}(E:m<p.length)(hp:kbulk p<=1000000000):nl 1 p m w (inK p m w).1 (inK p m w).2.1 (inK p m w).2.2:=by
 refine Bs 0 _ _ _ _ _ _ ⟨λh=>by simp[inK,h],λh=>?_⟩;obtain⟨t,ht,_⟩|h':=aQ p m.toNat
 ·have :=bX ht;have :=cb t;refine⟨m.toNat,by omega,t,ht,_,Hn _ _ (by omega),λh1=>?_,λh1=>?_⟩
  ·simp[inK,h,ht,h1]
  ·simp[inK,h,ht,h1]
 ·omega
theorem LX{m:Int}{w:YB}(U:0<=m)(E:m<p.length)(hp:kbulk p<=1000000000)(G:w.length<=1000000000):su p m w (cx p m w).1 (cx p m w).2.1 (cx p m w).2.2:=by
 have J:=fP p;refine Ck 1 _ _ _ _ _ _ ⟨λh=>by omega,λh=>⟨λh=>by omega,λh=>⟨_,_,_,QM w G,λh1=>?_,λh1=>?_⟩⟩⟩
 ·have h1:0<=dB w 0:=by simpa using h1
  simp only[if_pos h1,cx];refine⟨_,Hn _ _ (by omega),?_⟩;refine GL ?_ hp;rcases tg (w.take (dB w 0).toNat) p 0 with h2|⟨k,t,h2,O,_⟩
  ·rw[h2];omega
  ·have :=(List.getElem?_eq_some_iff.1 O).1;rw[h2];omega
 ·have h1:¬0<=dB w 0:=by simpa using h1
  simp only[cx,if_neg h1];exact GL E hp
theorem Ny(l:YB)(hl:l.length<=1000000000):nP l (dB l 0):=by
 have loop:∀m i,l.length-i<=m->jd (m+1) l i (dB (l.drop i) i):=λm=>by
  induction m with
  |zero=>
   intro i hi;refine qZ 0 _ _ _ ⟨λh=>by omega,λh=>?_⟩;rw[List.drop_of_length_le (by omega),dB]
  | succ m ihm=>
   intro i hi;refine qZ (m+1) _ _ _ ⟨λh=>?_,λh=>?_⟩
   ·obtain⟨u,hu,_⟩|h':=aQ l i
    ·rw[bc hu,dB];refine⟨u,hu,λh1=>?_,λh1=>⟨by omega,?_⟩⟩
     ·rw[if_pos<|UInt8.toNat_inj.1 (by show u.toNat=46;omega)]
     ·rw[if_neg λe=>h1 (by subst e;rfl)];exact ihm (i+1) (by omega)
    ·exact absurd h h'
   ·rw[List.drop_of_length_le (by omega),dB]
 exact yk _ _ _ (loop l.length 0<|by omega)
theorem Ot{k:Nat}{w:YB}(ht:p[k]?=some t):∀i,t.kids.length-i<=m->dK (m+1) p i (k:Int) w (if bC w (t.kids.drop i) i<0 then 0 else(k:Int)) (if bC w (t.kids.drop i) i<0 then 0 else bC w (t.kids.drop i) i) (decide<|¬bC w (t.kids.drop i) i<0):=by
 induction m with
 |zero=>
  intro i hi;refine qo 0 _ _ _ _ _ _ _ ⟨k,I,t,ht,λh=>by omega,λh=>?_⟩;rw[List.drop_of_length_le (by omega),bC];simp
 | succ m ihm=>
  intro i hi;refine qo (m+1) _ _ _ _ _ _ _ ⟨k,I,t,ht,λh=>?_,λh=>?_⟩
  ·obtain⟨u,hu,_⟩|h':=aQ t.kids i
   ·rw[bc hu,bC];refine⟨k,I,t,ht,u,hu,λh1=>?_,λh1=>?_⟩
    ·have h2:¬((i:Int)<0):=by omega
     simp only[if_pos h1,if_neg h2];simp[h2]
    ·simp only[if_neg h1];exact ihm (i+1) (by omega)
   ·exact absurd h h'
  ·rw[List.drop_of_length_le (by omega),bC];simp
theorem QF{m:Int}{w:YB}(h0:0<=m)(hm:m<p.length)(hp:kbulk p<=1000000000)(hw:w.length<=1000000000):fW p m w (cx p m w).1 (cx p m w).2.1 (cx p m w).2.2:=by
 have hpl:=fP p;have one:∀(k:Nat) (x:YB) t,p[k]?=some t->∃M,∀m',M<=m'->dK m' p 0 (k:Int) x (inK p k x).1 (inK p k x).2.1 (inK p k x).2.2:=λk x t ht=>by
  refine⟨t.kids.length+1,λm' hm'=>?_⟩;obtain⟨q,rfl⟩:∃q,m'=q+1:=⟨m'-1,by omega⟩;have :=Ot (w:=x) (m:=q) ht 0 (by omega);have e:inK p k x=(if bC x (t.kids.drop 0) 0<0 then 0 else(k:Int),if bC x (t.kids.drop 0) 0<0 then 0 else bC x (t.kids.drop 0) 0,decide<|¬bC x (t.kids.drop 0) 0<0):=by simp only[inK,show¬((k:Int)<0) by omega,if_false,Int.toNat_natCast,ht,List.drop_zero];split<;>simp_all
  rw[e];exact this
 by_cases hd:0<=dB w 0
 ·rcases wO w 0 with h1|⟨k,h1,h2⟩
  ·rw[h1]at hd;omega
  have hk:(dB w 0).toNat=k:=by rw[h1];simp
  simp only[cx,if_pos hd,hk];have loop:∀n i,p.length-i<=n->i<=p.length->∃M,∀m',M<=m'->fo m' p w (dB w 0) i (inK p (bC (w.take k) (p.drop i) i)<|w.drop<|k+1).1 (inK p (bC (w.take k) (p.drop i) i)<|w.drop<|k+1).2.1 (inK p (bC (w.take k) (p.drop i) i)<|w.drop<|k+1).2.2:=λn=>by
   have last:∀i,i=p.length->∃M,∀m',M<=m'->fo m' p w (dB w 0) i (inK p (bC (w.take k) (p.drop i) i)<|w.drop<|k+1).1 (inK p (bC (w.take k) (p.drop i) i)<|w.drop<|k+1).2.1 (inK p (bC (w.take k) (p.drop i) i)<|w.drop<|k+1).2.2:=λi hi=>by refine⟨2,λm' hm'=>?_⟩;obtain⟨q,rfl⟩:∃q,m'=q+2:=⟨m'-2,by omega⟩;refine kU (q+1) _ _ _ _ _ _ _ ⟨λh=>by omega,λ_=>qz q _ _ _ _ _ _ _ ⟨λ_=>?_,λh=>absurd hi h⟩⟩;rw[List.drop_of_length_le (by omega),bC];simp[inK]
   induction n with
   |zero=>intro i hi hle;exact last i (by omega)
   | succ n ih=>
    intro i hi hle;obtain⟨u,hu,hlt⟩|h':=aQ p i
    ·by_cases ht:u.text=w.take k
     ·obtain⟨M,hM⟩:=one i (w.drop<|k+1) u hu;refine⟨M+2,λm' hm'=>?_⟩;obtain⟨q,rfl⟩:∃q,m'=q+2:=⟨m'-2,by omega⟩;rw[bc hu,bC,if_pos ht];refine kU (q+1) _ _ _ _ _ _ _ ⟨λ_=>⟨u,hu,k,by rw[h1];simp,by omega,λh=>absurd ht h,λ_=>?_⟩,λh=>absurd hlt h⟩;refine qz q _ _ _ _ _ _ _ ⟨λh=>by omega,λ_=>⟨by rw[h1];omega,k+1,by rw[h1];omega,by omega,hM q<|by omega⟩⟩
     ·obtain⟨M,hM⟩:=ih (i+1) (by omega) (by omega);refine⟨M+1,λm' hm'=>?_⟩;obtain⟨q,rfl⟩:∃q,m'=q+1:=⟨m'-1,by omega⟩;rw[bc hu,bC,if_neg ht];exact kU q _ _ _ _ _ _ _ ⟨λ_=>⟨u,hu,k,by rw[h1];simp,by omega,λ_=>hM q (by omega),λh=>absurd h ht⟩,λh=>absurd hlt h⟩
    ·exact last i (by omega)
  obtain⟨M,hM⟩:=loop p.length 0 (by omega) (by omega);exact ri M _ _ _ _ _ _ ⟨_,Ny w hw,λ_=>hM M<|aaf _,λh=>absurd hd h⟩
 ·simp only[cx,if_neg hd];obtain⟨t,ht,_⟩|h':=aQ p m.toNat
  ·obtain⟨M,hM⟩:=one m.toNat w t ht;have :=hM M<|aaf _;rw[show((m.toNat:Nat):Int)=m by omega]at this;exact ri M _ _ _ _ _ _ ⟨_,Ny w hw,λh=>absurd h hd,λ_=>this⟩
  ·omega
def uM(u:Tree):Bool:=u.kind==16||u.kind==9
def tgK(p:YT)(m:Int)(q:YI)(u:Tree):aC:=⟨⟨m,q⟩,(cx p m u.text).1,(cx p m u.text).2.1,!(cx p m u.text).2.2⟩
def lW(p:YT)(m:Int):List (YI×Tree)->List aC
 |[]=>[]
 |x::r=>(if uM x.2 then[tgK p m x.1 x.2]else[])++lW p m r
theorem FF(p:YT)(m:Int):∀a b,lW p m (a++b)=lW p m a++lW p m b
 |[],b=>rfl
 |x::r,b=>by simp only[aas,lW,FF p m r b,aai]
theorem xg(p:YT)(m:Int):∀a,(lW p m a).length<=a.length
 |[]=>aaf _
 |x::r=>by have :=xg p m r;simp only[lW,aac,aad];split<;>simp <;>omega
theorem Pd{M:Int}(h0:0<=M)(hM:M<p.length)(hp:kbulk p<=1000000000):∀(t:Tree) (q:YI) (fd:List aC),q.length+tbulk t<=1000000000->fd.length+tbulk t<=1000000000->fJ p M q fd t p M q (fd++lW p M (nodK t q)):=cP λt ih q fd hq hf=>by
 have hk:=cb t;have ht:=cN t;have hb:=bt t;have loop:∀k i fd,t.kids.length-i<=k->fd.length+kbulk (t.kids.drop i)<=1000000000->dD (k+1) t fd p M q i p M q (fd++lW p M (nodKs (t.kids.drop i) q i)):=λk=>by
  induction k with
  |zero=>
   intro i fd hi hf;refine mP 0 _ _ _ _ _ _ _ _ _ _ ⟨λh=>by omega,λh=>⟨I,I,I,?_⟩⟩;rw[List.drop_of_length_le<|by omega];simp[nodKs,lW]
  | succ k ihk=>
   intro i fd hi hf;refine mP (k+1) _ _ _ _ _ _ _ _ _ _ ⟨λh=>?_,λh=>⟨I,I,I,?_⟩⟩
   ·obtain⟨u,hu,_⟩|h':=aQ t.kids i
    ·have hd:=bc hu;rw[hd,kbulk]at hf;have hbu:=cm hu;have hl:=nodK_len u<|q++[(i:Int)];have hl2:=xg p M<|nodK u<|q++[(i:Int)];refine⟨u,hu,by simp;omega,_,_,_,_,ih i u hu (q++[(i:Int)]) fd (by simp;omega) (by omega),q.length,by simp,by simp,by omega,?_⟩;have :=ihk (i+1) (fd++lW p M (nodK u<|q++[(i:Int)])) (by omega) (by simp;omega);rw[hd,nodKs,FF,<-aai];simpa using this
    ·exact absurd h h'
   ·rw[List.drop_of_length_le<|by omega];simp[nodKs,lW]
 have key:∀b,b=uM t->eU (t.kids.length+3) p M q fd t b p M q (fd++lW p M (nodK t q)):=λb hbb=>by
  rw[zm,lW];refine tN (t.kids.length+2) _ _ _ _ _ _ _ _ _ _ ⟨λh=>?_,λh=>?_⟩
  ·rw[if_pos (by rw[<-hbb];exact h)];refine⟨_,_,_,LX h0 hM hp (by omega),_,As q (by omega),tu (t.kids.length+1) _ _ _ _ _ _ _ _ _ _ _ _ _ ⟨by simp;omega,?_⟩⟩;have :=loop t.kids.length 0 (fd++[tgK p M q t]) (by omega) (by simp;omega);rw[<-aai];exact this
  ·rw[if_neg (by rw[<-hbb,h];simp)];have :=loop (t.kids.length+1) 0 fd (by omega) (by simp;omega);simpa using this
 refine tR (t.kids.length+3) _ _ _ _ _ _ _ _ _ ⟨λh=>key _ (by simp[uM,h]),λh=>key _<|by simp[uM,h]⟩
def dn:YT->Bool
 |[]=>true
 |t::r=>t.kind==1&&shapeK t&&dn r
theorem Kk(p:YT)(hp:kbulk p<=1000000000):rq p (dn p):=by
 have hl:=fP p;have loop:∀m i,p.length-i<=m->ml (m+1) p i (dn<|p.drop i):=λm=>by
  induction m with
  |zero=>
   intro i hi;refine tw 0 _ _ _ ⟨λh=>by omega,λh=>?_⟩;rw[List.drop_of_length_le (by omega),dn]
  | succ m ihm=>
   intro i hi;refine tw (m+1) _ _ _ ⟨λh=>?_,λh=>?_⟩
   ·obtain⟨u,hu,_⟩|h':=aQ p i
    ·rw[bc hu,dn];have :=bX hu;refine⟨u,hu,λh1=>by simp[h1],λh1=>⟨_,AH u (by omega),λh2=>by simp[h1,h2],λh2=>⟨by omega,?_⟩⟩⟩;simp only[h1,h2,beq_self_eq_true,Bool.true_and];exact ihm (i+1) (by omega)
    ·exact absurd h h'
   ·rw[List.drop_of_length_le (by omega),dn]
 exact Bk _ _ _ (loop p.length 0<|by omega)
def pT(p:YT):Nat->YT->List aC
 |_,[]=>[]
 |i,t::r=>lW p i (nodK t [])++pT p (i+1) r
theorem CU(p:YT):∀(i:Nat) (l:YT),(pT p i l).length<=kbulk l
 |_,[]=>aaf _
 |i,t::r=>by
  have :=CU p (i+1) r;have :=xg p i<|nodK t [];have :=nodK_len t [];simp only[pT,kbulk,aac];omega
def cJ(p:YT):List aC:=if dn p then pT p 0 p else[]
theorem KJ(p:YT)(hp:kbulk p<=100000000):rv p (cJ p):=by
 have hl:=fP p;have loop:∀m i z fd,p.length-i<=m->fd.length+kbulk (p.drop i)<=1000000000->mu (m+1) p p z [] fd i (fd++pT p i (p.drop i)):=λm=>by
  induction m with
  |zero=>
   intro i z fd hi hf;refine tM 0 _ _ _ _ _ _ _ ⟨λh=>by omega,λh=>?_⟩;rw[List.drop_of_length_le<|by omega];simp[pT]
  | succ m ihm=>
   intro i z fd hi hf;refine tM (m+1) _ _ _ _ _ _ _ ⟨λh=>?_,λh=>?_⟩
   ·obtain⟨u,hu,_⟩|h':=aQ p i
    ·have :=bX hu;have hd:=bc hu;rw[hd,kbulk]at hf;have :=xg p i<|nodK u [];have :=nodK_len u [];refine⟨u,hu,_,_,_,_,Pd (p:=p) (M:=(i:Int)) (by omega) (by omega) (by omega) u [] fd (by simp;omega) (by omega),by omega,?_⟩;rw[hd,pT,<-aai];exact ihm (i+1) _ _ (by omega) (by simp;omega)
    ·exact absurd h h'
   ·rw[List.drop_of_length_le<|by omega];simp[pT]
 refine Bt (p.length+1) _ _ ⟨_,Kk p (by omega),λh=>by simp[cJ,h],λh=>?_⟩;have :=loop p.length 0 0 [] (by omega) (by simp;omega);simpa[cJ,h]using this
theorem JL{M:Int}{w:YB}(h:(inK p M w).2.2=true):∃(i d:Nat) (t u:Tree),M=(i:Int)∧(inK p M w).1=(i:Int)∧(inK p M w).2.1=(d:Int)∧p[i]?=some t∧t.kids[d]?=some u∧u.text=w∧∀j v,j<d->t.kids[j]?=some v->v.text≠w:=by
 unfold inK at h⊢;by_cases hM:M<0
 ·rw[if_pos hM]at h;cases h
 ·rw[if_neg hM]at h⊢;cases ht:p[M.toNat]? with
  |none=>rw[ht]at h;cases h
  | some t=>
   rw[ht]at h;simp only at h⊢;rcases tg w t.kids 0 with e|⟨k,u,e1,e2,e3,e4⟩
   ·simp[e]at h
   ·have hn:¬bC w t.kids 0<0:=by omega
    rw[if_neg hn];exact⟨M.toNat,k,t,u,by omega,by simp only[];omega,by simp only[];omega,ht,e2,e3,e4⟩
theorem sZ{M:Int}{w:YB}(h:(cx p M w).2.2=true):∃(i d:Nat) (t u:Tree),(cx p M w).1=(i:Int)∧(cx p M w).2.1=(d:Int)∧p[i]?=some t∧t.kids[d]?=some u:=by
 unfold cx at h⊢;split at h
 ·rename_i E;rw[if_pos E];obtain⟨i,d,t,u,_,a1,G,J,O,_⟩:=JL h;exact⟨i,d,t,u,a1,G,J,O⟩
 ·rename_i E;rw[if_neg E];obtain⟨i,d,t,u,_,a1,G,J,O,_⟩:=JL h;exact⟨i,d,t,u,a1,G,J,O⟩
theorem qp{k n:Int}:∀{l:YT} {i j:Nat} {u:Tree},shapeKs k n i l=true->l[j]?=some u->gb k n ((i+j:Nat):Int) u.kind=true∧shapeK u=true
 |[],i,j,u,_,h=>by simp at h
 |t::r,i,0,u,h,E=>by simp only[shapeKs,aaa]at h;simp only[List.getElem?_cons_zero,aab]at E;subst E;exact⟨by simpa using h.1.1,h.1.2⟩
 |t::r,i,j+1,u,h,E=>by simp only[shapeKs,aaa]at h;have :=qp (i:=i+1) (j:=j) h.2 (by simpa using E);exact⟨by rw[show i+(j+1)=i+1+j by omega];exact this.1,this.2⟩
theorem rD:∀(q:YI) (t u:Tree),shapeK t=true->atK t q=some u->shapeK u=true
 |[],t,u,h,hu=>by simp only[atK,aab]at hu;subst hu;exact h
 | i::r,t,u,h,hu=>by
  simp only[atK]at hu;split at hu
  ·cases hu
  ·cases hv:t.kids[i.toNat]? with
   |none=>rw[hv]at hu;cases hu
   |some v=>
    rw[hv]at hu;rw[ee]at h;simp only[aaa]at h;exact rD r v u (qp h.2 hv).2 hu
theorem si:∀{p:YT} {i:Nat} {t:Tree},dn p=true->p[i]?=some t->t.kind=1∧shapeK t=true
 |[],i,t,_,h=>by simp at h
 |v::r,0,t,h,hi=>by simp only[dn,aaa,aaq]at h;simp only[List.getElem?_cons_zero,aab]at hi;subst hi;exact h.1
 |v::r,i+1,t,h,hi=>by simp only[dn,aaa]at h;exact si h.2 (by simpa using hi)
theorem xR:∀{l:List aj} {w:YB},(fy l w).2=true->∃b∈l,b.path=(fy l w).1
 |[],w,h=>by simp[fy]at h
 | b::r,w,h=>by
  unfold fy at h⊢;split
  ·exact⟨b,by simp,rfl⟩
  ·rename_i hn;rw[if_neg hn]at h;obtain⟨c,hc,e⟩:=xR h;exact⟨c,List.mem_cons_of_mem _ hc,e⟩
theorem Ht:∀(q:YI) (n:Nat) (t u:Tree),atK t q=some u->(atK t<|q.take n).isSome=true
 |[],n,t,u,h=>by simp[atK]
 |i::q,0,t,u,h=>by simp[atK]
 |i::q,n+1,t,u,h=>by
  simp only[atK]at h;split at h
  ·cases h
  rename_i hi;split at h
  ·cases h
  rename_i y hy;simp only[List.take_succ_cons,atK,if_neg hi,hy];exact Ht q n y u h
theorem Gs{t u:Tree}{q:YI}(h:atK t q=some u):∀n,∀x∈iO t q n,(atK t x).isSome=true∧x.length<=q.length
 |0,x,hx=>by simp[iO]at hx
 | n+1,x,hx=>by
  simp only[iO,aal]at hx;rcases hx with hx|hx
  ·split at hx
   ·rw[List.mem_singleton]at hx;subst hx;exact⟨Ht q n t u h,by rw[aax];omega⟩
   ·cases hx
  ·exact Gs h n x hx
theorem Bp{x:YI}(hx:x∈arP t q):(atK t x).isSome=true∧x.length<=q.length+1:=by
 unfold arP at hx;split at hx
 ·cases hx
 ·rename_i hs;cases hu:atK t q with
  |none=>rw[hu]at hs;exact absurd rfl hs
  | some u=>
   cases q with
   |nil=>cases hx
   | cons i r=>
    simp only at hx;split at hx
    ·rcases List.mem_append.1 hx with h|h
     ·obtain⟨a,b⟩:=Gs hu _ x h;exact⟨a,by omega⟩
     ·simp only[uQ,List.mem_map,List.mem_range]at h;obtain⟨k,hk,rfl⟩:=h;refine⟨?_,by simp⟩;obtain⟨v,hv⟩:∃v,t.kids[k]?=some v:=⟨_,List.getElem?_eq_getElem<|by omega⟩;simp[atK,hv]
    ·cases hx
theorem wG{t:Tree}{x:aD}:∀{l:List<|YI×Tree},x∈lu t l↔∃y∈l,y.2.kind=12∧x=⟨y.1,(fy ((arP t y.1).map<|de t) y.2.text).1,!(fy ((arP t y.1).map<|de t) y.2.text).2⟩
 |[]=>by simp[lu]
 | y ::r=>by
  simp only[lu,aal,wG (l:=r),aak];constructor
  ·rintro(h|⟨z,hz,h⟩)
   ·split at h
    ·rename_i hk;rw[List.mem_singleton]at h;exact⟨y,.inl I,hk,h⟩
    ·cases h
   ·exact⟨z,.inr hz,h⟩
  ·rintro⟨z,rfl|hz,h1,h2⟩
   ·left;rw[if_pos h1,List.mem_singleton];exact h2
   ·exact .inr ⟨z,hz,h1,h2⟩
theorem GC{x:aD}(h:x∈jf t):∃u,atK t x.Path=some u∧u.kind=12∧x.Path.length<=tbulk t∧(x.Free=false->(atK t x.Binder).isSome=true∧x.Binder.length<=tbulk t+1):=by
 unfold jf at h;split at h
 ·obtain⟨y,hy,O,rfl⟩:=wG.1 h;have G:=nodK_at t t [] rfl y hy;have hb:=nodK_bnd t [] y hy;simp only[aae,Nat.zero_add]at hb;refine⟨y.2,G,O,by simp only;omega,λhf=>?_⟩;simp only[Bool.not_eq_false']at hf;obtain⟨b,J,E⟩:=xR hf;obtain⟨z,hz,rfl⟩:=List.mem_map.1 J;simp only[de]at E;simp only[<-E];obtain⟨a1,U⟩:=Bp hz;exact⟨a1,by omega⟩
 ·cases h
def xb(m:Nat)(t:Tree)(d:Nat):List aD->List Asg
 |[]=>[]
 |x::r=>(if x.Free=true then[]else[(m,((ay t ((d:Int)::x.Path):Nat):Int),⟨(m:Int),((ay t ((d:Int)::x.Binder):Nat):Int)⟩)])++xb m t d r
def vf(m:Nat)(t:Tree):Nat->YT->List Asg
 |_,[]=>[]
 |d,f::r=>(if f.kind=2 then xb m t d (jf f)else[])++vf m t (d+1) r
def ss:Nat->YT->List Asg
 |_,[]=>[]
 |m,t::r=>vf m t 0 t.kids++ss (m+1) r
theorem bq{α:Type}{l:List α}{i:Nat}{x:α}(h:l[i]?=some x):l.drop i=x::l.drop (i+1):=by obtain⟨E,G⟩:=List.getElem?_eq_some_iff.1 h;rw[aam E,G]
theorem Gc {b:Int} {cs:List ai} {p:List Tree} (hb:kbulk p<=100000000) (us:Mps) (hu:us.length=p.length):gx b (bS p) (dV 0 p) us cs (dQ us<|ss 0 p):=by
 have hpl:=fP p;have hsl:(bS p).length=p.length:=by simp[bS]
 have l0 :∀k i (us:Mps),k+i=p.length->us.length=p.length->∃M,dG M b (bS p) (dV 0 p) cs i us (dQ us<|ss i<|p.drop i):=λk=>by
  induction k with
  |zero=>
   intro i us hi hu;refine⟨1,kr 0 _ _ _ _ _ _ _ (⟨λh=>by omega,λ_=>?_⟩)⟩;rw[List.drop_of_length_le<|by omega];rfl
  | succ k ih=>
   intro i us hi hu;obtain⟨t,ht⟩:∃t,p[i]?=some t:=⟨_,List.getElem?_eq_getElem (by omega)⟩;have hbt:=bX ht;have hkl:=cb t;rw[bq ht,ss,oU];have hx1:=eQ ht;have hx2:(flatK t (-1) 0 0)[0]?=some ⟨t,-1,0,fU t.kids 1⟩:=by rw[wD];rfl
   have l1:∀j d (us:Mps),j+d=t.kids.length->us.length=p.length->∃M,cG M b (bS p) (dV 0 p) cs (flatK t (-1) 0 0) ⟨t,-1,0,fU t.kids 1⟩ d i i us (dQ (dQ us<|vf i t d<|t.kids.drop d)<|ss (i+1)<|p.drop<|i+1):=λj=>by
    induction j with
    |zero=>
     intro d us hd hu;obtain⟨M,hM⟩:=ih (i+1) us (by omega) hu;refine⟨M+1,fB M _ _ _ _ _ _ _ _ _ _ _ (⟨λh=>by rw[ik]at h;omega,λ_=>⟨by omega,?_⟩⟩)⟩;rw[List.drop_of_length_le (by omega),vf];exact hM
    | succ j ihj=>
     intro d us hd hu;obtain⟨f,hf⟩:∃f,t.kids[d]?=some f:=⟨_,List.getElem?_eq_getElem (by omega)⟩;have hbf:=cm hf;have hat:atK t [(d:Int)]=some f:=jY hf;have hnum:=vw (t:=t) (q:=[]) rfl hf;rw[show ay t []+1=1 by simp[ay],aaj]at hnum;obtain⟨par,ix,hsp,_⟩:=mT hat;rw[bq hf,vf,oU];by_cases h2:f.kind=2
     ·rw [if_pos h2];have l2:∀n c (us:Mps),n+c=(jf f).length->us.length=p.length->∃M,cH M b (bS p) (dV 0 p) cs (flatK t (-1) 0 0) ⟨t,-1,0,fU t.kids 1⟩ ((ay t [(d:Int)]:Nat):Int) (jf f) us c i i d (dQ (dQ (dQ us<|xb i t d<|(jf f).drop c)<|vf i t (d+1)<|t.kids.drop<|d+1)<|ss (i+1)<|p.drop<|i+1):=λn=>by
       induction n with
       |zero=>
        intro c us hc hu;obtain⟨M,hM⟩:=ihj (d+1) us (by omega) hu;refine⟨M+1,fv M _ _ _ _ _ _ _ _ _ _ _ _ _ _ (⟨λh=>by omega,λ_=>⟨by omega,?_⟩⟩)⟩;rw[List.drop_of_length_le (by omega),xb];exact hM
       | succ n ihn=>
        intro c us hc hu;have hvl:(jf f).length<=tbulk f:=by
         unfold jf;split
         ·exact aap (Fu f _)<|nodK_len f []
         ·exact aar _
        obtain⟨x,hx⟩:∃x,(jf f)[c]?=some x:=⟨_,List.getElem?_eq_getElem<|by omega⟩;obtain⟨u,a1,a2,a3,a4⟩:=GC<|List.mem_of_getElem? hx;rw[bq hx,xb,oU];by_cases hfr:x.Free=true
        ·rw[if_pos hfr];obtain⟨M,hM⟩:=ihn (c+1) us (by omega) hu;exact⟨M+1,fv M _ _ _ _ _ _ _ _ _ _ _ _ _ _<|⟨λ_=>⟨x,hx,λh=>(by rw[hfr]at h;cases h),λ_=>⟨by omega,hM⟩⟩,λh=>by omega⟩⟩
        ·rw[if_neg hfr];obtain⟨b1,b2⟩:=a4 (by simpa using hfr);cases hbd:atK f x.Binder with
         |none=>rw[hbd]at b1;cases b1
         |some v=>
          obtain⟨l,hl⟩:∃l,us[i]?=some l:=⟨_,List.getElem?_eq_getElem<|by omega⟩;have f1:=Et x.Path [(d:Int)] f u hat a1 (by omega);have f2:=Et x.Binder [(d:Int)] f v hat hbd (by omega);rw[List.singleton_append]at f1 f2;obtain⟨M,hM⟩:=ihn (c+1) (us.set i<|eC ((ay t ((d:Int)::x.Path):Nat):Int) ⟨(i:Int),((ay t ((d:Int)::x.Binder):Nat):Int)⟩ l) (by omega) (by rw[aay];exact hu);refine⟨M+1,fv M _ _ _ _ _ _ _ _ _ _ _ _ _ _<|⟨λ_=>⟨x,hx,λ_=>⟨l,hl,_,f1,_,f2,by omega,?_⟩,λh=>absurd h hfr⟩,λh=>by omega⟩⟩;rw[<-Mq hl];exact hM
      obtain⟨M,hM⟩:=l2 (jf f).length 0 us (by omega) hu;rw[List.drop_zero]at hM;exact⟨M+1,fB M _ _ _ _ _ _ _ _ _ _ _<|⟨λ_=>⟨_,hnum,_,I,_,hsp,λh=>absurd h2 h,λ_=>⟨_,I,_,hsp,_,ES f (by omega),hM⟩⟩,λh=>by rw[ik]at h;omega⟩⟩
     ·rw[if_neg h2];obtain⟨M,hM⟩:=ihj (d+1) us (by omega) hu;exact⟨M+1,fB M _ _ _ _ _ _ _ _ _ _ _<|⟨λ_=>⟨_,hnum,_,I,_,hsp,λ_=>⟨by omega,hM⟩,λh=>absurd h h2⟩,λh=>by rw[ik]at h;omega⟩⟩
   obtain⟨M,hM⟩:=l1 t.kids.length 0 us (by omega) hu;rw[List.drop_zero]at hM;exact⟨M+1,kr M _ _ _ _ _ _ _<|⟨λ_=>⟨_,hx1,_,hx2,hM⟩,λh=>by omega⟩⟩
 obtain⟨M,hM⟩:=l0 p.length 0 us (by omega) hu;exact rY M _ _ _ _ _ _ (by rwa [List.drop_zero]at hM)
theorem CM{p:YT}{M:Int}:∀{a:List<|YI×Tree} {x:aC},x∈lW p M a↔∃q u,(q,u)∈a∧uM u=true∧x=tgK p M q u
 |[],x=>by simp[lW]
 | (q,u)::r,x=>by
  simp only[lW,aal,CM (a:=r),aak];constructor
  ·rintro(h|⟨q',u',h1,h2,h3⟩)
   ·split at h
    ·rename_i hu;rw[List.mem_singleton]at h;exact⟨q,u,.inl I,hu,h⟩
    ·cases h
   ·exact⟨q',u',.inr h1,h2,h3⟩
  ·rintro⟨q',u',h1|h1,h2,h3⟩
   ·injection h1 with e1 e2
    subst e1 e2;left;rw[if_pos h2,List.mem_singleton];exact h3
   ·exact .inr ⟨q',u',h1,h2,h3⟩
theorem xd{p:YT}:∀{i:Nat} {l:YT} {x:aC},x∈pT p i l↔∃j t q u,l[j]?=some t∧(q,u)∈nodK t []∧uM u=true∧x=tgK p ((i+j:Nat):Int) q u
 |i,[],x=>by simp[pT]
 | i,t::r,x=>by
  simp only[pT,aal,CM,xd (l:=r)];constructor
  ·rintro(⟨q,u,a1,a2,a3⟩|⟨j,t',q,u,a0,a1,a2,a3⟩)
   ·exact⟨0,t,q,u,I,a1,a2,a3⟩
   ·exact⟨j+1,t',q,u,by simpa using a0,a1,a2,by rw[a3];congr 2;omega⟩
  ·rintro⟨j,t',q,u,a0,a1,a2,a3⟩;cases j with
   |zero=>
    simp only[List.getElem?_cons_zero,aab]at a0;subst a0;exact .inl ⟨q,u,a1,a2,a3⟩
   |succ j=>exact .inr ⟨j,t',q,u,by simpa using a0,a1,a2,by rw[a3];congr 2;omega⟩
def sr(p:YT)(m:Int):Tree:=p.getD m.toNat zT0
theorem iU(h:p[m]?=some t):sr p (m:Int)=t:=by simp[sr,List.getD_eq_getElem?_getD,h]
def wA(t:Tree)(d:Int):Tree:=t.kids.getD d.toNat zT0
theorem lL{f:Tree}{d:Nat}(h:t.kids[d]?=some f):wA t (d:Int)=f:=by simp[wA,List.getD_eq_getElem?_getD,h]
theorem eK(h:atK t q=some u):atD t q=u:=by simp[atD,h]
def yL(m:Nat)(t tm:Tree)(q:YI)(gm gd n:Int):Nat->Nat->List Asg
 |0,_=>[]
 |k+1,i=>(if(i:Int)<n then[(m,((ay t (q++[(i:Int)]):Nat):Int),⟨gm,((ay tm [gd,(i:Int)]:Nat):Int)⟩)]else[])++yL m t tm q gm gd n k (i+1)
def yB(p:YT)(g:aC):List Asg:=if g.Free=true then[]else
 (g.Use.Module.toNat,((ay (sr p g.Use.Module) g.Use.Path:Nat):Int),⟨g.Module,((ay (sr p g.Module) [g.Def]:Nat):Int)⟩)::
  (if(atD (sr p g.Use.Module) g.Use.Path).kind=16 then yL g.Use.Module.toNat (sr p g.Use.Module) (sr p g.Module) g.Use.Path g.Module g.Def (((wA (sr p g.Module) g.Def).kids.length:Int)-2) (atD (sr p g.Use.Module) g.Use.Path).kids.length 0 else[])
def uV(p:YT):List aC->List Asg
 |[]=>[]
 |g::r=>yB p g++uV p r
theorem Ek{us:Mps}{k:Int}{v:ah}{l:List<|Int×ah}(h:us[m]?=some l)(r:List Asg):dQ us ((m,k,v)::r)=dQ (us.set m<|eC k v l) r:=by simp only[dQ,List.getD_eq_getElem?_getD,h,Option.getD_some]
theorem KD {b:Int} {cs:List ai} {p:List Tree} (hb:kbulk p<=100000000) (us:Mps) (hu:us.length=p.length):ib b (bS p) (dV 0 p) us cs p (dQ us<|uV p<|cJ p):=by
 have hpl:=fP p;have htl:(cJ p).length<=kbulk p:=by
  unfold cJ;split
  ·exact CU p 0 p
  ·exact aar _
 have hall:∀g∈cJ p,∃(j:Nat) (t:Tree) (q:YI) (u:Tree),p[j]?=some t∧atK t q=some u∧q.length<=100000000∧g=tgK p (j:Int) q u:=λg hg=>by
  unfold cJ at hg;split at hg
  ·obtain⟨j,t,q,u,a0,a1,a2,a3⟩:=xd.1 hg;have hbt:=bX a0;have :=nodK_bnd t [] _ a1;simp only[aae,Nat.zero_add]at this;exact⟨j,t,q,u,a0,nodK_at t t [] I _ a1,by omega,by rw[a3,Nat.zero_add]⟩
  ·cases hg
 have l0:∀k i (us:Mps),k+i=(cJ p).length->us.length=p.length->∃M,cp M b (bS p) (dV 0 p) cs (cJ p) i us (dQ us<|uV p<|(cJ p).drop i):=λk=>by
  induction k with
  |zero=>
   intro i us hi hu;refine⟨1,dT 0 _ _ _ _ _ _ _ _ (⟨λh=>by omega,λ_=>?_⟩)⟩;rw[List.drop_of_length_le<|by omega];rfl
  | succ k ih=>
   intro i us hi hu;obtain⟨g,hg⟩:∃g,(cJ p)[i]?=some g:=⟨_,List.getElem?_eq_getElem (by omega)⟩;rw[bq hg,uV,oU];by_cases hfr:g.Free=true
   ·obtain⟨M,hM⟩:=ih (i+1) us (by omega) hu;rw[yB,if_pos hfr];exact⟨M+1,dT M _ _ _ _ _ _ _ _<|⟨λ_=>⟨g,hg,λ_=>⟨by omega,hM⟩,λh=>(by rw[hfr]at h;cases h)⟩,λh=>by omega⟩⟩
   ·obtain⟨j,t,q,u,ht,hq,hql,e⟩:=hall g<|List.mem_of_getElem? hg;have hbt:=bX ht;have hlk:(cx p (j:Int) u.text).2.2=true:=by rw[e]at hfr;simpa[tgK]using hfr
    obtain⟨jm,d,tm,f,e1,e2,htm,hf⟩:=sZ hlk;have g1:g.Use.Module=(j:Int):=by rw[e];rfl
    have g2:g.Use.Path=q:=by rw[e];rfl
    have g3:g.Module=(jm:Int):=by rw[e];exact e1
    have g4:g.Def=(d:Int):=by rw[e];exact e2
    have hjl:=(List.getElem?_eq_some_iff.1 ht).1;have hx2:(flatK tm (-1) 0 0)[0]?=some ⟨tm,-1,0,fU tm.kids 1⟩:=by rw[wD];rfl
    have hatf:atK tm [(d:Int)]=some f:=jY hf;have hnum:=vw (t:=tm) (q:=[]) rfl hf;rw[show ay tm []+1=1 by simp[ay],aaj]at hnum;obtain⟨par,ix,hsp,_⟩:=mT hq;obtain⟨par',ix',hsf,_⟩:=mT hatf;have f1:=Et q [] t u rfl hq (by omega);rw[aaj,show ay t []=0 by simp[ay]]at f1;obtain⟨l,hl⟩:∃l,us[j]?=some l:=⟨_,List.getElem?_eq_getElem<|by omega⟩;have hag:yB p g=(j,((ay t q:Nat):Int),⟨(jm:Int),((ay tm [(d:Int)]:Nat):Int)⟩)::(if u.kind=16 then yL j t tm q (jm:Int) (d:Int) ((f.kids.length:Int)-2) u.kids.length 0 else[]):=by rw[yB,if_neg hfr,g1,g2,g3,g4,iU ht,iU htm,lL hf,eK hq,Int.toNat_natCast]
    rw[hag,Ek hl];obtain⟨us1,hus1⟩:∃us1,us1=us.set j (eC ((ay t q:Nat):Int) ⟨(jm:Int),((ay tm [(d:Int)]:Nat):Int)⟩ l):=⟨_,rfl⟩;have hul1:us1.length=p.length:=by rw[hus1,aay];exact hu
    rw[<-hus1];by_cases h16:u.kind=16
    ·rw [if_pos h16];have l1:∀n c (us:Mps),n+c=u.kids.length->us.length=p.length->∃M,df M b (bS p) (dV 0 p) cs (cJ p) g ⟨f,par',ix',fU f.kids<|ay tm [(d:Int)]+1⟩ ⟨u,par,ix,fU u.kids<|ay t q+1⟩ us c i (dQ (dQ us<|yL j t tm q (jm:Int) (d:Int) ((f.kids.length:Int)-2) n c)<|uV p<|(cJ p).drop<|i+1):=λn=>by
      induction n with
      |zero=>
       intro c us hc hu;obtain⟨M,hM⟩:=ih (i+1) us (by omega) hu;exact⟨M+1,gA M _ _ _ _ _ _ _ _ _ _ _ _ (⟨λh=>by rw[ik]at h;omega,λ_=>⟨by omega,hM⟩⟩)⟩
      | succ n ihn=>
       intro c us hc hu;obtain⟨a,ha⟩:∃a,u.kids[c]?=some a:=⟨_,List.getElem?_eq_getElem (by omega)⟩;have hna:=vw hq ha;have hkl:=cb u;have hbu:=aap (cb u) (aaf _);have hcl:c<=9223372036854775806:=by have h1:=nN_bulk t;have h2:=ni q t u hq;have h3:=vS u.kids;rw[Bc u]at h2;omega
       rw[yL,oU];by_cases hlt:(c:Int)<(f.kids.length:Int)-2
       ·rw[if_pos hlt];obtain⟨k,hk⟩:∃k,f.kids[c]?=some k:=⟨_,List.getElem?_eq_getElem<|by omega⟩;have hnk:=vw hatf hk;rw[List.singleton_append]at hnk;obtain⟨l',hl'⟩:∃l,us[j]?=some l:=⟨_,List.getElem?_eq_getElem<|by omega⟩;rw[Ek hl',dQ];obtain⟨M,hM⟩:=ihn (c+1) (us.set j<|eC ((ay t (q++[(c:Int)]):Nat):Int) ⟨(jm:Int),((ay tm [(d:Int),(c:Int)]:Nat):Int)⟩ l') (by omega) (by rw[aay];exact hu);refine⟨M+1,gA M _ _ _ _ _ _ _ _ _ _ _ _<|⟨λ_=>⟨_,hna,λ_=>⟨j,g1,l',hl',_,hnk,by omega,?_⟩,λh=>absurd (by rw[ik];exact hlt) h⟩,λh=>by rw[ik]at h;omega⟩⟩;rw[g3];exact hM
       ·rw[if_neg hlt];obtain⟨M,hM⟩:=ihn (c+1) us (by omega) hu;exact⟨M+1,gA M _ _ _ _ _ _ _ _ _ _ _ _<|⟨λ_=>⟨_,hna,λh=>absurd (by rw[ik]at h;exact h) hlt,λ_=>⟨by omega,hM⟩⟩,λh=>by rw[ik]at h;omega⟩⟩
     obtain⟨M,hM⟩:=l1 u.kids.length 0 us1 (by omega) hul1;refine⟨M+1,dT M _ _ _ _ _ _ _ _<|⟨λ_=>⟨g,hg,λh=>absurd h hfr,λ_=>⟨j,g1,_,eQ ht,_,by rw[g2];exact f1,jm,g3,_,eQ htm,_,hx2,d,g4,_,hnum,j,g1,l,hl,_,I,_,hsp,λh=>absurd h16 h,λ_=>⟨jm,g3,_,eQ htm,_,I,_,hsf,_,I,_,hsp,?_⟩⟩⟩,λh=>by omega⟩⟩;rw[g3,<-hus1];exact hM
    ·rw[if_neg h16,dQ];obtain⟨M,hM⟩:=ih (i+1) us1 (by omega) hul1;refine⟨M+1,dT M _ _ _ _ _ _ _ _<|⟨λ_=>⟨g,hg,λh=>absurd h hfr,λ_=>⟨j,g1,_,eQ ht,_,by rw[g2];exact f1,jm,g3,_,eQ htm,_,hx2,d,g4,_,hnum,j,g1,l,hl,_,I,_,hsp,λ_=>⟨by omega,?_⟩,λh=>absurd h h16⟩⟩,λh=>by omega⟩⟩;rw[g3,<-hus1];exact hM
 obtain⟨M,hM⟩:=l0 (cJ p).length 0 us (by omega) hu;exact sC M _ _ _ _ _ _ _ (⟨_,KJ p hb,by rwa [List.drop_zero]at hM⟩)
theorem Oh{k n i:Int}(h:gb k n i 17=true):k=16:=by
 unfold gb at h
 repeat' split at h
 all_goals first|omega|(exfalso;revert h;simp[my,nh,sF])
theorem NR{n i kk:Int}(h:gb 16 n i kk=true):kk=17:=by simpa[gb]using h
def te(f:Tree)(r:YI)(w:YB):YI×Bool:=fy ((arP f r).map<|de f) w
def usK(p:YT)(m:Nat)(t:Tree)(q:YI):Option ah:=
 if(atD t q).kind=12 then
  (if jr (wA t<|q.getD 0 0)=true∧(te (wA t<|q.getD 0 0) (q.drop 1) (atD t q).text).2=true then some ⟨(m:Int),((ay t (q.getD 0 0::(te (wA t<|q.getD 0 0) (q.drop 1) (atD t q).text).1):Nat):Int)⟩else none)
 else if(atD t q).kind=16∨(atD t q).kind=9 then
  (if(cx p (m:Int) (atD t q).text).2.2=true then some ⟨(cx p (m:Int) (atD t q).text).1,((ay (sr p (cx p (m:Int) (atD t q).text).1) [(cx p (m:Int) (atD t q).text).2.1]:Nat):Int)⟩else none)
 else if(atD t q).kind=17 then
  (if(cx p (m:Int) (atD t (q.take (q.length-1))).text).2.2=true∧q.getD (q.length-1) 0<((wA (sr p (cx p (m:Int) (atD t (q.take (q.length-1))).text).1) (cx p (m:Int) (atD t (q.take (q.length-1))).text).2.1).kids.length:Int)-2 then
   some ⟨(cx p (m:Int) (atD t (q.take (q.length-1))).text).1,((ay (sr p (cx p (m:Int) (atD t (q.take (q.length-1))).text).1) [(cx p (m:Int) (atD t (q.take (q.length-1))).text).2.1,q.getD (q.length-1) 0]:Nat):Int)⟩else none)
 else none
theorem Aq{m:Nat}{t:Tree}{d:Nat}{a:Asg}:∀{l:List aD},a∈xb m t d l↔∃x∈l,x.Free=false∧a=(m,((ay t ((d:Int)::x.Path):Nat):Int),⟨(m:Int),((ay t ((d:Int)::x.Binder):Nat):Int)⟩)
 |[]=>by simp[xb]
 | x ::r=>by
  simp only[xb,aal,Aq (l:=r),aak];constructor
  ·rintro(h|⟨y,hy,h⟩)
   ·split at h
    ·cases h
    ·rename_i hf;rw[List.mem_singleton]at h;exact⟨x,.inl I,by simpa using hf,h⟩
   ·exact⟨y,.inr hy,h⟩
  ·rintro⟨y,rfl|hy,h1,h2⟩
   ·left;rw[if_neg (by rw[h1];simp),List.mem_singleton];exact h2
   ·exact .inr ⟨y,hy,h1,h2⟩
theorem zZ{m:Nat}{t:Tree}{a:Asg}:∀{l:YT} {d:Nat},a∈vf m t d l↔∃j f,l[j]?=some f∧f.kind=2∧a∈xb m t (d+j) (jf f)
 |[],d=>by simp[vf]
 | f ::r,d=>by
  simp only[vf,aal,zZ (l:=r)];constructor
  ·rintro(h|⟨j,g,h1,h2,h3⟩)
   ·split at h
    ·rename_i hk;exact⟨0,f,I,hk,h⟩
    ·cases h
   ·exact⟨j+1,g,by simpa using h1,h2,by rwa [show d+(j+1)=d+1+j by omega]⟩
  ·rintro⟨j,g,h1,h2,h3⟩;cases j with
   |zero=>
    simp only[List.getElem?_cons_zero,aab]at h1;subst h1;left;rw[if_pos h2];exact h3
   |succ j=>exact .inr ⟨j,g,by simpa using h1,h2,by rwa [show d+1+j=d+(j+1) by omega]⟩
theorem AE{a:Asg}:∀{l:YT} {m:Nat},a∈ss m l↔∃j t,l[j]?=some t∧a∈vf (m+j) t 0 t.kids
 |[],m=>by simp[ss]
 | t::r,m=>by
  simp only[ss,aal,AE (l:=r)];constructor
  ·rintro(h|⟨j,u,h1,h2⟩)
   ·exact⟨0,t,I,h⟩
   ·exact⟨j+1,u,by simpa using h1,by rwa [show m+(j+1)=m+1+j by omega]⟩
  ·rintro⟨j,u,h1,h2⟩;cases j with
   |zero=>
    simp only[List.getElem?_cons_zero,aab]at h1;subst h1;exact .inl h2
   |succ j=>exact .inr ⟨j,u,by simpa using h1,by rwa [show m+1+j=m+(j+1) by omega]⟩
theorem AG{m:Nat}{t tm:Tree}{q:YI}{gm gd n:Int}{a:Asg}:∀{k i:Nat},a∈yL m t tm q gm gd n k i↔∃c:Nat,i<=c∧c<i+k∧(c:Int)<n∧a=(m,((ay t (q++[(c:Int)]):Nat):Int),⟨gm,((ay tm [gd,(c:Int)]:Nat):Int)⟩)
 |0,i=>by simp only[yL,List.not_mem_nil,false_iff];rintro⟨c,h1,h2,_⟩;omega
 | k +1,i=>by
  simp only[yL,aal,AG (k:=k)];constructor
  ·rintro(h|⟨c,h1,h2,h3⟩)
   ·split at h
    ·rename_i hk;rw[List.mem_singleton]at h;exact⟨i,aaf _,by omega,hk,h⟩
    ·cases h
   ·exact⟨c,by omega,by omega,h3⟩
  ·rintro⟨c,h1,h2,h3,h4⟩;by_cases hc:c=i
   ·subst hc;left;rw[if_pos h3,List.mem_singleton];exact h4
   ·exact .inr ⟨c,by omega,by omega,h3,h4⟩
theorem xm{p:YT}{a:Asg}:∀{l:List aC},a∈uV p l↔∃g∈l,a∈yB p g
 |[]=>by simp[uV]
 |g::r=>by simp only[uV,aal,xm (l:=r),aak,exists_eq_or_imp]
theorem uR(hp:dn p=true){g:aC}:g∈cJ p↔∃(j:Nat) (t:Tree) (q:YI) (u:Tree),p[j]?=some t∧(q,u)∈nodK t []∧uM u=true∧g=tgK p (j:Int) q u:=by rw[cJ,if_pos hp,xd];simp only[Nat.zero_add]
theorem zd(h:atK t q=some u):(q,u)∈nodK t []:=by have :=AF q t u [] h;rw[aaj]at this;exact List.mem_of_getElem? this
theorem pk{r:YI}{i:Int}(h:atK t (r++[i])=some u):∃(v:Tree) (c:Nat),i=c∧atK t r=some v∧v.kids[c]?=some u:=by
 rw[vt]at h;cases hv:atK t r with
 |none=>rw[hv]at h;simp at h
 |some v=>
  rw[hv]at h;simp only[Option.bind_some,atK]at h;split at h
  ·cases h
  rename_i hi;split at h
  ·cases h
  rename_i y hy;injection h with h
  subst h;exact⟨v,i.toNat,by omega,I,hy⟩
theorem DP(hp:dn p=true)(ht:p[m]?=some t)(hq:atK t q=some u){v:ah}:(m,((ay t q:Nat):Int),v)∈ss 0 p++uV p (cJ p)↔usK p m t q=some v:=by
 have hu:=eK hq;obtain⟨hk1,hst⟩:=si hp ht;have inj:∀{G:YI} {w:Tree},atK t G=some w->((ay t q:Nat):Int)=((ay t G:Nat):Int)->G=q∧w=u:=λ{G w} h1 h2=>by obtain⟨a,b⟩:=Mr hq h1 (by omega);exact⟨a.symm,b.symm⟩
 rw[aal];constructor
 ·rintro(h|h)
  ·obtain⟨j,t',h1,h2⟩:=AE.1 h;obtain⟨d,f,h3,h4,h5⟩:=zZ.1 h2;obtain⟨x,h6,h7,h8⟩:=Aq.1 h5;simp only[Nat.zero_add,Prod.mk.injEq]at h8;obtain⟨rfl,e1,e2⟩:=h8;rw[ht]at h1;injection h1 with h1
   subst h1;obtain⟨w,a1,a2,_,a4⟩:=GC h6;have hw:atK t ((d:Int)::x.Path)=some w:=by rw[atK,if_neg (by omega),Int.toNat_natCast,h3];exact a1
   obtain⟨rfl,rfl⟩:=inj hw e1;have hfine:jr f=true:=by
    unfold jf at h6;split at h6
    ·assumption
    ·cases h6
   unfold jf at h6;rw[if_pos hfine]at h6;obtain⟨y,hy,_,rfl⟩:=wG.1 h6;have hyw:=nodK_at f f [] rfl y hy;simp only at hyw a1 e2 h7⊢;rw[hyw]at a1;injection a1 with a1
   rw[usK,hu,if_pos a2];simp only[List.getD_cons_zero,List.drop_succ_cons,List.drop_zero];rw[lL h3,if_pos ⟨hfine,by rw[te,<-a1];simpa using h7⟩,e2,te,<-a1]
  ·obtain⟨g,g1,g2⟩:=xm.1 h;obtain⟨j,t',G,u',h1,h2,h3,rfl⟩:=(uR hp).1 g1;have J:=nodK_at t' t' [] rfl _ h2;simp only at J;rw[yB]at g2;split at g2
   ·cases g2
   rename_i hfr;have Z:(cx p (j:Int) u'.text).2.2=true:=by simpa[tgK]using hfr
   simp only[tgK,iU h1,Int.toNat_natCast,eK J,aak]at g2;have hk:u'.kind=16∨u'.kind=9:=by simpa[uM]using h3
   rcases g2 with e|g2
   ·simp only[Prod.mk.injEq]at e;obtain⟨rfl,e1,e2⟩:=e;rw[ht]at h1;injection h1 with h1
    subst h1;obtain⟨rfl,rfl⟩:=inj J e1;rw[usK,hu,if_neg (by omega),if_pos hk,if_pos Z,e2]
   ·split at g2
    ·rename_i E;obtain⟨c,_,c2,c3,e⟩:=AG.1 g2;simp only[Prod.mk.injEq]at e;obtain⟨rfl,e1,e2⟩:=e;rw[ht]at h1;injection h1 with h1
     subst h1;obtain⟨a,ha⟩:∃a,u'.kids[c]?=some a:=⟨_,List.getElem?_eq_getElem<|by omega⟩;have hat:atK t (G++[(c:Int)])=some a:=by rw[vt,J];exact jY ha
     obtain⟨rfl,rfl⟩:=inj hat e1;have hs:=rD G t u' hst J;rw[ee]at hs;simp only[aaa]at hs;have O:=(qp hs.2 ha).1;rw[E]at O;have O:=NR O;have el:(G++[(c:Int)]).length-1=G.length:=by simp
     have et:(G++[(c:Int)]).take G.length=G:=by simp
     have eg:(G++[(c:Int)]).getD G.length 0=(c:Int):=by simp[List.getD_eq_getElem?_getD]
     rw[usK,hu,if_neg (by omega),if_neg (by omega),if_pos O,el,et,eg,eK J,if_pos ⟨Z,c3⟩,e2]
    ·cases g2
 ·intro h;unfold usK at h;rw[hu]at h;split at h
  ·rename_i h12;split at h
   ·rename_i U;injection h with h
    subst h;left;cases q with
    |nil=>
     simp only[atK,aab]at hq;subst hq;omega
    |cons d r=>
     simp only[List.getD_cons_zero,List.drop_succ_cons,List.drop_zero]at U⊢;simp only[atK]at hq;split at hq
     ·cases hq
     rename_i hd;split at hq
     ·cases hq
     rename_i f hf;obtain⟨d,rfl⟩:∃n:Nat,d=n:=⟨d.toNat,by omega⟩;rw[Int.toNat_natCast]at hf;rw[lL hf]at U⊢;have hk2:f.kind=2:=by have :=U.1;simp only[jr,aaa,aaq]at this;exact this.1
     refine AE.2 ⟨m,t,ht,zZ.2 ⟨d,f,hf,hk2,Aq.2 ⟨⟨r,(te f r u.text).1,!(te f r u.text).2⟩,?_,by rw[U.2];rfl,by simp only[Nat.zero_add]⟩⟩⟩;rw[jf,if_pos U.1];exact wG.2 ⟨(r,u),zd hq,h12,I⟩
   ·cases h
  ·rename_i h12;split at h
   ·rename_i hk;split at h
    ·rename_i Z;injection h with h
     subst h;right;refine xm.2 ⟨tgK p (m:Int) q u,(uR hp).2 ⟨m,t,q,u,ht,zd hq,by simpa[uM]using hk,I⟩,?_⟩;rw[yB,if_neg<|by simp[tgK,Z]];simp only[tgK,iU ht,Int.toNat_natCast];exact List.mem_cons_self
    ·cases h
   ·split at h
    ·rename_i O;split at h
     ·rename_i U;injection h with h
      subst h;right;rcases List.eq_nil_or_concat q with rfl|⟨r,i,rfl⟩
      ·simp only[atK,aab]at hq;subst hq;omega
      rw[List.concat_eq_append]at hq U⊢;obtain⟨w,c,rfl,hw,hc2⟩:=pk hq;have el:(r++[(c:Int)]).length-1=r.length:=by simp
      have et:(r++[(c:Int)]).take r.length=r:=by simp
      have eg:(r++[(c:Int)]).getD r.length 0=(c:Int):=by simp[List.getD_eq_getElem?_getD]
      rw[el,et,eg,eK hw]at U⊢;have hs:=rD r t w hst hw;rw[ee]at hs;simp only[aaa]at hs;have E:=(qp hs.2 hc2).1;rw[O]at E;have E:=Oh E;refine xm.2 ⟨tgK p (m:Int) r w,(uR hp).2 ⟨m,t,r,w,ht,zd hw,by simp[uM,E],rfl⟩,?_⟩;rw[yB,if_neg<|by simp[tgK,U.1]];simp only[tgK,iU ht,Int.toNat_natCast,eK hw,if_pos E];exact List.mem_cons_of_mem _ (AG.2 ⟨c,by omega,by have :=(List.getElem?_eq_some_iff.1 hc2).1;omega,U.2,I⟩)
     ·cases h
    ·cases h
def jT(p:YT):Mps:=dQ (dQ (List.replicate p.length [])<|ss 0 p)<|uV p<|cJ p
theorem LF(p:YT):(jT p).length=p.length:=by simp[jT,Al]
theorem NV(hp:dn p=true)(ht:p[m]?=some t)(hq:atK t q=some u):∃l,(jT p)[m]?=some l∧dU ((ay t q:Nat):Int) l=usK p m t q:=by
 have E:=(List.getElem?_eq_some_iff.1 ht).1;obtain⟨l,G⟩:∃l,(jT p)[m]?=some l:=⟨_,List.getElem?_eq_getElem (by rw[LF];exact E)⟩;refine⟨l,G,?_⟩;have J:(jT p).getD m []=l:=by rw[List.getD_eq_getElem?_getD,G];rfl
 rw[<-J,jT,<-oU];have O:dU ((ay t q:Nat):Int) ((List.replicate p.length ([]:List<|Int×ah)).getD m [])=none:=by rw[List.getD_eq_getElem?_getD,List.getElem?_replicate_of_lt E];rfl
 cases h:usK p m t q with
 |none=>
  rw[Cy _ _ (by simpa using E) (λv hv=>by have :=(DP hp ht hq).1 hv;rw[h]at this;cases this),O]
 |some v=>
  refine Ct _ _ (by simpa using E) (λw U=>?_)<|.inl ⟨v,(DP hp ht hq).2 h⟩;have :=(DP hp ht hq).1 U;rw[h]at this;injection this with this
  exact this.symm
end Go.Proofs.YtehhanlhfdoiaaaGreat
