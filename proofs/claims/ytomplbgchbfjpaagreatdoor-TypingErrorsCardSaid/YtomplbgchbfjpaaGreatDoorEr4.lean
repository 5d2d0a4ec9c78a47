/- Contracts of the functions that the law reaches, part 4. -/
import Derived.Test.YtomplbgchbfjpaaGreatDoorEr3
set_option linter.unusedVariables false
set_option linter.unusedSimpArgs false
namespace Go.Proofs.YtomplbgchbfjpaaGreatDoor
open _root_.Go.Proofs.Tryz
open Go.RowKit Lx Sx
set_option maxRecDepth 100000
set_option maxHeartbeats 4000000
theorem lX(m:Nat)(O:CKr)(p1:Tree)(p2:Int)(p3:List ay)(G:ac)(q0:CKr)(h:∃d,de O p2 d∧∃i,p2=((i:Nat):Int)∧∃k,p1.kids[i]?=some k∧∃b a,iu d k p3 b a∧((a.module=a.wanted_Module)→∃j,qy a.path a.wanted_Path j∧((j=true)→∃e,bb ({a with result_simple:=b.simple,result_lists:=b.lists}) e∧b=G∧e=q0)∧((j=false)→∃f,bb a f∧b=G∧f=q0))∧((a.module≠a.wanted_Module)→∃g,bb a g∧b=G∧g=q0)):br O p1 p2 p3 G q0:=by
 refine qA 50 [2,1,0] func95 λK J=>?_;refine gR 3 rfl<|gFP 5 rfl rfl rfl rfl<|gR 7 rfl ?_;obtain⟨d,s,h⟩:=h;refine qC s [0,1,2,3,4] ?_;refine qHX ⟨12,(CKr.z d [(6,vB 0 0)] 10)⟩<|gR 8 rfl ?_;obtain⟨i,n,h⟩:=h;refine gV 16 (qi ((i:Nat):Int)) rfl (aL n) rfl ?_;obtain⟨k,l,h⟩:=h;refine gY (aC (aq l) ai rfl rfl rfl rfl) rfl rfl<|gR 2 rfl ?_;obtain⟨b,a,t,h⟩:=h;refine qC t [0,1,2,10,11] ?_;refine qHX ⟨18,(CKr.z a [(6,vB 0 0)] 15)⟩<|gR 6 rfl<|qDs [0] 22 22<|qDr (qR 0 3 2 ((3,3)::(qR 4 7 0 []))) rfl rfl<|qBeZ 31 30 rfl rfl rfl rfl h ?_ ?_<;>intro h;refine qDr (qR 11 3 2 ((14,3)::(qR 15 5 0 []))) rfl rfl ?_;obtain⟨j,v,h⟩:=h;refine qDC 20 v [15] rfl ?_;refine qHX ⟨20,((18,.var 58 (ac.c b))::CKr.z a [(6,vB 0 0)] 15)⟩<|qDr [(21,0)] rfl rfl<|qDe<|gR 1 rfl<|qBi 42 rfl rfl rfl h ?_ ?_<;>intro h;refine gR 9 rfl<|go_sub (F':=(mkF 50 0 [(0,.ptr 0 0),(8,.ptr 3 0),(9,.ptr 4 0)])) (H':=⟨7,[(6,CKr.faults_o a),(5,CKr.path_o a),(4,.var 58 (ac.c b)),(3,vB 0 0),(2,CKr.signatures_o a),(1,CKr.names_o a),(0,CKr.o {a with result_simple:=b.simple,result_lists:=b.lists} 1 2 5 6)]⟩) [0,1,2,6,18,15,16] [2,1,0] rfl J pq3 ⟨⟨_,rfl,rfl,rfl,(vH _ a.faults).symm⟩,⟨_,rfl,rfl,rfl,(vG _ a.path).symm⟩,pqo rfl rfl,pqo rfl rfl,⟨_,rfl,rfl,rfl,rfl,rfl⟩,⟨_,rfl,rfl,rfl,rfl,rfl⟩,(pqo1 rfl rfl)⟩ rfl<|gR 3 rfl ?_;obtain⟨e,p,h⟩:=h;refine qC p [0,1,2,5,6] ?_;refine qHX ⟨12,(CKr.z e [(4,.var 58 (ac.c b)),(3,vB 0 0)] 10)⟩<|gR 9 rfl ?_;obtain⟨rfl,rfl⟩:=h;exact gE J [(5,.var 58 (ac.c b))] [(8,.ptr 5 0)] [0,1,2,10,11,3] [.cell 8 58];refine gR 6 rfl ?_;obtain⟨f,q,h⟩:=h;refine qC q [0,1,2,15,16] ?_;refine qHX ⟨25,(CKr.z f [(18,.var 58 (ac.c b)),(6,vB 0 0)] 23)⟩<|gR 9 rfl ?_;obtain⟨rfl,rfl⟩:=h;exact gE J [(5,.var 58 (ac.c b))] [(8,.ptr 5 0)] [0,1,2,23,24,6] [.cell 8 58];refine qDr (qR 11 4 2 (qR 15 7 0 [])) rfl rfl<|qDe<|gR 7 rfl ?_;obtain⟨g,r,h⟩:=h;refine qC r [0,1,2,15,16] ?_;refine qHX ⟨24,(CKr.z g [(18,.var 58 (ac.c b)),(6,vB 0 0)] 22)⟩<|gR 9 rfl ?_;obtain⟨rfl,rfl⟩:=h;exact gE J [(5,.var 58 (ac.c b))] [(8,.ptr 5 0)] [0,1,2,22,23,6] [.cell 8 58]
def ep(m:Nat)(J:CKr)(p1:Tree)(p2:List ay)(a:Bool)(O:ac)(q0:CKr):Prop:=∀(K:Ctx),aw K [2,1,0]→qLG K f135 (λu G=>u=.agg (ac.c O)∧G=⟨6,(CKr.y q0 3)⟩) (cB (xC (xE (cB (aj f135))))) [.blk 0,.seq (xA (aj f135))] 72 (mkF 72 0 [(0,.ptr 0 0),(2,.lk (List.map ay.c p2)),(4,.box (al p1) 0),(6,.ptr 3 0),(9,qi p1.kind),(16,.bool a)]) ⟨6,(CKr.z J [(3,vB 0 0)] 4)⟩
theorem hV(m:Nat)(J:CKr)(p1:Tree)(p2:List ay)(O:ac)(q0:CKr)(h:((p1.kind=10)→(ac.mk 5 0)=O∧J=q0)∧((p1.kind≠10)→((p1.kind=11)→(ac.mk 6 0)=O∧J=q0)∧((p1.kind≠11)→((p1.kind=13)→ep m J p1 p2 true O q0)∧((p1.kind≠13)→ep m J p1 p2 (p1.kind==14) O q0)))):iu J p1 p2 O q0:=by
 refine qA 72 [2,1,0] func135 λK G=>?_;refine gR 3 rfl<|gFP 5 rfl rfl rfl rfl<|gR 17 rfl<|qBeZ 10 11 rfl rfl rfl rfl h ?_ ?_<;>intro h;refine gR 10 rfl ?_;obtain⟨rfl,rfl⟩:=h;exact gE G [(5,.var 58 (ac.c (ac.mk 5 0)))] [(6,.ptr 5 0)] [0,1,2,3,4,6] [.cell 6 58];refine gR 7 rfl<|qBeZ 13 14 rfl rfl rfl rfl h ?_ ?_<;>intro h;refine gR 10 rfl ?_;obtain⟨rfl,rfl⟩:=h;exact gE G [(5,.var 58 (ac.c (ac.mk 6 0)))] [(6,.ptr 5 0)] [0,1,2,3,4,6] [.cell 6 58];refine gR 8 rfl<|qBeZ 16 17 rfl rfl rfl rfl h ?_ ?_<;>intro h;exact gR 3 rfl<|qJ G (h K G) [0,1,2,6,3,4];exact gR 6 rfl<|qJ G (h K G) [0,1,2,6,3,4]
theorem bm(m:Nat)(G:CKr)(p1:Tree)(p2:List ay)(v:Bool)(J:ac)(q0:CKr)(h:((v=true)→(ac.mk 7 0)=J∧G=q0)∧((v=false)→((p1.kind=12)→∃p f,ju G p1 p2 p f∧p=J∧f=q0)∧((p1.kind≠12)→((p1.kind=16)→∃q g,lW G p1 p2 q g∧q=J∧g=q0)∧((p1.kind≠16)→((p1.kind=18)→∃r i,qO G p1 p2 r i∧r=J∧i=q0)∧((p1.kind≠18)→((p1.kind=19)→∃s j,ji G p1 p2 s j∧s=J∧j=q0)∧((p1.kind≠19)→((p1.kind=20)→∃t a,br G p1 0 p2 t a∧∃k b,br a p1 1 (ay.mk p1.text t::p2) k b∧k=J∧b=q0)∧((p1.kind≠20)→((p1.kind=21)→∃l d,iT G p1 p2 l d∧l=J∧d=q0)∧((p1.kind≠21)→((p1.kind=22)→∃n e,br G p1 0 p2 n e∧n=J∧e=q0)∧((p1.kind≠22)→(ac.mk 0 0)=J∧G=q0))))))))):ep (m+1) G p1 p2 v J q0:=by
 intro K O;refine qBi 16 rfl rfl rfl h ?_ ?_<;>intro h;refine gR 10 rfl ?_;obtain⟨rfl,rfl⟩:=h;exact gE O [(5,.var 58 (ac.c (ac.mk 7 0)))] [(6,.ptr 5 0)] [0,1,2,4,5,3] [.cell 6 58];refine gR 7 rfl<|qBeZ 20 21 rfl rfl rfl rfl h ?_ ?_<;>intro h;refine gR 6 rfl ?_;obtain⟨p,f,w,h⟩:=h;refine qC w [0,1,2,4,5] ?_;refine qHX ⟨12,(CKr.z f [(3,vB 0 0)] 9)⟩<|gR 6 rfl ?_;obtain⟨rfl,rfl⟩:=h;exact gE O [(5,.var 58 (ac.c p))] [(6,.ptr 5 0)] [0,1,2,9,10,3] [.cell 6 58];refine gR 7 rfl<|qBeZ 26 27 rfl rfl rfl rfl h ?_ ?_<;>intro h;refine gR 6 rfl ?_;obtain⟨q,g,x,h⟩:=h;refine qC x [0,1,2,4,5] ?_;refine qHX ⟨12,(CKr.z g [(3,vB 0 0)] 9)⟩<|gR 6 rfl ?_;obtain⟨rfl,rfl⟩:=h;exact gE O [(5,.var 58 (ac.c q))] [(6,.ptr 5 0)] [0,1,2,9,10,3] [.cell 6 58];refine gR 7 rfl<|qBeZ 32 33 rfl rfl rfl rfl h ?_ ?_<;>intro h;refine gR 6 rfl ?_;obtain⟨r,i,y,h⟩:=h;refine qC y [0,1,2,4,5] ?_;refine qHX ⟨12,(CKr.z i [(3,vB 0 0)] 9)⟩<|gR 6 rfl ?_;obtain⟨rfl,rfl⟩:=h;exact gE O [(5,.var 58 (ac.c r))] [(6,.ptr 5 0)] [0,1,2,9,10,3] [.cell 6 58];refine gR 7 rfl<|qBeZ 38 39 rfl rfl rfl rfl h ?_ ?_<;>intro h;refine gR 6 rfl ?_;obtain⟨s,j,z,h⟩:=h;refine qC z [0,1,2,4,5] ?_;refine qHX ⟨12,(CKr.z j [(3,vB 0 0)] 9)⟩<|gR 6 rfl ?_;obtain⟨rfl,rfl⟩:=h;exact gE O [(5,.var 58 (ac.c s))] [(6,.ptr 5 0)] [0,1,2,9,10,3] [.cell 6 58];refine gR 7 rfl<|qBeZ 44 45 rfl rfl rfl rfl h ?_ ?_<;>intro h;refine gR 6 rfl ?_;obtain⟨t,a,α,h⟩:=h;refine qC α [0,1,2,4,5] ?_;refine qHX ⟨12,(CKr.z a [(3,vB 0 0)] 9)⟩<|gR 14 rfl<|gFP 13 rfl rfl rfl rfl ?_;obtain⟨k,b,β,h⟩:=h;refine qC β [0,1,2,9,10] (hs:=(.cons .rfl (.cons .rfl (.cons .rfl (.cons (lkC rfl) .nil))))) ?_;refine qHX ⟨20,(CKr.z b [(12,.var 58 (ac.c t)),(3,vB 0 0)] 17)⟩<|gR 6 rfl ?_;obtain⟨rfl,rfl⟩:=h;exact gE O [(5,.var 58 (ac.c k))] [(6,.ptr 5 0)] [0,1,2,17,18,3] [.cell 6 58];refine gR 7 rfl<|qBeZ 59 60 rfl rfl rfl rfl h ?_ ?_<;>intro h;refine gR 6 rfl ?_;obtain⟨l,d,γ,h⟩:=h;refine qC γ [0,1,2,4,5] ?_;refine qHX ⟨12,(CKr.z d [(3,vB 0 0)] 9)⟩<|gR 6 rfl ?_;obtain⟨rfl,rfl⟩:=h;exact gE O [(5,.var 58 (ac.c l))] [(6,.ptr 5 0)] [0,1,2,9,10,3] [.cell 6 58];refine gR 7 rfl<|qBeZ 65 66 rfl rfl rfl rfl h ?_ ?_<;>intro h;refine gR 6 rfl ?_;obtain⟨n,e,δ,h⟩:=h;refine qC δ [0,1,2,4,5] ?_;refine qHX ⟨12,(CKr.z e [(3,vB 0 0)] 9)⟩<|gR 6 rfl ?_;obtain⟨rfl,rfl⟩:=h;exact gE O [(5,.var 58 (ac.c n))] [(6,.ptr 5 0)] [0,1,2,9,10,3] [.cell 6 58];refine gR 11 rfl ?_;obtain⟨rfl,rfl⟩:=h;exact gE O [(5,.var 58 (ac.c (ac.mk 0 0)))] [(6,.ptr 5 0)] [0,1,2,4,5,3] [.cell 6 58]
def iw:KeyT prog 176 (Int×(List UInt8)) (λx=>V.agg [(V.int .i64 x.1),(V.str x.2)]):=RO (λx=>x.1) (λx=>x.2) (λx y h1 h2=>Prod.ext h1 h2) underlying176 (by kernel_rfl) (by decide) (by decide) rfl rfl underlying3 underlying9
def dE:KeyT prog 100 (Int×Int) (λx=>V.agg [(V.int .i64 x.1),(V.int .i64 x.2)]):=Ni (λx=>x.1) (λx=>x.2) (λx y h1 h2=>Prod.ext h1 h2) underlying100 (by kernel_rfl) (by decide) (by decide) rfl rfl underlying3 underlying3
def jP(J:List Tree)(O:CKr):Prop:=bv [] prog 24 [.row 4 (kidsV J)] ⟨0,[]⟩ (λu G=>u=.ptr 0 0∧G=⟨5,(CKr.y O 3)⟩)
def jE(m:Nat)(J:CKr)(p1:Int)(a:Tree)(b d e:Int)(f:Bool)(O:ac)(q0:CKr):Prop:=∀(K:Ctx),aw K [2,1,0]→Go prog K (bodyPost prog f93 (SP K (λu G=>u=.agg (ac.c O)∧G=⟨6,(CKr.y q0 3)⟩))) (.ex .normal) [.seq (xA (xF (aj f93)))] 79 (mkF 79 0 [(0,.ptr 0 0),(1,qi p1),(6,.ptr 3 0),(7,.ptr 4 0),(8,qi b),(9,.ptr 5 0),(10,.ptr 6 0),(11,.bool f)]) ⟨9,(CKr.z J [(6,vB d e),(5,.var 176 [qi p1,.str a.text]),(4,.var 29 (al a)),(3,vB 0 0)] 7)⟩
def ot(m:Nat)(J:CKr)(p1:Int)(a:Tree)(b d e:Int)(f:Tree)(g:Int)(O:ac)(q0:CKr):Prop:=∀(K:Ctx),aw K [2,1,0]→Go prog K (bodyPost prog f93 (SP K (λu G=>u=.agg (ac.c O)∧G=⟨6,(CKr.y q0 3)⟩))) (.ex .normal) [.seq (cB (xJ (cA (xA (xF (aj f93)))))),.seq (xH (xA (aj f93)))] 79 (mkF 79 0 [(0,.ptr 0 0),(6,.ptr 3 0),(8,qi b),(9,.ptr 4 0),(10,.ptr 5 0),(12,.ptr 6 0),(13,qi g)]) ⟨9,(CKr.z J [(6,.var 29 (al f)),(5,vB d e),(4,.var 176 [qi p1,.str a.text]),(3,vB 0 0)] 7)⟩
theorem jK(m:Nat)(G:CKr)(p1:Int)(p2:Tree)(O:ac)(q0:CKr)(h:∃a b,mf p2 a b∧((a.kind≠9)→(ac.mk a.kind b)=O∧G=q0)∧((a.kind=9)→((aI (p1,a.text) G.names=none)→jE m G p1 a b 0 0 false O q0)∧(∀(d:ac),aI (p1,a.text) G.names=some d→jE m G p1 a b d.simple d.lists true O q0))):gy G p1 p2 O q0:=by
 refine qA 79 [2,1,0] func93 λK J=>?_;refine gR 3 rfl<|gFP 5 rfl rfl rfl rfl<|gR 6 rfl ?_;obtain⟨a,b,e,h⟩:=h;refine qC0 e rfl<|gR 16 rfl<|qBh 23 rfl rfl rfl h dy cv ?_ ?_<;>intro h;refine gR 12 rfl ?_;obtain⟨rfl,rfl⟩:=h;exact gE J [(5,.var 58 (ac.c (ac.mk a.kind b)))] [(6,.ptr 5 0)] [0,1,2,3,4,6] [.cell 6 58];refine gR 14 rfl<|qDs [0,8] 10 12<|qDr (qR 0 3 2 [(3,3),(4,3)]) rfl rfl ?_;rcases c:aI (p1,a.text) G.names with _|d
 replace h:=h.1 c;apply bR (i:=5) (j:=9) (by kernel_rfl) rfl rfl rfl rfl;exact(tk (.nop) (va iw (encV:=ac.w) (k:=(p1,a.text)) (l:=G.names) (zv:=.agg [qi 0,qi 0]) c underlying55 zeroValue58 (by kernel_rfl) rfl rfl rfl rfl) trivial (by kernel_rfl));exact(bn ai rfl rfl);exact qDr (qR 6 3 2 [(9,0),(10,1),(11,1)]) rfl rfl<|qDe<|qJ J (h K J) [0,1,2,6,7,8,9,3,4];refine bh 5 (.nop) rfl (by kernel_rfl) (va iw (encV:=ac.w) (k:=(p1,a.text)) (l:=G.names) (zv:=.agg [qi 0,qi 0]) c underlying55 zeroValue58 (by kernel_rfl) rfl rfl rfl rfl) trivial rfl (by kernel_rfl) rfl rfl ?_;exact qDr [(6,0),(7,2),(8,2),(10,1),(11,1)] rfl rfl<|qDe<|qJ J (h K J) [0,1,2,6,7,8,9,3,4];replace h:=h.2 d c;apply bR (i:=5) (j:=9) (by kernel_rfl) rfl rfl rfl rfl;exact(tk (.nop) (vg iw (encV:=ac.w) (k:=(p1,a.text)) (l:=G.names) (zv:=.agg [qi 0,qi 0]) c underlying55 zeroValue58 (by kernel_rfl) rfl rfl rfl rfl) trivial (by kernel_rfl));exact(bn ai rfl rfl);exact qDr (qR 6 3 2 [(9,0),(10,1),(11,1)]) rfl rfl<|qDe<|qJ J (h K J) [0,1,2,6,7,8,9,3,4];refine bh 5 (.nop) rfl (by kernel_rfl) (vg iw (encV:=ac.w) (k:=(p1,a.text)) (l:=G.names) (zv:=.agg [qi 0,qi 0]) c underlying55 zeroValue58 (by kernel_rfl) rfl rfl rfl rfl) trivial rfl (by kernel_rfl) rfl rfl ?_;exact qDr [(6,0),(7,2),(8,2),(10,1),(11,1)] rfl rfl<|qDe<|qJ J (h K J) [0,1,2,6,7,8,9,3,4]
theorem nP(m:Nat)(J:CKr)(p1:Int)(d:Tree)(c a b:Int)(e:Bool)(O:ac)(q0:CKr)(h:((e=false)→∃f g,sI J.p p1 d f g∧ot m J p1 d c a b f g O q0)∧((e=true)→((a≠0)→InI (b+c)∧(ac.mk a (b+c))=O∧J=q0)∧((a=0)→(ac.mk a b)=O∧J=q0))):jE (m+1) J p1 d c a b e O q0:=by
 intro K G;refine gR 8 rfl<|qBh 42 rfl rfl rfl h bF bG ?_ ?_<;>intro h;refine gR 2 rfl<|qDs [0,4] 11 13<|qDr (qR 0 3 2 [(3,3),(4,2),(5,3)]) rfl rfl ?_;obtain⟨f,g,k,h⟩:=h;apply bR (i:=6) (j:=10) (by kernel_rfl) rfl rfl rfl rfl;exact(cy (L':=[0,4]) (by kernel_rfl) rfl rfl (sV k .rfl [0,4] rfl) (.inl rfl));exact(bn ai rfl rfl);exact qDr (qR 7 3 2 [(10,0),(11,1),(12,1)]) rfl rfl<|qDe<|qJ G (h K G) [0,1,2,3,5,6,9,7,8];refine bz 6 k (by kernel_rfl) rfl (by kernel_rfl) rfl rfl .rfl rfl rfl ?_;exact qDr [(7,0),(8,2),(9,2),(11,1),(12,1)] rfl rfl<|qDe<|qJ G (h K G) [0,1,2,3,5,6,9,7,8];refine gR 11 rfl<|qBh 72 rfl rfl rfl h dy cv ?_ ?_<;>intro h;refine gR 5 rfl ?_;obtain⟨hb,h⟩:=h;refine gR 1 rfl<|gV 76 (qi (b+c)) rfl (ao hb rfl) rfl<|gR 11 rfl ?_;obtain⟨rfl,rfl⟩:=h;exact gE G [(5,.var 58 (ac.c (ac.mk a (b+c))))] [(6,.ptr 5 0)] [0,1,2,7,8,3] [.cell 6 58];refine gR 10 rfl ?_;obtain⟨rfl,rfl⟩:=h;exact gE G [(5,.var 58 (ac.c (ac.mk a b)))] [(6,.ptr 5 0)] [0,1,2,7,8,3] [.cell 6 58]
theorem uc(m:Nat)(G:CKr)(p1:Int)(f:Tree)(g c e:Int)(j:Tree)(i:Int)(J:ac)(q0:CKr)(h:((i=0)→∃a b,mf j a b∧((a.kind≠0)→InI (b+g)∧(ac.mk a.kind (b+g))=J∧{G with names:=(bZ (p1,f.text) (ac.mk a.kind b) G.names)}=q0)∧((a.kind=0)→(ac.mk a.kind b)=J∧{G with names:=(bZ (p1,f.text) (ac.mk a.kind b) G.names)}=q0))∧((i≠0)→((c≠0)→InI (e+g)∧(ac.mk c (e+g))=J∧{G with names:=(bZ (p1,f.text) (ac.mk c e) G.names)}=q0)∧((c=0)→(ac.mk c e)=J∧{G with names:=(bZ (p1,f.text) (ac.mk c e) G.names)}=q0))):ot (m+1) G p1 f g c e j i J q0:=by
 intro K O;refine gR 8 rfl<|qBe 54 rfl rfl rfl h ?_ ?_<;>intro h;refine gR 4 rfl ?_;obtain⟨a,b,n,h⟩:=h;refine qC0 n rfl<|gR 16 rfl<|qDs [0,4,5] 6 7<|qDr (qR 0 3 2 [(3,3),(4,3),(5,0)]) rfl rfl<|bh 6 (.set 1 (.mp 176 58 (List.map (λp=>(λx=>V.agg [(V.int .i64 x.1),(V.str x.2)]) p.1) (bZ (p1,f.text) (ac.mk a.kind b) G.names)) (List.map (λp=>ac.w p.2) (bZ (p1,f.text) (ac.mk a.kind b) G.names)))) rfl (by kernel_rfl) (zi iw (encV:=ac.w) (k:=(p1,f.text)) (d:=(ac.mk a.kind b)) (l:=G.names) underlying55 rfl rfl rfl rfl rfl rfl rfl rfl) (okM rfl) rfl (by kernel_rfl) rfl rfl<|qDe<|gR 9 rfl<|qBh 72 rfl rfl rfl h dy cv ?_ ?_<;>intro h;refine gR 5 rfl ?_;obtain⟨hb,h⟩:=h;refine gR 1 rfl<|gV 76 (qi (b+g)) rfl (ao hb rfl) rfl<|gR 11 rfl ?_;obtain⟨rfl,rfl⟩:=h;exact gE O [(5,.var 58 (ac.c (ac.mk a.kind (b+g))))] [(6,.ptr 5 0)] [0,1,2,7,8,3] [.cell 6 58];refine gR 10 rfl ?_;obtain⟨rfl,rfl⟩:=h;exact gE O [(5,.var 58 (ac.c (ac.mk a.kind b)))] [(6,.ptr 5 0)] [0,1,2,7,8,3] [.cell 6 58];refine gR 3 rfl<|qDs [0,4,5] 6 7<|qDr (qR 0 3 2 [(3,3),(4,3),(5,0)]) rfl rfl<|bh 6 (.set 1 (.mp 176 58 (List.map (λp=>(λx=>V.agg [(V.int .i64 x.1),(V.str x.2)]) p.1) (bZ (p1,f.text) (ac.mk c e) G.names)) (List.map (λp=>ac.w p.2) (bZ (p1,f.text) (ac.mk c e) G.names)))) rfl (by kernel_rfl) (zi iw (encV:=ac.w) (k:=(p1,f.text)) (d:=(ac.mk c e)) (l:=G.names) underlying55 rfl rfl rfl rfl rfl rfl rfl rfl) (okM rfl) rfl (by kernel_rfl) rfl rfl<|qDe<|gR 9 rfl<|qBh 72 rfl rfl rfl h dy cv ?_ ?_<;>intro h;refine gR 5 rfl ?_;obtain⟨hb,h⟩:=h;refine gR 1 rfl<|gV 76 (qi (e+g)) rfl (ao hb rfl) rfl<|gR 11 rfl ?_;obtain⟨rfl,rfl⟩:=h;exact gE O [(5,.var 58 (ac.c (ac.mk c (e+g))))] [(6,.ptr 5 0)] [0,1,2,7,8,3] [.cell 6 58];refine gR 10 rfl ?_;obtain⟨rfl,rfl⟩:=h;exact gE O [(5,.var 58 (ac.c (ac.mk c e)))] [(6,.ptr 5 0)] [0,1,2,7,8,3] [.cell 6 58]
def ie(m:Nat)(p1:Int)(p2:Tree)(b:Nat)(a:CKr)(d:List ac)(e:Nat)(O:am)(q0:CKr):Prop:=∀(K:Ctx) (J:Nat),aw K [2,1,0]→m≤J→qLG K f53 (λu G=>u=.agg (am.c O)∧G=⟨6,(CKr.y q0 3)⟩) (xK (aj f53)) [.loop (xK (aj f53)) J,.blk 0,.seq (xH (aj f53))] 47 (mkF 47 0 [(0,.ptr 0 0),(1,qi p1),(5,.box (al p2) 0),(6,.ptr 3 0),(7,.ptr 4 0),(8,qi ((p2.kids.length:Int)-2)),(18,.row 4 (kidsV (p2.kids.take b))),(19,qi (((p2.kids.take b).length:Nat):Int)),(20,qi (e:Int))]) ⟨8,((7,.row 58 2 (List.map ac.w d))::CKr.z a [(4,.var 97 [.sl 7,qi 0,qi 0]),(3,.var 97 [.nils,qi 0,qi 0])] 5)⟩
theorem wB(m:Nat)(p0:CKr)(p1:Int)(p2:Tree)(r0:am)(q0:CKr)(h:∃a,((p2.kids.length:Int)-2)=((a:Nat):Int)∧a≤p2.kids.length∧ie m p1 p2 a p0 ([]:List ac) 0 r0 q0):lP p0 p1 p2 r0 q0:=by
 refine qA 47 [2,1,0] func53 λK hK=>?_;refine gR 3 rfl<|gFP 5 rfl rfl rfl rfl<|gR 13 rfl<|gV 13 (qi (p2.kids.length:Int)) rfl (aJ (aD _)) rfl<|gLB 12 rfl (aD _) λc=>gR 1 rfl<|gV 14 (qi ((p2.kids.length:Int)-2)) rfl (ao (by have :=c;omega) rfl) rfl<|gR 9 rfl ?_;obtain⟨a,b,h⟩:=h;refine gV 17 (qi ((a:Nat):Int)) rfl (aL b) rfl ?_;obtain⟨hb',h⟩:=h;exact gY (MZ (aD p2.kids) ai rfl rfl AR (AY rfl) (Nat.zero_le _) hb' (((QN _ _ _).trans (congrArg _ (xy _ _))))) rfl rfl<|gR 1 rfl<|gV 19 (qi (((p2.kids.take a).length:Nat):Int)) rfl (aJ (aD _)) rfl<|gLB 18 rfl (aD _) λd=>gR 4 rfl<|go_loop m<|gNC 7 0 58 2 rfl rfl rfl rfl<|qW hK h [0,1,2,6,7,3,4,8]
theorem px(m:Nat)(p1:Int)(p2:Tree)(g:Nat)(k:CKr)(a:List ac)(d:Nat)(G:am)(q0:CKr)(h:((d<((p2.kids.take g).length))→∃i,(p2.kids.take g)[d]?=some i∧∃l,i.kids[0]?=some l∧∃e b,gy k p1 l e b∧(a++[e]).length≤1000000000∧d+1≤9223372036854775807∧ie m p1 p2 g b (a++[e]) (d+1) G q0)∧((¬d<((p2.kids.take g).length))→∃j,((p2.kids.length:Int)-2)=((j:Nat):Int)∧∃n,p2.kids[j]?=some n∧∃f c,gy k p1 n f c∧(am.mk a f)=G∧c=q0)):ie (m+1) p1 p2 g k a d G q0:=by
 refine qj λK O J x=>?_;refine gR 6 rfl<|qXh 21 rfl rfl rfl h bX bY ?_ ?_<;>intro U h;refine gR 7 rfl ?_;obtain⟨i,p,h⟩:=h;refine gY (aC (aq p) ai rfl rfl rfl rfl) rfl rfl<|gR 5 rfl<|qDs [4,8] 12 13<|qDr [(0,2),(1,3),(2,2),(3,2),(4,0),(5,0)] rfl rfl ?_;obtain⟨l,q,h⟩:=h;refine bD 6 rfl (by kernel_rfl) (aC (aq q) ai rfl rfl rfl rfl) rfl rfl ?_;refine qDr [(7,0)] rfl rfl ?_;obtain⟨e,b,t,h⟩:=h;refine qDC 8 t [0,1,2,5,6] rfl ?_;refine qHX ⟨15,(CKr.z b [(8,.var 29 (al i)),(7,.row 58 2 (List.map ac.w a)),(4,.var 97 [.sl 7,qi 0,qi 0]),(3,.var 97 [.nils,qi 0,qi 0])] 12)⟩<|qDr [(9,0)] rfl rfl ?_;obtain⟨hb,h⟩:=h;refine bh 10 (.repl 7 (.row 58 2 (List.map ac.w (a++[e])))) rfl (by kernel_rfl) (bI ai rfl rfl rfl rfl rfl (apM ac.w a e) (by rw[aB];exact hb)) (okR rfl) rfl (by kernel_rfl) rfl rfl ?_;refine qDr [(11,0),(12,1)] rfl rfl<|qDe<|gR 3 rfl ?_;obtain⟨hb,h⟩:=h;exact gR 1 rfl<|gV 36 (qi ((d+1:Nat):Int)) rfl (ao (by omega) (by omega)) rfl<|gR 2 rfl<|go_xloop<|qW J h [0,1,2,3,4,12,13,16];refine gR 3 rfl<|go_xloopE<|gR 9 rfl ?_;obtain⟨j,s,h⟩:=h;refine gV 41 (qi ((j:Nat):Int)) rfl (aL s) rfl ?_;obtain⟨n,r,h⟩:=h;refine gY (aC (aq r) ai rfl rfl rfl rfl) rfl rfl<|gR 1 rfl ?_;obtain⟨f,c,v,h⟩:=h;refine qC v [0,1,2,5,6] ?_;refine qHX ⟨14,(CKr.z c [(7,.row 58 2 (List.map ac.w a)),(4,.var 97 [.sl 7,qi 0,qi 0]),(3,.var 97 [.nils,qi 0,qi 0])] 11)⟩<|gR 11 rfl<|gFR 7 rfl (fR _ (λ_=>rfl) _) rfl rfl ?_;obtain⟨rfl,rfl⟩:=h;exact gE J [(5,.var 97 [.row 2 (List.map ac.w ((am.mk a f).params)),qi (((am.mk a f).result).simple),qi (((am.mk a f).result).lists)])] [(6,.ptr 5 0)] [0,1,2,11,12,3] [.cell 6 97]
def gk(m:Nat)(J:List Tree)(b:Nat)(a U:CKr):Prop:=∀(K:Ctx) (O:Nat),aw K []→m≤O→qLG K f24 (λu G=>u=.ptr 0 0∧G=⟨5,(CKr.y U 3)⟩) (xL (aj f24)) [.loop (xL (aj f24)) O,.blk 0,.seq (xF (aj f24))] 47 (mkF 47 0 [(3,.ptr 0 0),(15,.row 4 (kidsV J)),(16,qi (J.length:Int)),(17,qi (b:Int))]) ⟨5,(CKr.y a 3)⟩
def gf(m:Nat)(J:List Tree)(b:Tree)(e:Nat)(a:CKr)(c d:Nat)(Z:CKr):Prop:=∀(K:Ctx) (O U:Nat),aw K []→m≤O→m≤U→qLG K f24 (λu G=>u=.ptr 0 0∧G=⟨5,(CKr.y Z 3)⟩) (xM (xA (cK (cA (xA (xL (aj f24))))))) [.loop (xM (xA (cK (cA (xA (xL (aj f24))))))) O,.blk 2,.blk 1,.seq (xF (xL (aj f24))),.loop (xL (aj f24)) U,.blk 0,.seq (xF (aj f24))] 47 (mkF 47 0 [(3,.ptr 0 0),(4,qi (c:Int)),(15,.row 4 (kidsV J)),(16,qi (J.length:Int)),(17,qi (d:Int)),(23,.row 4 (kidsV b.kids)),(24,qi (b.kids.length:Int)),(25,qi (e:Int))]) ⟨5,(CKr.y a 3)⟩
def rK(m:Nat)(J:List Tree)(b:Tree)(a:CKr)(c d e:Nat)(Z:CKr):Prop:=∀(K:Ctx) (O U:Nat),aw K []→m≤O→m≤U→Go prog K (bodyPost prog f24 (SP K (λu G=>u=.ptr 0 0∧G=⟨5,(CKr.y Z 3)⟩))) (.ex .normal) [.blk 3,.seq (xF (xM (xA (cK (cA (xA (xL (aj f24)))))))),.loop (xM (xA (cK (cA (xA (xL (aj f24))))))) O,.blk 2,.blk 1,.seq (xF (xL (aj f24))),.loop (xL (aj f24)) U,.blk 0,.seq (xF (aj f24))] 47 (mkF 47 0 [(3,.ptr 0 0),(4,qi (c:Int)),(15,.row 4 (kidsV J)),(16,qi (J.length:Int)),(17,qi (d:Int)),(23,.row 4 (kidsV b.kids)),(24,qi (b.kids.length:Int)),(25,qi (e:Int))]) ⟨5,(CKr.y a 3)⟩
theorem yl(m:Nat)(p0:List Tree)(r0:CKr)(h:∃a,oR p0 a∧gk m p0 0 (CKr.mk p0 a ([]:(List ((Int×(List UInt8))×ac))) ([]:(List ((Int×Int)×am))) 0 ([]:List Int) ([]:List ae) 0 [] 0 0) r0):jP p0 r0:=by
 refine qA 47 [] func24 λK hK=>?_;refine gR 9 rfl ?_;obtain⟨a,b,h⟩:=h;refine qC0 b rfl<|gDo (.new (.mp 176 58 [] [])) (dMM 176 58) trivial rfl rfl rfl<|gHM 0 (List.map (λp=>(λx=>V.agg [(V.int .i64 x.1),(V.str x.2)]) p.1) ([]:(List ((Int×(List UInt8))×ac)))) (List.map (λp=>ac.w p.2) ([]:(List ((Int×(List UInt8))×ac)))) rfl rfl rfl rfl<|gDo (.new (.mp 100 97 [] [])) (dMM 100 97) trivial rfl rfl rfl<|gHM 1 (List.map (λp=>(λx=>V.agg [(V.int .i64 x.1),(V.int .i64 x.2)]) p.1) ([]:(List ((Int×Int)×am)))) (List.map (λp=>am.w p.2) ([]:(List ((Int×Int)×am)))) rfl rfl rfl rfl<|gR 10 rfl<|gV 16 (qi (p0.length:Int)) rfl (aJ (aD _)) rfl ?_;exact gLB 15 rfl (aD _) λc=>gR 4 rfl<|go_loop m<|gNC 2 5 3 1 rfl rfl rfl rfl<|gNC 2 6 47 3 rfl rfl rfl rfl<|qJH hK (h K _ hK (by omega)) [2,0,1,3,4] ⟨⟨_,rfl,⟨rfl,rfl,rfl⟩⟩,⟨⟨_,rfl,⟨rfl,rfl,rfl⟩⟩,⟨⟨_,rfl,⟨rfl,rfl,rfl,rfl⟩⟩,⟨⟨_,rfl,⟨rfl,rfl,rfl,rfl⟩⟩,⟨⟨_,rfl,⟨rfl,(.cons .rfl (.cons .rfl (.cons .rfl (.cons .rfl (.cons .rfl (.cons .rfl (.cons .rfl (.cons .rfl (.cons (.nil 1) (.cons .rfl (.cons .rfl .nil)))))))))))⟩⟩,trivial⟩⟩⟩⟩⟩
theorem qY(m:Nat)(p0:List Tree)(a:Nat)(b r0:CKr)(h:((a<p0.length)→∃c,p0[a]?=some c∧gf m p0 c 0 b a a r0)∧((¬a<p0.length)→b=r0)):gk (m+1) p0 a b r0:=by
 refine qj λK j1 hK f=>?_;refine gR 6 rfl<|qXh 18 rfl rfl rfl h bX bY ?_ ?_<;>intro hd h;refine gR 8 rfl ?_;obtain⟨c,d,h⟩:=h;exact gY (aC (aq d) ai rfl rfl rfl rfl) rfl rfl<|gR 11 rfl<|gV 24 (qi (c.kids.length:Int)) rfl (aJ (aD _)) rfl<|gLB 23 rfl (aD _) λe=>gR 4 rfl<|go_loop m<|qJ hK (h K _ _ hK (by omega) (by omega)) [0,1,2,3,4];refine gR 3 rfl<|go_xloopE<|gR 9 rfl ?_;subst h;exact gE hK [] [(2,.ptr 0 0)] [0,1,2,3,4] [.tmp 2]
theorem lJ(m:Nat)(J:List Tree)(q:Tree)(c:Nat)(e:CKr)(b n:Nat)(O:CKr)(h:((c<q.kids.length)→∃g,q.kids[c]?=some g∧((g.kind=2)→∃f a,lP e (b:Int) g f a∧rK m J q ({a with signatures:=(bZ ((b:Int),(c:Int)) f a.signatures)}) b n c O)∧((g.kind≠2)→c+1≤9223372036854775807∧gf m J q (c+1) e b n O))∧((¬c<q.kids.length)→n+1≤9223372036854775807∧gk m J (n+1) e O)):gf (m+1) J q c e b n O:=by
 intro K U Z G v y;obtain⟨U,rfl⟩:∃j,U=j+1:=⟨U-1,by omega⟩;obtain⟨Z,rfl⟩:∃j,Z=j+1:=⟨Z-1,by omega⟩;refine gR 6 rfl<|qXh 26 rfl rfl rfl h bX bY ?_ ?_<;>intro hd h;refine gR 8 rfl ?_;obtain⟨g,r,h⟩:=h;refine gY (aC (aq r) ai rfl rfl rfl rfl) rfl rfl<|gR 13 rfl<|qXe 32 rfl rfl rfl h ?_ ?_<;>intro hd h;refine gR 1 rfl<|qDs [] 12 12<|qDr (qR 0 3 2 (qR 4 5 2 [])) rfl rfl ?_;apply bR (i:=3) (j:=9) (by kernel_rfl) rfl rfl rfl rfl;exact(bn ai rfl rfl);exact(bn ai rfl rfl);refine qDr [(9,0)] rfl rfl ?_;obtain⟨f,a,t,h⟩:=h;refine qDC 10 t [0,1,2,3,4] rfl ?_;refine qHX ⟨12,(CKr.z a [(5,.var 29 (al g))] 9)⟩<|bh 11 (.set 2 (.mp 100 97 (List.map (λp=>(λx=>V.agg [(V.int .i64 x.1),(V.int .i64 x.2)]) p.1) (bZ ((b:Int),(c:Int)) f a.signatures)) (List.map (λp=>am.w p.2) (bZ ((b:Int),(c:Int)) f a.signatures)))) rfl (by kernel_rfl) (zi dE (encV:=am.w) (k:=((b:Int),(c:Int))) (d:=f) (l:=a.signatures) underlying56 rfl rfl rfl rfl rfl rfl rfl rfl) (okM rfl) rfl (by kernel_rfl) rfl rfl ?_;exact qDe<|qJ G (h K _ _ G (by omega) (by omega)) [0,1,2,9,10];obtain⟨f,a,s,h⟩:=h;apply bR (i:=3) (j:=10) (by kernel_rfl) rfl rfl rfl rfl;exact(bn ai rfl rfl);exact(cy (L':=[]) (by kernel_rfl) rfl rfl (fK (H:=⟨6,((5,.var 29 (al g))::CKr.y e 3)⟩) s [0,1,2,3,4] .rfl ⟨⟨_,rfl,⟨rfl,rfl,(vH _ e.faults).symm⟩⟩,⟨⟨_,rfl,⟨rfl,rfl,(vG _ e.path).symm⟩⟩,⟨⟨_,rfl,⟨rfl,rfl,rfl,rfl⟩⟩,⟨⟨_,rfl,⟨rfl,rfl,rfl,rfl⟩⟩,⟨⟨_,rfl,⟨rfl,aK.rfl⟩⟩,trivial⟩⟩⟩⟩⟩ rfl [] rfl) (.inl rfl));refine qDC 10 s [0,1,2,3,4] rfl ?_;refine qHX ⟨12,(CKr.z a [(5,.var 29 (al g))] 9)⟩<|bh 11 (.set 2 (.mp 100 97 (List.map (λp=>(λx=>V.agg [(V.int .i64 x.1),(V.int .i64 x.2)]) p.1) (bZ ((b:Int),(c:Int)) f a.signatures)) (List.map (λp=>am.w p.2) (bZ ((b:Int),(c:Int)) f a.signatures)))) rfl (by kernel_rfl) (zi dE (encV:=am.w) (k:=((b:Int),(c:Int))) (d:=f) (l:=a.signatures) underlying56 rfl rfl rfl rfl rfl rfl rfl rfl) (okM rfl) rfl (by kernel_rfl) rfl rfl ?_;exact qDe<|qJ G (h K _ _ G (by omega) (by omega)) [0,1,2,9,10];refine qHX ⟨12,(CKr.z a [(5,.var 29 (al g))] 9)⟩<|qDr [(3,0)] rfl rfl<|bh 11 (.set 2 (.mp 100 97 (List.map (λp=>(λx=>V.agg [(V.int .i64 x.1),(V.int .i64 x.2)]) p.1) (bZ ((b:Int),(c:Int)) f a.signatures)) (List.map (λp=>am.w p.2) (bZ ((b:Int),(c:Int)) f a.signatures)))) rfl (by kernel_rfl) (zi dE (encV:=am.w) (k:=((b:Int),(c:Int))) (d:=f) (l:=a.signatures) underlying56 rfl rfl rfl rfl rfl rfl rfl rfl) (okM rfl) rfl (by kernel_rfl) rfl rfl ?_;exact qDe<|qJ G (h K _ _ G (by omega) (by omega)) [0,1,2,9,10];refine gR 5 rfl ?_;obtain⟨hb,h⟩:=h;exact gR 1 rfl<|gV 44 (qi ((c+1:Nat):Int)) rfl (ao (by omega) (by omega)) rfl<|gR 2 rfl<|go_xloop<|qJ G (h K _ _ G (by omega) (by omega)) [0,1,2,3,4];refine gR 3 rfl<|go_xloopE<|gR 4 rfl ?_;obtain⟨hb,h⟩:=h;exact gR 1 rfl<|gV 45 (qi ((n+1:Nat):Int)) rfl (ao (by omega) (by omega)) rfl<|gR 2 rfl<|go_xloop<|qW G h [0,1,2,3,4]
theorem wX(m:Nat)(O:List Tree)(b:Tree)(c:CKr)(d e a:Nat)(U:CKr)(h:a+1≤9223372036854775807∧gf m O b (a+1) c d e U):rK (m+1) O b c d e a U:=by
 intro K G J Z f g;obtain⟨G,rfl⟩:∃j,G=j+1:=⟨G-1,by omega⟩;obtain⟨J,rfl⟩:∃j,J=j+1:=⟨J-1,by omega⟩;refine gR 3 rfl ?_;obtain⟨hb,h⟩:=h;exact gR 1 rfl<|gV 44 (qi ((a+1:Nat):Int)) rfl (ao (by omega) (by omega)) rfl<|gR 2 rfl<|go_xloop<|qJ Z (h K _ _ Z (by omega) (by omega)) [0,1,2,3,4]
def L0_typing_checker_call(m:Nat)(p1:Tree)(p2:List ay)(a:CKr)(b:List ac)(d e:Int)(f:Nat)(O:ac)(q0:CKr):Prop:=∀(K:Ctx) (J:Nat),aw K [2,1,0]→m≤J→qLG K f166 (λu G=>u=.agg (ac.c O)∧G=⟨6,(CKr.y q0 3)⟩) (xG (xH (aj f166))) [.loop (xG (xH (aj f166))) J,.blk 0,.seq (xA (xF (aj f166)))] 75 (mkF 75 0 [(0,.ptr 0 0),(2,.lk (List.map ay.c p2)),(6,.ptr 3 0),(8,.ptr 4 0),(38,.row 4 (kidsV p1.kids)),(39,qi (p1.kids.length:Int)),(40,qi (f:Int))]) ⟨7,(CKr.z a [(4,.var 97 [.row 2 (List.map ac.w b),qi d,qi e]),(3,vB 0 0)] 5)⟩
theorem wy(m:Nat)(p0:CKr)(p1:Tree)(p2:List ay)(r0:ac)(q0:CKr)(h:∃b a,jo p0 b a∧((b.Free=true)→∃e,aG a 1 [] e∧L0_typing_checker_call m p1 p2 e [] 0 0 0 r0 q0)∧((b.Free=false)→((aI (b.Module,b.Def) a.signatures=none)→((0≠(p1.kids.length:Int))→∃f,aG a 3 [] f∧L0_typing_checker_call m p1 p2 f [] 0 0 0 r0 q0)∧((0=(p1.kids.length:Int))→L0_typing_checker_call m p1 p2 a [] 0 0 0 r0 q0))∧(∀(d:am),aI (b.Module,b.Def) a.signatures=some d→((d.params.length≠p1.kids.length)→∃g,aG a 3 [] g∧L0_typing_checker_call m p1 p2 g d.params d.result.simple d.result.lists 0 r0 q0)∧((d.params.length=p1.kids.length)→L0_typing_checker_call m p1 p2 a d.params d.result.simple d.result.lists 0 r0 q0)))):lW p0 p1 p2 r0 q0:=by
 refine qA 75 [2,1,0] func166 λK hK=>?_;refine gR 3 rfl<|gFP 5 rfl rfl rfl rfl<|gR 6 rfl ?_;obtain⟨b,a,j,h⟩:=h;refine qC j [0,1,2,3,4] ?_;refine qHX ⟨13,(CKr.z a [(6,vB 0 0)] 10)⟩<|gR 16 rfl<|qXi 15 rfl rfl rfl h ?_ ?_<;>intro hd h;refine gR 3 rfl ?_;obtain⟨e,n,h⟩:=h;refine qC n [0,1,2,10,11] (hs:=(.cons .rfl (.cons .rfl (.cons (.nil 1) .nil)))) ?_;exact qHX ⟨20,(CKr.z e [(14,.var 97 [.nils,qi 0,qi 0]),(13,.var 151 (aA.c b)),(6,vB 0 0)] 18)⟩<|gR 8 rfl<|gV 39 (qi (p1.kids.length:Int)) rfl (aJ (aD _)) rfl<|gLB 38 rfl (aD _) λr=>gR 4 rfl<|go_loop m<|qJH hK (h K _ hK (by omega)) [0,1,2,6,14,18,19] ⟨⟨_,rfl,⟨rfl,rfl,(vH _ e.faults).symm⟩⟩,⟨⟨_,rfl,⟨rfl,rfl,(vG _ e.path).symm⟩⟩,⟨⟨_,rfl,⟨rfl,(.cons (.nil 2) (.cons .rfl (.cons .rfl .nil)))⟩⟩,⟨⟨_,rfl,⟨rfl,aK.rfl⟩⟩,⟨⟨_,rfl,⟨rfl,rfl,rfl,rfl⟩⟩,⟨⟨_,rfl,⟨rfl,rfl,rfl,rfl⟩⟩,⟨⟨_,rfl,⟨rfl,aK.rfl⟩⟩,trivial⟩⟩⟩⟩⟩⟩⟩;refine gR 2 rfl<|qDs [0,13] 10 11<|qDr (qR 0 3 2 ((3,3)::(4,2)::(5,3)::(qR 6 3 0 []))) rfl rfl ?_;rcases i:aI (b.Module,b.Def) a.signatures with _|d
 replace h:=h.1 i;refine bh (v:=some (.agg [.nils,qi 0,qi 0])) 9 (.nop) rfl (by kernel_rfl) (va dE (encV:=am.w) (k:=(b.Module,b.Def)) (l:=a.signatures) (zv:=.agg [.nils,qi 0,qi 0]) i underlying56 zeroValue97 (by kernel_rfl) rfl rfl rfl rfl) trivial rfl (by kernel_rfl) rfl rfl ?_;refine qDr [(10,1)] rfl rfl<|qDe<|gR 9 rfl<|gV 33 (qi (p1.kids.length:Int)) rfl (aJ (aD _)) rfl<|gLB 32 rfl (aD _) λs=>gR 3 rfl<|qXh 34 rfl rfl rfl h dy cv ?_ ?_<;>intro hd h;refine gR 3 rfl ?_;obtain⟨f,p,h⟩:=h;refine qC p [0,1,2,10,11] (hs:=(.cons .rfl (.cons .rfl (.cons (.nil 1) .nil)))) ?_;exact qHX ⟨20,(CKr.z f [(14,.var 97 [.nils,qi 0,qi 0]),(13,.var 151 (aA.c b)),(6,vB 0 0)] 18)⟩<|gR 8 rfl<|gV 39 (qi (p1.kids.length:Int)) rfl (aJ (aD _)) rfl<|gR 4 rfl<|go_loop m<|qJH hK (h K _ hK (by omega)) [0,1,2,6,14,18,19] ⟨⟨_,rfl,⟨rfl,rfl,(vH _ f.faults).symm⟩⟩,⟨⟨_,rfl,⟨rfl,rfl,(vG _ f.path).symm⟩⟩,⟨⟨_,rfl,⟨rfl,(.cons (.nil 2) (.cons .rfl (.cons .rfl .nil)))⟩⟩,⟨⟨_,rfl,⟨rfl,aK.rfl⟩⟩,⟨⟨_,rfl,⟨rfl,rfl,rfl,rfl⟩⟩,⟨⟨_,rfl,⟨rfl,rfl,rfl,rfl⟩⟩,⟨⟨_,rfl,⟨rfl,aK.rfl⟩⟩,trivial⟩⟩⟩⟩⟩⟩⟩;exact gR 9 rfl<|gV 39 (qi (p1.kids.length:Int)) rfl (aJ (aD _)) rfl<|gR 4 rfl<|go_loop m<|qJH hK (h K _ hK (by omega)) [0,1,2,6,14,10,11] ⟨⟨_,rfl,⟨rfl,rfl,(vH _ a.faults).symm⟩⟩,⟨⟨_,rfl,⟨rfl,rfl,(vG _ a.path).symm⟩⟩,⟨⟨_,rfl,⟨rfl,(.cons (.nil 2) (.cons .rfl (.cons .rfl .nil)))⟩⟩,⟨⟨_,rfl,⟨rfl,aK.rfl⟩⟩,⟨⟨_,rfl,⟨rfl,rfl,rfl,rfl⟩⟩,⟨⟨_,rfl,⟨rfl,rfl,rfl,rfl⟩⟩,⟨⟨_,rfl,⟨rfl,aK.rfl⟩⟩,trivial⟩⟩⟩⟩⟩⟩⟩;replace h:=h.2 d i;refine bh (v:=some (.agg (am.c d))) 9 (.nop) rfl (by kernel_rfl) (vg dE (encV:=am.w) (k:=(b.Module,b.Def)) (l:=a.signatures) (zv:=.agg [.nils,qi 0,qi 0]) i underlying56 zeroValue97 (by kernel_rfl) rfl rfl rfl rfl) trivial rfl (by kernel_rfl) rfl rfl ?_;refine qDr [(10,1)] rfl rfl<|qDe<|gR 6 rfl<|gV 30 (qi (d.params.length:Int)) rfl (aJ (aB ac.w _)) rfl<|gLB 29 rfl (aB ac.w _) λt=>gR 3 rfl<|gV 33 (qi (p1.kids.length:Int)) rfl (aJ (aD _)) rfl<|gLB 32 rfl (aD _) λx=>gR 3 rfl<|qXh 34 rfl rfl rfl h AN AJ ?_ ?_<;>intro hd h;refine gR 3 rfl ?_;obtain⟨g,q,h⟩:=h;refine qC q [0,1,2,10,11] (hs:=(.cons .rfl (.cons .rfl (.cons (.nil 1) .nil)))) ?_;exact qHX ⟨20,(CKr.z g [(14,.var 97 (am.c d)),(13,.var 151 (aA.c b)),(6,vB 0 0)] 18)⟩<|gR 8 rfl<|gV 39 (qi (p1.kids.length:Int)) rfl (aJ (aD _)) rfl<|gR 4 rfl<|go_loop m<|qW hK h [0,1,2,6,14,18,19];exact gR 9 rfl<|gV 39 (qi (p1.kids.length:Int)) rfl (aJ (aD _)) rfl<|gR 4 rfl<|go_loop m<|qW hK h [0,1,2,6,14,10,11]
theorem pu(m:Nat)(p1:Tree)(p2:List ay)(q:CKr)(b:List ac)(d e:Int)(a:Nat)(G:ac)(q0:CKr)(h:((a<p1.kids.length)→∃l,p1.kids[a]?=some l∧∃i,de q (a:Int) i∧∃n j,br i l 0 p2 n j∧∃g,bb j g∧((a<b.length)→∃r,b[a]?=some r∧∃p,cz n r p∧((p=true)→∃k,aG g 4 [(a:Int),0] k∧L0_typing_checker_call m p1 p2 k b d e (a+1) G q0)∧((p=false)→L0_typing_checker_call m p1 p2 g b d e (a+1) G q0))∧((¬a<b.length)→a+1≤9223372036854775807∧L0_typing_checker_call m p1 p2 g b d e (a+1) G q0))∧((¬a<p1.kids.length)→(ac.mk d e)=G∧q=q0)):L0_typing_checker_call (m+1) p1 p2 q b d e a G q0:=by
 refine qj λK U J γ=>?_;refine gR 6 rfl<|qXh 41 rfl rfl rfl h bX bY ?_ ?_<;>intro O h;refine gR 8 rfl ?_;obtain⟨l,s,h⟩:=h;refine gY (aC (aq s) ai rfl rfl rfl rfl) rfl rfl<|gR 10 rfl ?_;obtain⟨i,x,h⟩:=h;refine qC x [0,1,2,5,6] ?_;refine qHX ⟨13,(CKr.z i [(7,.var 29 (al l)),(4,.var 97 [.row 2 (List.map ac.w b),qi d,qi e]),(3,vB 0 0)] 11)⟩<|gR 7 rfl ?_;obtain⟨n,j,y,h⟩:=h;refine qC y [0,1,2,11,12] ?_;refine qHX ⟨19,(CKr.z j [(7,.var 29 (al l)),(4,.var 97 [.row 2 (List.map ac.w b),qi d,qi e]),(3,vB 0 0)] 16)⟩<|gR 7 rfl ?_;obtain⟨g,z,h⟩:=h;refine qC z [0,1,2,16,17] ?_;refine qHX ⟨25,(CKr.z g [(19,.var 58 (ac.c n)),(7,.var 29 (al l)),(4,.var 97 [.row 2 (List.map ac.w b),qi d,qi e]),(3,vB 0 0)] 23)⟩<|gR 3 rfl<|qDs [4,19] 14 14<|qDr ((0,2)::(qR 1 3 0 [])) rfl rfl<|gV 57 (qi (b.length:Int)) rfl (aJ (aB ac.w _)) rfl<|gLB 56 rfl (aB ac.w _) λv=>qDr [(4,0),(5,0)] rfl rfl<|qXhZ 59 58 rfl rfl rfl rfl h bX bY ?_ ?_<;>intro O h;refine qDr [(6,3),(7,2),(8,3),(9,0)] rfl rfl ?_;obtain⟨r,t,h⟩:=h;refine bD 10 rfl (by kernel_rfl) (aC (ar (f:=ac.w) t) ai rfl rfl rfl rfl) rfl rfl ?_;refine qDr [(11,0)] rfl rfl ?_;obtain⟨p,α,h⟩:=h;refine bz 12 α (by kernel_rfl) rfl (by kernel_rfl) rfl rfl .rfl rfl rfl ?_;refine qDr [(13,0)] rfl rfl<|qDe<|gR 1 rfl<|qXi 67 rfl rfl rfl h ?_ ?_<;>intro O h;refine gR 5 rfl<|gFR 25 rfl rfl rfl rfl ?_;obtain⟨k,β,h⟩:=h;refine qC β [0,1,2,23,24] ?_;exact qHX ⟨31,(CKr.z k [(19,.var 58 (ac.c n)),(7,.var 29 (al l)),(4,.var 97 [.row 2 (List.map ac.w b),qi d,qi e]),(3,vB 0 0)] 29)⟩<|gR 5 rfl<|gV 72 (qi ((a+1:Nat):Int)) rfl (ao (by have :=v;omega) (by omega)) rfl<|gR 2 rfl<|go_xloop<|qW J h [0,1,2,3,4,29,30];exact gR 6 rfl<|gV 72 (qi ((a+1:Nat):Int)) rfl (ao (by have :=v;omega) (by omega)) rfl<|gR 2 rfl<|go_xloop<|qW J h [0,1,2,3,4,23,24];refine qDr (qR 6 3 2 (qR 9 5 0 [])) rfl rfl<|qDe<|gR 6 rfl ?_;obtain⟨hb,h⟩:=h;exact gR 1 rfl<|gV 72 (qi ((a+1:Nat):Int)) rfl (ao (by omega) (by omega)) rfl<|gR 2 rfl<|go_xloop<|qW J h [0,1,2,3,4,23,24];refine gR 3 rfl<|go_xloopE<|gR 10 rfl ?_;obtain⟨rfl,rfl⟩:=h;exact gE J [(5,.var 58 (ac.c (ac.mk d e)))] [(6,.ptr 5 0)] [0,1,2,5,6,3] [.cell 6 58]
def L0_typing_checker_list(m:Nat)(p1:Tree)(p2:List ay)(a:CKr)(b d:Int)(e:Nat)(O:ac)(q0:CKr):Prop:=∀(K:Ctx) (J:Nat),aw K [2,1,0]→m≤J→qLG K f167 (λu G=>u=.agg (ac.c O)∧G=⟨6,(CKr.y q0 3)⟩) (xL (aj f167)) [.loop (xL (aj f167)) J,.blk 0,.seq (xF (aj f167))] 41 (mkF 41 0 [(0,.ptr 0 0),(2,.lk (List.map ay.c p2)),(4,.box (al p1) 0),(6,.ptr 3 0),(7,.ptr 4 0),(12,qi (p1.kids.length:Int)),(13,qi (e:Int))]) ⟨7,(CKr.z a [(4,vB b d),(3,vB 0 0)] 5)⟩
theorem wz(m:Nat)(p0:CKr)(p1:Tree)(p2:List ay)(r0:ac)(q0:CKr)(h:L0_typing_checker_list m p1 p2 p0 0 0 0 r0 q0):qO p0 p1 p2 r0 q0:=by
 refine qA 41 [2,1,0] func167 λK hK=>?_;exact gR 3 rfl<|gFP 5 rfl rfl rfl rfl<|gR 14 rfl<|gV 12 (qi (p1.kids.length:Int)) rfl (aJ (aD _)) rfl<|gLB 11 rfl (aD _) λa=>gR 4 rfl<|go_loop m<|qW hK h [0,1,2,6,7,3,4]
theorem oY(m:Nat)(p1:Tree)(p2:List ay)(j:CKr)(b d:Int)(a:Nat)(G:ac)(q0:CKr)(h:((a<p1.kids.length)→∃e f,br j p1 (a:Int) p2 e f∧((b=0)→∃k,cz e e k∧((k=true)→∃g,aG f 6 [(a:Int)] g∧a+1≤9223372036854775807∧L0_typing_checker_list m p1 p2 g e.simple e.lists (a+1) G q0)∧((k=false)→a+1≤9223372036854775807∧L0_typing_checker_list m p1 p2 f e.simple e.lists (a+1) G q0))∧((b≠0)→∃l,cz e (ac.mk b d) l∧((l=true)→∃i,aG f 6 [(a:Int)] i∧a+1≤9223372036854775807∧L0_typing_checker_list m p1 p2 i b d (a+1) G q0)∧((l=false)→a+1≤9223372036854775807∧L0_typing_checker_list m p1 p2 f b d (a+1) G q0)))∧((¬a<p1.kids.length)→((b≠0)→InI (d+1)∧(ac.mk b (d+1))=G∧j=q0)∧((b=0)→(ac.mk b d)=G∧j=q0))):L0_typing_checker_list (m+1) p1 p2 j b d a G q0:=by
 refine qj λK U J t=>?_;refine gR 6 rfl<|qXh 14 rfl rfl rfl h bX bY ?_ ?_<;>intro O h;refine gR 17 rfl ?_;obtain⟨e,f,n,h⟩:=h;refine qC n [0,1,2,5,6] ?_;refine qHX ⟨13,(CKr.z f [(4,vB b d),(3,vB 0 0)] 10)⟩<|gR 12 rfl<|qXe 23 rfl rfl rfl h ?_ ?_<;>intro O h;refine gR 10 rfl ?_;obtain⟨k,p,h⟩:=h;refine qC0 p rfl<|gR 2 rfl<|qXi 27 rfl rfl rfl h ?_ ?_<;>intro O h;refine gR 5 rfl<|gFR 14 rfl rfl rfl rfl ?_;obtain⟨g,q,h⟩:=h;refine qC q [0,1,2,10,11] ?_;refine qHX ⟨20,(CKr.z g [(13,.var 58 (ac.c e)),(4,.var 58 (ac.c e)),(3,vB 0 0)] 18)⟩<|gR 4 rfl ?_;obtain⟨hb,h⟩:=h;exact gR 1 rfl<|gV 32 (qi ((a+1:Nat):Int)) rfl (ao (by omega) (by omega)) rfl<|gR 2 rfl<|go_xloop<|qW J h [0,1,2,3,4,18,19];refine gR 5 rfl ?_;obtain⟨hb,h⟩:=h;exact gR 1 rfl<|gV 32 (qi ((a+1:Nat):Int)) rfl (ao (by omega) (by omega)) rfl<|gR 2 rfl<|go_xloop<|qW J h [0,1,2,3,4,10,11];refine gR 7 rfl ?_;obtain⟨l,r,h⟩:=h;refine qC0 r rfl<|gR 2 rfl<|qXi 27 rfl rfl rfl h ?_ ?_<;>intro O h;refine gR 5 rfl<|gFR 14 rfl rfl rfl rfl ?_;obtain⟨i,s,h⟩:=h;refine qC s [0,1,2,10,11] ?_;refine qHX ⟨20,(CKr.z i [(13,.var 58 (ac.c e)),(4,vB b d),(3,vB 0 0)] 18)⟩<|gR 4 rfl ?_;obtain⟨hb,h⟩:=h;exact gR 1 rfl<|gV 32 (qi ((a+1:Nat):Int)) rfl (ao (by omega) (by omega)) rfl<|gR 2 rfl<|go_xloop<|qW J h [0,1,2,3,4,18,19];refine gR 5 rfl ?_;obtain⟨hb,h⟩:=h;exact gR 1 rfl<|gV 32 (qi ((a+1:Nat):Int)) rfl (ao (by omega) (by omega)) rfl<|gR 2 rfl<|go_xloop<|qW J h [0,1,2,3,4,10,11];refine gR 3 rfl<|go_xloopE<|gR 10 rfl<|qXh 35 rfl rfl rfl h dy cv ?_ ?_<;>intro O h;refine gR 4 rfl ?_;obtain⟨hb,h⟩:=h;refine gR 1 rfl<|gV 38 (qi (d+1)) rfl (ao hb rfl) rfl<|gR 11 rfl ?_;obtain⟨rfl,rfl⟩:=h;exact gE J [(5,.var 58 (ac.c (ac.mk b (d+1))))] [(6,.ptr 5 0)] [0,1,2,5,6,3] [.cell 6 58];refine gR 10 rfl ?_;obtain⟨rfl,rfl⟩:=h;exact gE J [(5,.var 58 (ac.c (ac.mk b d)))] [(6,.ptr 5 0)] [0,1,2,5,6,3] [.cell 6 58]
def fh(m:Nat)(p1:Tree)(p2:List ay)(a:CKr)(J:ac)(q0:CKr):Prop:=∀(K:Ctx),aw K [2,1,0]→qLG K f168 (λu G=>u=.agg (ac.c J)∧G=⟨6,(CKr.y q0 3)⟩) (xA (aj f168)) [] 37 (mkF 37 0 [(0,.ptr 0 0),(2,.lk (List.map ay.c p2)),(4,.box (al p1) 0),(6,.ptr 3 0)]) ⟨6,(CKr.z a [(3,vB 0 0)] 4)⟩
theorem tP(m:Nat)(O:CKr)(p1:Tree)(p2:List ay)(J:ac)(q0:CKr)(h:∃d a,br O p1 0 p2 d a∧∃c,cz d (ac.mk 7 0) c∧((c=true)→∃b,aG a 4 [0] b∧fh m p1 p2 b J q0)∧((c=false)→fh m p1 p2 a J q0)):ji O p1 p2 J q0:=by
 refine qA 37 [2,1,0] func168 λK G=>?_;refine gR 3 rfl<|gFP 5 rfl rfl rfl rfl<|gR 5 rfl<|qDs [] 6 6<|qDr (qR 0 3 2 [(4,2)]) rfl rfl ?_;obtain⟨d,a,e,h⟩:=h;refine qDC 3 e [0,1,2,3,4] rfl ?_;refine qHX ⟨13,(CKr.z a [(6,vB 0 0)] 10)⟩ ?_;obtain⟨c,f,h⟩:=h;refine bz 5 f (by kernel_rfl) rfl (by kernel_rfl) rfl rfl .rfl rfl rfl ?_;refine qDe<|gR 1 rfl<|qBi 14 rfl rfl rfl h ?_ ?_<;>intro h;refine gR 4 rfl<|gFR 13 rfl rfl rfl rfl ?_;obtain⟨b,g,h⟩:=h;refine qC g [0,1,2,10,11] ?_;exact qHX ⟨19,(CKr.z b [(6,vB 0 0)] 17)⟩<|gR 2 rfl<|qJ G (h K G) [0,1,2,6,17,18];exact gR 3 rfl<|qJ G (h K G) [0,1,2,6,10,11]
theorem te(m:Nat)(p1:Tree)(p2:List ay)(i:CKr)(G:ac)(q0:CKr)(h:∃a f,br i p1 1 p2 a f∧∃b d,br f p1 2 p2 b d∧∃g,cz a b g∧((g=true)→∃e,aG d 6 [2] e∧((a.simple=0)→b=G∧e=q0)∧((a.simple≠0)→a=G∧e=q0))∧((g=false)→((a.simple=0)→b=G∧d=q0)∧((a.simple≠0)→a=G∧d=q0))):fh (m+1) p1 p2 i G q0:=by
 intro K J;refine gR 5 rfl ?_;obtain⟨a,f,j,h⟩:=h;refine qC j [0,1,2,4,5] ?_;refine qHX ⟨12,(CKr.z f [(3,vB 0 0)] 9)⟩<|gR 9 rfl ?_;obtain⟨b,d,k,h⟩:=h;refine qC k [0,1,2,9,10] ?_;refine qHX ⟨19,(CKr.z d [(12,.var 58 (ac.c a)),(3,vB 0 0)] 16)⟩<|gR 9 rfl ?_;obtain⟨g,l,h⟩:=h;refine qC0 l rfl<|gR 2 rfl<|qBi 28 rfl rfl rfl h ?_ ?_<;>intro h;refine gR 4 rfl<|gFR 20 rfl rfl rfl rfl ?_;obtain⟨e,n,h⟩:=h;refine qC n [0,1,2,16,17] ?_;refine qHX ⟨26,(CKr.z e [(19,.var 58 (ac.c b)),(12,.var 58 (ac.c a)),(3,vB 0 0)] 24)⟩<|gR 10 rfl<|qBe 34 rfl rfl rfl h ?_ ?_<;>intro h;refine gR 9 rfl ?_;obtain⟨rfl,rfl⟩:=h;exact gE J [(5,.var 58 (ac.c b))] [(6,.ptr 5 0)] [0,1,2,24,25,3] [.cell 6 58];refine gR 10 rfl ?_;obtain⟨rfl,rfl⟩:=h;exact gE J [(5,.var 58 (ac.c a))] [(6,.ptr 5 0)] [0,1,2,24,25,3] [.cell 6 58];refine gR 11 rfl<|qBe 34 rfl rfl rfl h ?_ ?_<;>intro h;refine gR 9 rfl ?_;obtain⟨rfl,rfl⟩:=h;exact gE J [(5,.var 58 (ac.c b))] [(6,.ptr 5 0)] [0,1,2,16,17,3] [.cell 6 58];refine gR 10 rfl ?_;obtain⟨rfl,rfl⟩:=h;exact gE J [(5,.var 58 (ac.c a))] [(6,.ptr 5 0)] [0,1,2,16,17,3] [.cell 6 58]
def ir(m:Nat)(p1:Tree)(b d:ac)(a:CKr)(J:ac)(q0:CKr):Prop:=∀(K:Ctx),aw K [2,1,0]→Go prog K (bodyPost prog f169 (SP K (λu G=>u=.agg (ac.c J)∧G=⟨6,(CKr.y q0 3)⟩))) (.ex .normal) [.seq (xA (aj f169))] 55 (mkF 55 0 [(0,.ptr 0 0),(4,.box (al p1) 0),(6,.ptr 3 0),(7,.ptr 4 0)]) ⟨7,(CKr.z a [(4,.var 197 [qi b.simple,qi b.lists,qi d.simple,qi d.lists]),(3,vB 0 0)] 5)⟩
def mm(m:Nat)(p1:Tree)(b d:ac)(a:CKr)(J:ac)(q0:CKr):Prop:=∀(K:Ctx),aw K [2,1,0]→qLG K f169 (λu G=>u=.agg (ac.c J)∧G=⟨6,(CKr.y q0 3)⟩) (xG (xH (aj f169))) [.loop (xG (xH (aj f169))) 3,.blk 0,.seq (xA (xF (aj f169)))] 55 (mkF 55 0 [(0,.ptr 0 0),(4,.box (al p1) 0),(6,.ptr 3 0),(37,.agg [qi b.simple,qi b.lists,qi d.simple,qi d.lists]),(38,qi 0)]) ⟨6,(CKr.z a [(3,vB 0 0)] 4)⟩
def eQ(m:Nat)(p1:Tree)(b d:ac)(a:CKr)(J:ac)(q0:CKr):Prop:=∀(K:Ctx),aw K [2,1,0]→qLG K f169 (λu G=>u=.agg (ac.c J)∧G=⟨6,(CKr.y q0 3)⟩) (xG (xH (aj f169))) [.loop (xG (xH (aj f169))) 2,.blk 0,.seq (xA (xF (aj f169)))] 55 (mkF 55 0 [(0,.ptr 0 0),(4,.box (al p1) 0),(6,.ptr 3 0),(37,.agg [qi b.simple,qi b.lists,qi d.simple,qi d.lists]),(38,qi 1)]) ⟨6,(CKr.z a [(3,vB 0 0)] 4)⟩
def eP(m:Nat)(p1:Tree)(b d:ac)(a:CKr)(J:ac)(q0:CKr):Prop:=∀(K:Ctx),aw K [2,1,0]→qLG K f169 (λu G=>u=.agg (ac.c J)∧G=⟨6,(CKr.y q0 3)⟩) (xG (xH (aj f169))) [.loop (xG (xH (aj f169))) 1,.blk 0,.seq (xA (xF (aj f169)))] 55 (mkF 55 0 [(0,.ptr 0 0),(4,.box (al p1) 0),(6,.ptr 3 0),(37,.agg [qi b.simple,qi b.lists,qi d.simple,qi d.lists]),(38,qi 2)]) ⟨6,(CKr.z a [(3,vB 0 0)] 4)⟩
theorem th(m:Nat)(J:CKr)(p1:Tree)(p2:List ay)(O:ac)(q0:CKr)(h:∃d a,br J p1 0 p2 d a∧∃c b,br a p1 1 p2 c b∧ir m p1 d c b O q0):iT J p1 p2 O q0:=by
 refine qA 55 [2,1,0] func169 λK G=>?_;refine gR 3 rfl<|gFP 5 rfl rfl rfl rfl<|gR 4 rfl<|qDs [] 10 11<|qDr (qR 0 3 2 (qR 4 3 2 [])) rfl rfl ?_;obtain⟨d,a,e,h⟩:=h;apply bR (i:=3) (j:=9) (by kernel_rfl) rfl rfl rfl rfl;exact(cy (L':=[]) (by kernel_rfl) rfl rfl (fK (H:=⟨7,((6,vB 0 0)::CKr.y J 3)⟩) e [0,1,2,3,4] .rfl ⟨⟨_,rfl,⟨rfl,rfl,(vH _ J.faults).symm⟩⟩,⟨⟨_,rfl,⟨rfl,rfl,(vG _ J.path).symm⟩⟩,⟨⟨_,rfl,⟨rfl,rfl,rfl,rfl⟩⟩,⟨⟨_,rfl,⟨rfl,rfl,rfl,rfl⟩⟩,⟨⟨_,rfl,⟨rfl,aK.rfl⟩⟩,trivial⟩⟩⟩⟩⟩ rfl [] rfl) (.inl rfl));exact(bn ai rfl rfl);refine qHX ⟨13,(CKr.z a [(6,vB 0 0)] 10)⟩ ?_;obtain⟨c,b,f,h⟩:=h;apply bR (i:=7) (j:=9) (by kernel_rfl) rfl rfl rfl rfl;exact(cy (L':=[]) (by kernel_rfl) rfl rfl (fK (H:=⟨13,(CKr.z a [(6,vB 0 0)] 10)⟩) f [0,1,2,10,11] .rfl ⟨⟨_,rfl,⟨rfl,rfl,(vH _ a.faults).symm⟩⟩,⟨⟨_,rfl,⟨rfl,rfl,(vG _ a.path).symm⟩⟩,⟨⟨_,rfl,⟨rfl,rfl,rfl,rfl⟩⟩,⟨⟨_,rfl,⟨rfl,rfl,rfl,rfl⟩⟩,⟨⟨_,rfl,⟨rfl,aK.rfl⟩⟩,trivial⟩⟩⟩⟩⟩ rfl [] rfl) (.inl rfl));exact(bn ai rfl rfl);exact qHX ⟨19,(CKr.z b [(6,vB 0 0)] 16)⟩<|qDr [(8,2),(9,0),(10,1)] rfl rfl<|qDe<|qJ G (h K G) [0,1,2,6,19,16,17];refine qDC 7 f [0,1,2,10,11] rfl ?_;exact qHX ⟨20,(CKr.z b [(13,.var 197 [qi 0,qi 0,qi 0,qi 0]),(6,vB 0 0)] 17)⟩<|qDr [(8,0),(10,1)] rfl rfl<|qDe<|qJ G (h K G) [0,1,2,6,13,17,18];refine qDC 3 e [0,1,2,3,4] rfl ?_;refine qHX ⟨14,(CKr.z a [(7,.var 197 [qi 0,qi 0,qi 0,qi 0]),(6,vB 0 0)] 11)⟩ ?_;obtain⟨c,b,g,h⟩:=h;refine qDC 7 g [0,1,2,11,12] rfl ?_;exact qHX ⟨20,(CKr.z b [(7,.var 197 [qi 0,qi 0,qi 0,qi 0]),(6,vB 0 0)] 17)⟩<|qDr [(8,0),(10,1)] rfl rfl<|qDe<|qJ G (h K G) [0,1,2,6,7,17,18]
theorem sH(m:Nat)(p1:Tree)(a b:ac)(f:CKr)(r0:ac)(q0:CKr)(h:((p1.text=[43])→∃g c,mL f (a,b) g c∧g=r0∧c=q0)∧((p1.text≠[43])→((p1.text=[61,61])→∃i,cz a b i∧((i=true)→∃d,aG f 6 [1] d∧(ac.mk 7 0)=r0∧d=q0)∧((i=false)→(ac.mk 7 0)=r0∧f=q0))∧((p1.text≠[61,61])→mm m p1 a b f r0 q0))):ir (m+1) p1 a b f r0 q0:=by
 intro K hK;refine gR 9 rfl<|qBe 21 rfl rfl rfl h ?_ ?_<;>intro h;refine gR 5 rfl ?_;obtain⟨g,c,j,h⟩:=h;refine qC j [0,1,2,5,6] ?_;refine qHX ⟨13,(CKr.z c [(4,.var 197 [qi a.simple,qi a.lists,qi b.simple,qi b.lists]),(3,vB 0 0)] 10)⟩<|gR 5 rfl ?_;obtain⟨rfl,rfl⟩:=h;exact gE hK [(5,.var 58 (ac.c g))] [(6,.ptr 5 0)] [0,1,2,10,11,3] [.cell 6 58];refine gR 11 rfl<|qBe 27 rfl rfl rfl h ?_ ?_<;>intro h;refine gR 4 rfl<|gY (yIP (len:=2) (e:=58) (sz:=2) ai rfl rfl rfl rfl rfl rfl rfl rfl) rfl rfl<|gR 1 rfl<|gY (yIP (len:=2) (e:=58) (sz:=2) ai rfl rfl rfl rfl rfl rfl rfl rfl) rfl rfl<|gR 1 rfl ?_;obtain⟨i,k,h⟩:=h;refine qC0 k rfl<|gR 2 rfl<|qBi 32 rfl rfl rfl h ?_ ?_<;>intro h;refine gR 4 rfl<|gFR 7 rfl rfl rfl rfl ?_;obtain⟨d,l,h⟩:=h;refine qC l [0,1,2,5,6] ?_;refine qHX ⟨13,(CKr.z d [(4,.var 197 [qi a.simple,qi a.lists,qi b.simple,qi b.lists]),(3,vB 0 0)] 11)⟩<|gR 10 rfl ?_;obtain⟨rfl,rfl⟩:=h;exact gE hK [(5,.var 58 (ac.c (ac.mk 7 0)))] [(6,.ptr 5 0)] [0,1,2,11,12,3] [.cell 6 58];refine gR 11 rfl ?_;obtain⟨rfl,rfl⟩:=h;exact gE hK [(5,.var 58 (ac.c (ac.mk 7 0)))] [(6,.ptr 5 0)] [0,1,2,5,6,3] [.cell 6 58];exact gR 11 rfl<|go_loop 3<|qJ hK (h K hK) [0,1,2,3,5,6]
theorem sT(m:Nat)(p1:Tree)(b f:ac)(g:CKr)(J:ac)(q0:CKr)(h:∃d,cz b (ac.mk 5 0) d∧((d=true)→∃a,aG g 4 [0] a∧eQ m p1 b f a J q0)∧((d=false)→eQ m p1 b f g J q0)):mm (m+1) p1 b f g J q0:=by
 intro K G;refine gR 14 rfl<|gY (Ir (len:=2) (e:=58) (sz:=2) (k:=0) ai rfl rfl (by kernel_rfl) rfl rfl (by decide) rfl) rfl rfl<|gR 9 rfl ?_;obtain⟨d,i,h⟩:=h;refine qC0 i rfl<|gR 2 rfl<|qXi 44 rfl rfl rfl h ?_ ?_<;>intro O h;refine gR 5 rfl<|gFR 7 rfl rfl rfl rfl ?_;obtain⟨a,j,h⟩:=h;refine qC j [0,1,2,4,5] ?_;exact qHX ⟨13,(CKr.z a [(6,.var 58 (ac.c b)),(3,vB 0 0)] 11)⟩<|gR 5 rfl<|gV 49 (qi 1) rfl (ao (by omega) (by omega)) rfl<|gR 2 rfl<|go_xloop<|qJ G (h K G) [0,1,2,3,11,12];exact gR 6 rfl<|gV 49 (qi 1) rfl (ao (by omega) (by omega)) rfl<|gR 2 rfl<|go_xloop<|qJ G (h K G) [0,1,2,3,4,5]
theorem rL2_typing_checker_operation(m:Nat)(p1:Tree)(f b:ac)(g:CKr)(J:ac)(q0:CKr)(h:∃d,cz b (ac.mk 5 0) d∧((d=true)→∃a,aG g 4 [1] a∧eP m p1 f b a J q0)∧((d=false)→eP m p1 f b g J q0)):eQ (m+1) p1 f b g J q0:=by
 intro K G;refine gR 14 rfl<|gY (Ir (len:=2) (e:=58) (sz:=2) (k:=1) ai rfl rfl (by kernel_rfl) rfl rfl (by decide) rfl) rfl rfl<|gR 9 rfl ?_;obtain⟨d,i,h⟩:=h;refine qC0 i rfl<|gR 2 rfl<|qXi 44 rfl rfl rfl h ?_ ?_<;>intro O h;refine gR 5 rfl<|gFR 7 rfl rfl rfl rfl ?_;obtain⟨a,j,h⟩:=h;refine qC j [0,1,2,4,5] ?_;exact qHX ⟨13,(CKr.z a [(6,.var 58 (ac.c b)),(3,vB 0 0)] 11)⟩<|gR 5 rfl<|gV 49 (qi 2) rfl (ao (by omega) (by omega)) rfl<|gR 2 rfl<|go_xloop<|qJ G (h K G) [0,1,2,3,11,12];exact gR 6 rfl<|gV 49 (qi 2) rfl (ao (by omega) (by omega)) rfl<|gR 2 rfl<|go_xloop<|qJ G (h K G) [0,1,2,3,4,5]
theorem rL3_typing_checker_operation(m:Nat)(p1:Tree)(b c:ac)(a:CKr)(G:ac)(q0:CKr)(h:((p1.text=[60])→(ac.mk 7 0)=G∧a=q0)∧((p1.text≠[60])→(ac.mk 5 0)=G∧a=q0)):eP (m+1) p1 b c a G q0:=by
 intro K J;refine gR 9 rfl<|go_xloopE<|gR 10 rfl<|qBe 52 rfl rfl rfl h ?_ ?_<;>intro h;refine gR 9 rfl ?_;obtain⟨rfl,rfl⟩:=h;exact gE J [(5,.var 58 (ac.c (ac.mk 7 0)))] [(6,.ptr 5 0)] [0,1,2,4,5,3] [.cell 6 58];refine gR 10 rfl ?_;obtain⟨rfl,rfl⟩:=h;exact gE J [(5,.var 58 (ac.c (ac.mk 5 0)))] [(6,.ptr 5 0)] [0,1,2,4,5,3] [.cell 6 58]
def ra(m:Nat)(J:CKr)(p1:(ac×ac))(O:ac)(q0:CKr):Prop:=∀(K:Ctx),aw K [2,1,0]→qLG K f184 (λu G=>u=.agg (ac.c O)∧G=⟨6,(CKr.y q0 3)⟩) (xK (aj f184)) [.loop (xK (aj f184)) 3,.blk 0,.seq (xH (aj f184))] 49 (mkF 49 0 [(0,.ptr 0 0),(3,.box [qi p1.1.simple,qi p1.1.lists,qi p1.2.simple,qi p1.2.lists] 0),(4,.ptr 3 0),(5,.bool false),(6,.ptr 4 0),(9,.agg [qi p1.1.simple,qi p1.1.lists,qi p1.2.simple,qi p1.2.lists]),(10,qi 0)]) ⟨7,(CKr.z J [(4,vB 0 0),(3,vB 0 0)] 5)⟩
def iz(m:Nat)(J:CKr)(p1:(ac×ac))(a:Bool)(O:ac)(q0:CKr):Prop:=∀(K:Ctx),aw K [2,1,0]→qLG K f184 (λu G=>u=.agg (ac.c O)∧G=⟨6,(CKr.y q0 3)⟩) (cB (xD (cK (cA (xA (xK (aj f184))))))) [.blk 2,.blk 1,.seq (xF (xK (aj f184))),.loop (xK (aj f184)) 3,.blk 0,.seq (xH (aj f184))] 49 (mkF 49 0 [(0,.ptr 0 0),(3,.box [qi p1.1.simple,qi p1.1.lists,qi p1.2.simple,qi p1.2.lists] 0),(4,.ptr 3 0),(5,.bool false),(6,.ptr 4 0),(7,qi 0),(8,.ptr 5 0),(9,.agg [qi p1.1.simple,qi p1.1.lists,qi p1.2.simple,qi p1.2.lists]),(10,qi 0),(14,.bool a)]) ⟨8,(CKr.z J [(5,.var 58 (ac.c p1.1)),(4,vB 0 0),(3,vB 0 0)] 6)⟩
def fx(m:Nat)(p1:(ac×ac))(a:CKr)(b:Bool)(d e:Int)(J:ac)(q0:CKr):Prop:=∀(K:Ctx),aw K [2,1,0]→qLG K f184 (λu G=>u=.agg (ac.c J)∧G=⟨6,(CKr.y q0 3)⟩) (xK (aj f184)) [.loop (xK (aj f184)) 2,.blk 0,.seq (xH (aj f184))] 49 (mkF 49 0 [(0,.ptr 0 0),(3,.box [qi p1.1.simple,qi p1.1.lists,qi p1.2.simple,qi p1.2.lists] 0),(4,.ptr 3 0),(5,.bool b),(6,.ptr 4 0),(9,.agg [qi p1.1.simple,qi p1.1.lists,qi p1.2.simple,qi p1.2.lists]),(10,qi 1)]) ⟨7,(CKr.z a [(4,vB d e),(3,vB 0 0)] 5)⟩
def iG(m:Nat)(p1:(ac×ac))(a:CKr)(b:Bool)(d e:Int)(f:Bool)(J:ac)(q0:CKr):Prop:=∀(K:Ctx),aw K [2,1,0]→qLG K f184 (λu G=>u=.agg (ac.c J)∧G=⟨6,(CKr.y q0 3)⟩) (cB (xD (cK (cA (xA (xK (aj f184))))))) [.blk 2,.blk 1,.seq (xF (xK (aj f184))),.loop (xK (aj f184)) 2,.blk 0,.seq (xH (aj f184))] 49 (mkF 49 0 [(0,.ptr 0 0),(3,.box [qi p1.1.simple,qi p1.1.lists,qi p1.2.simple,qi p1.2.lists] 0),(4,.ptr 3 0),(5,.bool b),(6,.ptr 4 0),(7,qi 1),(8,.ptr 5 0),(9,.agg [qi p1.1.simple,qi p1.1.lists,qi p1.2.simple,qi p1.2.lists]),(10,qi 1),(14,.bool f)]) ⟨8,(CKr.z a [(5,.var 58 (ac.c p1.2)),(4,vB d e),(3,vB 0 0)] 6)⟩
def dQ(m:Nat)(p1:(ac×ac))(b d:Int)(a:CKr)(e:Bool)(J:ac)(q0:CKr):Prop:=∀(K:Ctx),aw K [2,1,0]→qLG K f184 (λu G=>u=.agg (ac.c J)∧G=⟨6,(CKr.y q0 3)⟩) (xK (aj f184)) [.loop (xK (aj f184)) 1,.blk 0,.seq (xH (aj f184))] 49 (mkF 49 0 [(0,.ptr 0 0),(3,.box [qi p1.1.simple,qi p1.1.lists,qi p1.2.simple,qi p1.2.lists] 0),(4,.ptr 3 0),(5,.bool e),(6,.ptr 4 0),(9,.agg [qi p1.1.simple,qi p1.1.lists,qi p1.2.simple,qi p1.2.lists]),(10,qi 2)]) ⟨7,(CKr.z a [(4,vB b d),(3,vB 0 0)] 5)⟩
theorem xb(m:Nat)(p0:CKr)(p1:(ac×ac))(r0:ac)(q0:CKr)(h:ra m p0 p1 r0 q0):mL p0 p1 r0 q0:=by
 refine qA 49 [2,1,0] func184 λK hK=>?_;exact gR 3 rfl<|gFP 5 rfl rfl rfl rfl<|gR 21 rfl<|go_loop 3<|qJ hK (h K hK) [0,1,2,6,7,3,4]
theorem wC(m:Nat)(J:CKr)(p1:(ac×ac))(O:ac)(q0:CKr)(h:((p1.1.simple=5∧p1.1.lists=0)→iz m J p1 true O q0)∧((¬(p1.1.simple=5∧p1.1.lists=0))→iz m J p1 (p1.1.simple==6&&p1.1.lists==0) O q0)):ra (m+1) J p1 O q0:=by
 intro K G;refine gR 14 rfl<|gY (Ir (len:=2) (e:=58) (sz:=2) (k:=0) ai rfl rfl (by kernel_rfl) rfl rfl (by decide) rfl) rfl rfl<|gR 10 rfl<|gY (v:=.bool (p1.1.simple==5&&p1.1.lists==0)) (Cw (neg:=false) underlying58 (by kernel_rfl) (by kernel_rfl) (by decide) (by decide) rfl rfl (by kernel_rfl) (by kernel_rfl) rfl rfl qI qI qI qI (eI underlying3) (eI underlying3)) rfl rfl<|gR 1 rfl<|qBhZ 18 17 rfl rfl rfl rfl h FI FO ?_ ?_<;>intro h;exact gR 7 rfl<|qJ G (h K G) [0,1,2,3,4,7,5,6];exact gR 2 rfl<|gY (v:=.bool (p1.1.simple==6&&p1.1.lists==0)) (Cw (neg:=false) underlying58 (by kernel_rfl) (by kernel_rfl) (by decide) (by decide) rfl rfl (by kernel_rfl) (by kernel_rfl) rfl rfl qI qI qI qI (eI underlying3) (eI underlying3)) rfl rfl<|gR 4 rfl<|qJ G (h K G) [0,1,2,3,4,7,5,6]
theorem wt(m:Nat)(J:CKr)(p1:(ac×ac))(b:Bool)(O:ac)(q0:CKr)(h:((b=true)→fx m p1 J false p1.1.simple p1.1.lists O q0)∧((b=false)→((p1.1.simple≠0)→∃a,aG J 4 [0] a∧fx m p1 a true 0 0 O q0)∧((p1.1.simple=0)→fx m p1 J false 0 0 O q0))):iz (m+1) J p1 b O q0:=by
 intro K G;refine qXi 14 rfl rfl rfl h ?_ ?_<;>intro U h;exact gR 18 rfl<|gV 35 (qi 1) rfl (ao (by omega) (by omega)) rfl<|gR 2 rfl<|go_xloop<|qJ G (h K G) [0,1,2,3,4,6,7];refine gR 9 rfl<|qXhZ 27 30 rfl rfl rfl rfl h dy cv ?_ ?_<;>intro U h;refine gR 10 rfl<|gFR 8 rfl rfl rfl rfl ?_;obtain⟨a,d,h⟩:=h;refine qC d [0,1,2,6,7] ?_;exact qHX ⟨14,(CKr.z a [(5,.var 58 (ac.c p1.1)),(4,vB 0 0),(3,vB 0 0)] 12)⟩<|gR 6 rfl<|gV 35 (qi 1) rfl (ao (by omega) (by omega)) rfl<|gR 2 rfl<|go_xloop<|qJ G (h K G) [0,1,2,3,4,12,13];exact gR 7 rfl<|gV 35 (qi 1) rfl (ao (by omega) (by omega)) rfl<|gR 2 rfl<|go_xloop<|qJ G (h K G) [0,1,2,3,4,6,7]
theorem rL2_typing_checker_sum(m:Nat)(p1:(ac×ac))(a:CKr)(b:Bool)(c d:Int)(J:ac)(q0:CKr)(h:((p1.2.simple=5∧p1.2.lists=0)→iG m p1 a b c d true J q0)∧((¬(p1.2.simple=5∧p1.2.lists=0))→iG m p1 a b c d (p1.2.simple==6&&p1.2.lists==0) J q0)):fx (m+1) p1 a b c d J q0:=by
 intro K G;refine gR 14 rfl<|gY (Ir (len:=2) (e:=58) (sz:=2) (k:=1) ai rfl rfl (by kernel_rfl) rfl rfl (by decide) rfl) rfl rfl<|gR 10 rfl<|gY (v:=.bool (p1.2.simple==5&&p1.2.lists==0)) (Cw (neg:=false) underlying58 (by kernel_rfl) (by kernel_rfl) (by decide) (by decide) rfl rfl (by kernel_rfl) (by kernel_rfl) rfl rfl qI qI qI qI (eI underlying3) (eI underlying3)) rfl rfl<|gR 1 rfl<|qBhZ 18 17 rfl rfl rfl rfl h FI FO ?_ ?_<;>intro h;exact gR 7 rfl<|qJ G (h K G) [0,1,2,3,4,7,5,6];exact gR 2 rfl<|gY (v:=.bool (p1.2.simple==6&&p1.2.lists==0)) (Cw (neg:=false) underlying58 (by kernel_rfl) (by kernel_rfl) (by decide) (by decide) rfl rfl (by kernel_rfl) (by kernel_rfl) rfl rfl qI qI qI qI (eI underlying3) (eI underlying3)) rfl rfl<|gR 4 rfl<|qJ G (h K G) [0,1,2,3,4,7,5,6]
theorem wA(m:Nat)(p1:(ac×ac))(d:CKr)(f:Bool)(b e:Int)(g:Bool)(J:ac)(q0:CKr)(h:((g=true)→((b=0)→dQ m p1 p1.2.simple p1.2.lists d f J q0)∧((b≠0)→dQ m p1 b e d f J q0))∧((g=false)→((p1.2.simple≠0)→∃a,aG d 4 [1] a∧dQ m p1 b e a true J q0)∧((p1.2.simple=0)→dQ m p1 b e d f J q0))):iG (m+1) p1 d f b e g J q0:=by
 intro K G;refine qXi 14 rfl rfl rfl h ?_ ?_<;>intro O h;refine gR 8 rfl<|qXe 25 rfl rfl rfl h ?_ ?_<;>intro O h;exact gR 10 rfl<|gV 35 (qi 2) rfl (ao (by omega) (by omega)) rfl<|gR 2 rfl<|go_xloop<|qJ G (h K G) [0,1,2,3,4,6,7];exact gR 7 rfl<|gV 35 (qi 2) rfl (ao (by omega) (by omega)) rfl<|gR 2 rfl<|go_xloop<|qJ G (h K G) [0,1,2,3,4,6,7];refine gR 9 rfl<|qXhZ 27 30 rfl rfl rfl rfl h dy cv ?_ ?_<;>intro O h;refine gR 10 rfl<|gFR 8 rfl rfl rfl rfl ?_;obtain⟨a,i,h⟩:=h;refine qC i [0,1,2,6,7] ?_;exact qHX ⟨14,(CKr.z a [(5,.var 58 (ac.c p1.2)),(4,vB b e),(3,vB 0 0)] 12)⟩<|gR 6 rfl<|gV 35 (qi 2) rfl (ao (by omega) (by omega)) rfl<|gR 2 rfl<|go_xloop<|qJ G (h K G) [0,1,2,3,4,12,13];exact gR 7 rfl<|gV 35 (qi 2) rfl (ao (by omega) (by omega)) rfl<|gR 2 rfl<|go_xloop<|qJ G (h K G) [0,1,2,3,4,6,7]
theorem ww(m:Nat)(p1:(ac×ac))(a b:Int)(d:CKr)(g:Bool)(G:ac)(q0:CKr)(h:((g=false)→∃f,cz p1.1 p1.2 f∧((f=true)→∃c,aG d 6 [1] c∧(ac.mk a b)=G∧c=q0)∧((f=false)→(ac.mk a b)=G∧d=q0))∧((g=true)→(ac.mk a b)=G∧d=q0)):dQ (m+1) p1 a b d g G q0:=by
 intro K J;refine gR 9 rfl<|go_xloopE<|gR 8 rfl<|qBhZ 38 37 rfl rfl rfl rfl h bF bG ?_ ?_<;>intro h;refine gY (yIA (len:=2) (e:=58) (sz:=2) ai rfl rfl rfl rfl rfl rfl (by decide) rfl (Nat.le_of_ble_eq_true rfl)) rfl rfl<|gR 1 rfl<|gY (yIA (len:=2) (e:=58) (sz:=2) ai rfl rfl rfl rfl rfl rfl (by decide) rfl (Nat.le_of_ble_eq_true rfl)) rfl rfl<|gR 1 rfl ?_;obtain⟨f,i,h⟩:=h;refine qC0 i rfl<|gR 3 rfl<|qBi 44 rfl rfl rfl h ?_ ?_<;>intro h;refine gR 4 rfl<|gFR 7 rfl rfl rfl rfl ?_;obtain⟨c,j,h⟩:=h;refine qC j [0,1,2,5,6] ?_;refine qHX ⟨13,(CKr.z c [(4,vB a b),(3,vB 0 0)] 11)⟩<|gR 9 rfl ?_;obtain⟨rfl,rfl⟩:=h;exact gE J [(5,.var 58 (ac.c (ac.mk a b)))] [(4,.ptr 5 0)] [0,1,2,11,12,3] [.cell 4 58];refine gR 10 rfl ?_;obtain⟨rfl,rfl⟩:=h;exact gE J [(5,.var 58 (ac.c (ac.mk a b)))] [(4,.ptr 5 0)] [0,1,2,5,6,3] [.cell 4 58];refine gR 18 rfl ?_;obtain⟨rfl,rfl⟩:=h;exact gE J [(5,.var 58 (ac.c (ac.mk a b)))] [(4,.ptr 5 0)] [0,1,2,5,6,3] [.cell 4 58]
open Go.RowKit Go.Shelf Lx Sx
def zC:Go.Shelf.Ren:=⟨fun|4=>137|n=>n,fun|22=>23|25=>3|3=>3|4=>4|9=>9|0=>0|20=>20|n=>n,fun|n=>n⟩
theorem My:Go.Proofs.Lays8.n4 prog zC:={
 mixed:=by kernel_rfl
 f4:=⟨ "slices.Grow[[]int,int]",by decide,func137.trans (congrArg some (by kernel_rfl))⟩
 t0:=underlying0
 a0:=isAgg0
 z0:=sizeOf0
 v0:=zeroValue0
 t3:=underlying3
 a3:=isAgg3
 z3:=sizeOf3
 v3:=zeroValue3
 t4:=underlying4
 a4:=isAgg4
 z4:=sizeOf4
 v4:=zeroValue4
 t9:=underlying9
 a9:=isAgg9
 z9:=sizeOf9
 v9:=zeroValue9
 t20:=underlying20
 a20:=isAgg20
 z20:=sizeOf20
 v20:=zeroValue20
 t22:=underlying23
 a22:=isAgg23
 z22:=sizeOf23
 v22:=zeroValue23}
variable{n:Nat}
theorem NJ{w:World}{g c:Nat}{e:TypeId}{C xs:List Value}(h:Blk w g e C)(G:C.length=c)(J:n≤c)(O:c≤maxLen)(hx:C.take n=xs):w.ownsRow 0 e 1 (.slice (some ⟨g,0,none⟩) n c) n xs:=by
 refine⟨by rw[←hx,List.length_take];omega,.inr ⟨g,c,C.toArray,rfl,Nat.zero_le _,h,J,O,by simp[G],by simpa using hx⟩⟩
theorem MX(w:World)(n:Nat)(hn:n≤1000000000):Calls prog 137 #[.slice none 0 0,.int .i64 (n:Int)] w λe w'=>∃v,e=.returned v∧w'.ownsRow 0 3 1 v 0 []∧Chg [] w w'∧∀b,v.ownBlock=some b→w.heap.size≤b:=by
 have L:=My;by_cases h0:n=0
 ·subst h0;refine(Any8.slices_Grow_room L none 0 0 0 w (by omega) (by omega) (by omega) (by omega)).mono ?_;rintro e w' ⟨rfl,rfl⟩;exact⟨_,rfl,⟨rfl,.inl ⟨rfl,rfl⟩⟩,Chg.refl _ _,λb hb=>by cases hb⟩
 ·have hi:(prog.info? 3).map (λi=>(i.zero,i.size,i.bytes))=some (some (.int .i64 0),1,8):=by kernel_rfl
  obtain⟨i0,h1,U⟩:=Option.map_eq_some_iff.1 hi;simp only[Prod.mk.injEq]at U;obtain⟨h2,h3,h4⟩:=U;refine(Any8.slices_Grow_grow L i0 (.int .i64 0) h1 h2 (by omega) none 0 0 n [] w (by omega) (by omega) (by rw[h4];omega) (by omega) (by simp) (λ_=>rfl) (λa h=>by cases h)).mono ?_;rintro e w' ⟨rfl,rfl⟩;have J:=grownCap_ge w (0+n) 0 (zC.t 25);have O:=grownCap_le_maxLen w (0+n) 0 (zC.t 25) (by simp only[maxLen];omega);obtain⟨G,hG⟩:∃G,G=grownCap w (0+n) 0 (zC.t 25):=⟨_,rfl⟩;rw[←hG]at J O⊢;obtain⟨C,Z⟩:∃C:List Value,C=(Builtin.zeroCells (Value.int .i64 0).cells (0+n-0)).toList++(Builtin.zeroCells (Value.int .i64 0).cells (G-(0+n))).toList:=⟨_,rfl⟩;have e:(([]:List Value).toArray++Builtin.zeroCells (Value.int .i64 0).cells (0+n-0)++Builtin.zeroCells (Value.int .i64 0).cells (G-(0+n)))=C.toArray:=by
   rw[Z];apply Array.ext';simp
  rw[e];have hz:∀k,(Builtin.zeroCells (Value.int .i64 0).cells k).toList.length=k*1:=λk=>size_zeroCells _ _;have hl:C.length=G:=by rw[Z,List.length_append,hz,hz];omega
  refine⟨_,rfl,NJ (Blk.new w.drew _ C) hl (Nat.zero_le _) O (by simp),(Chg.drew w).trans (Chg.alloc _ _) (by simp),λb hb=>?_⟩;simp only[Value.ownBlock,Option.some.injEq]at hb;omega
theorem Pi(n:Nat)(Z:n≤1000000000):yA (n:Int) []:=λS w ρ xs hr hx=>by
 simp only[LRel,VRel]at hx;obtain⟨x,ys,rfl,rfl,y,zs,rfl,rfl,rfl⟩:=hx;refine(MX w n Z).mono λe w' hR=>?_;obtain⟨v,rfl,O,g3,g4⟩:=hR;have hf:(⟨0,[]⟩:Hp).get 0=.free:=rfl;have J:=eff_new (x:=v) (o:=.row 3 1 (([]:List Int).map (V.int .i64))) hr hf g3 ⟨v,[],bd _ _ _,O,by simp[CRel]⟩ (λb hb=>by
  obtain⟨q,U,e2⟩:=hb;rw[bd]at U;cases U;exact g4 b e2)
 have G:co (⟨0,[]⟩:Hp).get 0 (.row 3 1 (([]:List Int).map (V.int .i64)))=(⟨1,[(0,.row 3 1 (([]:List Int).map (V.int .i64)))]⟩:Hp).get:=by
  funext j
  match j with
  |0=>rfl
  |n+1=>rfl
 rw[G]at J;have hi:Inv ⟨w,S,λb=>∃id,own ρ id ((⟨0,[]⟩:Hp).get id) b,wi [] (⟨0,[]⟩:Hp).get ρ⟩ S w ρ (⟨0,[]⟩:Hp).get:=⟨ChgP.refl _ _,λ_ h=>h,λ_ h=>.inl h,λid b hb=>.inl ⟨id,hb⟩,λid x h=>by
  simp only[wi]at h;split at h
  ·exact h
  ·cases h⟩
 exact⟨v,S,eN ρ 0 v,_,_,rfl,⟨rfl,rfl⟩,J.hr,hi.eff J,by simp only[VRel];exact⟨bd _ _ _,CB O⟩⟩
open Go.RowKit Lx
theorem qmm{P:Program}{f:FuncId}{a:Array Value}{w:World}{v:Ending}{Q:Ending→World→Prop}(h:Calls P f a w λe w'=>e=v∧w=w')(k:Q v w):Calls P f a w Q:=h.mono λe w' z=>by obtain⟨rfl,rfl⟩:=z;exact k
variable{w':World}
theorem qEx{w:World}(h:Ext w w':=by repeat (first|exact Ext.refl _|apply Ext.alloc|(refine Ext.setCell ?_ (Nat.le_refl _) _))):Ext w w':=h
theorem ca{a b:Bool}(h:a=b):Ending.returned (.bool a)=.returned (.bool b):=by rw[h]
theorem bU{k:IntKind}{a b:Int}(h:a=b):Ending.returned (.int k a)=.returned (.int k b):=by rw[h]
theorem xz(n m:Nat):((n:Int)==(m:Int))=(n==m):=by rw[Bool.eq_iff_iff];simp;omega
theorem fC(c:UInt8)(w:World):Calls prog 155 #[.int .u8 (c.toNat:Int)] w λe w'=>e=.returned (.bool (dm c))∧w=w':=by
 go_enter func155,ntmps155
 go_wp2<;>(go_ret;go_light;refine⟨ca ?_,rfl⟩;(first|rw[Bool.eq_iff_iff]|skip);simp_all[dm]<;>omega)
theorem cX(c:UInt8)(w:World):Calls prog 188 #[.int .u8 (c.toNat:Int)] w λe w'=>e=.returned (.bool (dm c))∧w=w':=by
 go_enter func188,ntmps188
 go_wp2<;>(go_ret;go_light;refine⟨ca ?_,rfl⟩;(first|rw[Bool.eq_iff_iff]|skip);simp_all[dm]<;>omega)
theorem ft(c:UInt8)(w:World):Calls prog 156 #[.int .u8 (c.toNat:Int)] w λe w'=>e=.returned (.bool (upperB c))∧w=w':=by
 go_enter func156,ntmps156
 go_wp2<;>(go_ret;go_light;refine⟨ca ?_,rfl⟩;(first|rw[Bool.eq_iff_iff]|skip);simp_all[upperB]<;>omega)
theorem bw(c:UInt8)(w:World):Calls prog 189 #[.int .u8 (c.toNat:Int)] w λe w'=>e=.returned (.bool (upperB c))∧w=w':=by
 go_enter func189,ntmps189
 go_wp2<;>(go_ret;go_light;refine⟨ca ?_,rfl⟩;(first|rw[Bool.eq_iff_iff]|skip);simp_all[upperB]<;>omega)
theorem eZ(c:UInt8)(w:World):Calls prog 117 #[.int .u8 (c.toNat:Int)] w λe w'=>e=.returned (.bool (cf c))∧w=w':=by
 go_enter func117,ntmps117
 go_wp2<;>(go_ret;go_light;refine⟨ca ?_,rfl⟩;(first|rw[Bool.eq_iff_iff]|skip);simp_all[cf]<;>omega)
theorem dY(c:UInt8)(w:World):Calls prog 187 #[.int .u8 (c.toNat:Int)] w λe w'=>e=.returned (.bool (cf c))∧w=w':=by
 go_enter func187,ntmps187
 go_wp2<;>(go_ret;go_light;refine⟨ca ?_,rfl⟩;(first|rw[Bool.eq_iff_iff]|skip);simp_all[cf]<;>omega)
theorem Qo(c:UInt8)(w:World):Calls prog 77 #[.int .u8 (c.toNat:Int)] w λe w'=>e=.returned (.bool (cN c))∧w=w':=by
 go_enter func77,ntmps77
 go_wp2<;>(go_ret;go_light;refine⟨ca ?_,rfl⟩;(first|rw[Bool.eq_iff_iff]|skip);simp_all[cN]<;>omega)
theorem lM(c:UInt8)(w:World):Calls prog 170 #[.int .u8 (c.toNat:Int)] w λe w'=>e=.returned (.bool (cN c))∧w=w':=by
 go_enter func170,ntmps170
 go_wp2<;>(go_ret;go_light;refine⟨ca ?_,rfl⟩;(first|rw[Bool.eq_iff_iff]|skip);simp_all[cN]<;>omega)
theorem cC(c:UInt8)(w:World):Calls prog 186 #[.int .u8 (c.toNat:Int)] w λe w'=>e=.returned (.bool (fk c))∧w=w':=by
 go_enter func186,ntmps186
 go_wp2<;>(go_ret;go_light;refine⟨ca ?_,rfl⟩;(first|rw[Bool.eq_iff_iff]|skip);simp_all[fk]<;>omega)
theorem bS(c:UInt8)(w:World):Calls prog 115 #[.int .u8 (c.toNat:Int)] w λe w'=>e=.returned (.bool (bM c))∧w=w':=by
 cases G:dm c<;>cases h1:upperB c
 all_goals
  go_enter func115,ntmps115
  go_wp2_with (first|(go_at_call 155;refine qmm (fC _ _) ?_)|(go_at_call 156;refine qmm (ft _ _) ?_))
  all_goals (go_ret;go_light;refine⟨ca ?_,rfl⟩;(first|(simp[bM,G,h1];done)|with_reducible exact xz _ _|((first|rw[Bool.eq_iff_iff]|skip);simp_all[bM]<;>omega)))
theorem ec(c:UInt8)(w:World):Calls prog 78 #[.int .u8 (c.toNat:Int)] w λe w'=>e=.returned (.bool (bk c))∧w=w':=by
 cases G:cN c
 all_goals
  go_enter func78,ntmps78
  go_wp2_with (first|(go_at_call 77;refine qmm (Qo _ _) ?_))
  all_goals (go_ret;go_light;refine⟨ca ?_,rfl⟩;(first|(simp[bk,fk,cN,G];done)|with_reducible exact xz _ _|((first|rw[Bool.eq_iff_iff]|skip);simp_all[bk,fk,cN]<;>omega)))
theorem bE(c:UInt8)(w:World):Calls prog 185 #[.int .u8 (c.toNat:Int)] w λe w'=>e=.returned (.bool (bk c))∧w=w':=by
 cases G:cN c<;>cases h1:fk c
 all_goals
  go_enter func185,ntmps185
  go_wp2_with (first|(go_at_call 170;refine qmm (lM _ _) ?_)|(go_at_call 186;refine qmm (cC _ _) ?_))
  all_goals (go_ret;go_light;refine⟨ca ?_,rfl⟩;(first|(simp[bk,G,h1];done)|with_reducible exact xz _ _|((first|rw[Bool.eq_iff_iff]|skip);simp_all[bk]<;>omega)))
theorem uC(c:UInt8)(w:World):Calls prog 200 #[.int .u8 (c.toNat:Int)] w λe w'=>e=.returned (.bool (bg c))∧w=w':=by
 cases G:dm c<;>cases h1:upperB c<;>cases h2:cf c
 all_goals
  go_enter func200,ntmps200
  go_wp2_with (first|(go_at_call 188;refine qmm (cX _ _) ?_)|(go_at_call 189;refine qmm (bw _ _) ?_)|(go_at_call 187;refine qmm (dY _ _) ?_))
  all_goals (go_ret;go_light;refine⟨ca ?_,rfl⟩;(first|(simp[bg,bM,G,h1,h2];done)|with_reducible exact xz _ _|((first|rw[Bool.eq_iff_iff]|skip);simp_all[bg,bM]<;>omega)))
theorem Jk(w:World):Calls prog 158 #[.string ⟨([109,111,100,117,108,101]:List UInt8).toArray⟩] w λe w'=>e=.returned (.bool true)∧w=w':=by
 go_enter func158,ntmps158
 go_wp2
 go_ret
 exact⟨rfl,rfl⟩
theorem IU(w:World):Calls prog 158 #[.string ⟨([100,101,102]:List UInt8).toArray⟩] w λe w'=>e=.returned (.bool true)∧w=w':=by
 go_enter func158,ntmps158
 go_wp2
 go_ret
 exact⟨rfl,rfl⟩
theorem JI(w:World):Calls prog 158 #[.string ⟨([116,121,112,101]:List UInt8).toArray⟩] w λe w'=>e=.returned (.bool true)∧w=w':=by
 go_enter func158,ntmps158
 go_wp2
 go_ret
 exact⟨rfl,rfl⟩
theorem IP(w:World):Calls prog 158 #[.string ⟨([108,101,116]:List UInt8).toArray⟩] w λe w'=>e=.returned (.bool true)∧w=w':=by
 go_enter func158,ntmps158
 go_wp2
 go_ret
 exact⟨rfl,rfl⟩
theorem JH(w:World):Calls prog 158 #[.string ⟨([105,110]:List UInt8).toArray⟩] w λe w'=>e=.returned (.bool true)∧w=w':=by
 go_enter func158,ntmps158
 go_wp2
 go_ret
 exact⟨rfl,rfl⟩
theorem IR(w:World):Calls prog 158 #[.string ⟨([105,102]:List UInt8).toArray⟩] w λe w'=>e=.returned (.bool true)∧w=w':=by
 go_enter func158,ntmps158
 go_wp2
 go_ret
 exact⟨rfl,rfl⟩
theorem JE(w:World):Calls prog 158 #[.string ⟨([116,104,101,110]:List UInt8).toArray⟩] w λe w'=>e=.returned (.bool true)∧w=w':=by
 go_enter func158,ntmps158
 go_wp2
 go_ret
 exact⟨rfl,rfl⟩
theorem Ju(w:World):Calls prog 158 #[.string ⟨([101,108,115,101]:List UInt8).toArray⟩] w λe w'=>e=.returned (.bool true)∧w=w':=by
 go_enter func158,ntmps158
 go_wp2
 go_ret
 exact⟨rfl,rfl⟩
theorem Jh(w:World):Calls prog 158 #[.string ⟨([116,114,117,101]:List UInt8).toArray⟩] w λe w'=>e=.returned (.bool true)∧w=w':=by
 go_enter func158,ntmps158
 go_wp2
 go_ret
 exact⟨rfl,rfl⟩
theorem Iw(w:World):Calls prog 158 #[.string ⟨([102,97,108,115,101]:List UInt8).toArray⟩] w λe w'=>e=.returned (.bool true)∧w=w':=by
 go_enter func158,ntmps158
 go_wp2
 go_ret
 exact⟨rfl,rfl⟩
theorem GD(w:World):Calls prog 158 #[.string ⟨([73,110,116]:List UInt8).toArray⟩] w λe w'=>e=.returned (.bool true)∧w=w':=by
 go_enter func158,ntmps158
 go_wp2
 go_ret
 exact⟨rfl,rfl⟩
theorem GJ(w:World):Calls prog 158 #[.string ⟨([84,101,120,116]:List UInt8).toArray⟩] w λe w'=>e=.returned (.bool true)∧w=w':=by
 go_enter func158,ntmps158
 go_wp2
 go_ret
 exact⟨rfl,rfl⟩
theorem Gy(w:World):Calls prog 158 #[.string ⟨([66,111,111,108]:List UInt8).toArray⟩] w λe w'=>e=.returned (.bool true)∧w=w':=by
 go_enter func158,ntmps158
 go_wp2
 go_ret
 exact⟨rfl,rfl⟩
theorem GG(l:List UInt8)(w:World)(U:(l==[109,111,100,117,108,101])=false)(Z:(l==[100,101,102])=false)(b2:(l==[116,121,112,101])=false)(b3:(l==[108,101,116])=false)(b4:(l==[105,110])=false)(b5:(l==[105,102])=false)(b6:(l==[116,104,101,110])=false)(b7:(l==[101,108,115,101])=false)(b8:(l==[116,114,117,101])=false)(b9:(l==[102,97,108,115,101])=false)(G:(l==[73,110,116])=false)(J:(l==[84,101,120,116])=false)(O:(l==[66,111,111,108])=false):Calls prog 158 #[.string ⟨l.toArray⟩] w λe w'=>e=.returned (.bool false)∧w=w':=by
 go_enter func158,ntmps158
 go_wp2
 go_ret
 exact⟨rfl,rfl⟩
theorem da(l:List UInt8)(w:World):Calls prog 158 #[.string ⟨l.toArray⟩] w λe w'=>e=.returned (.bool (mE l))∧w=w':=by
 by_cases U:l=[109,111,100,117,108,101]
 ·subst U;exact Jk w
 by_cases h1:l=[100,101,102]
 ·subst h1;exact IU w
 by_cases h2:l=[116,121,112,101]
 ·subst h2;exact JI w
 by_cases Z:l=[108,101,116]
 ·subst Z;exact IP w
 by_cases h4:l=[105,110]
 ·subst h4;exact JH w
 by_cases h5:l=[105,102]
 ·subst h5;exact IR w
 by_cases h6:l=[116,104,101,110]
 ·subst h6;exact JE w
 by_cases h7:l=[101,108,115,101]
 ·subst h7;exact Ju w
 by_cases h8:l=[116,114,117,101]
 ·subst h8;exact Jh w
 by_cases h9:l=[102,97,108,115,101]
 ·subst h9;exact Iw w
 by_cases G:l=[73,110,116]
 ·subst G;exact GD w
 by_cases J:l=[84,101,120,116]
 ·subst J;exact GJ w
 by_cases O:l=[66,111,111,108]
 ·subst O;exact Gy w
 have hr:mE l=false:=by simp[mE,Jd,U,h1,h2,Z,h4,h5,h6,h7,h8,h9,G,J,O]
 rw[hr];exact GG l w (by simpa using U) (by simpa using h1) (by simpa using h2) (by simpa using Z) (by simpa using h4) (by simpa using h5) (by simpa using h6) (by simpa using h7) (by simpa using h8) (by simpa using h9) (by simpa using G) (by simpa using J) (by simpa using O)
theorem JK(w:World):Calls prog 196 #[.string ⟨([109,111,100,117,108,101]:List UInt8).toArray⟩] w λe w'=>e=.returned (.bool true)∧w=w':=by
 go_enter func196,ntmps196
 go_wp2
 go_ret
 exact⟨rfl,rfl⟩
theorem IJ(w:World):Calls prog 196 #[.string ⟨([100,101,102]:List UInt8).toArray⟩] w λe w'=>e=.returned (.bool true)∧w=w':=by
 go_enter func196,ntmps196
 go_wp2
 go_ret
 exact⟨rfl,rfl⟩
theorem JC(w:World):Calls prog 196 #[.string ⟨([116,121,112,101]:List UInt8).toArray⟩] w λe w'=>e=.returned (.bool true)∧w=w':=by
 go_enter func196,ntmps196
 go_wp2
 go_ret
 exact⟨rfl,rfl⟩
theorem Io(w:World):Calls prog 196 #[.string ⟨([108,101,116]:List UInt8).toArray⟩] w λe w'=>e=.returned (.bool true)∧w=w':=by
 go_enter func196,ntmps196
 go_wp2
 go_ret
 exact⟨rfl,rfl⟩
theorem Je(w:World):Calls prog 196 #[.string ⟨([105,110]:List UInt8).toArray⟩] w λe w'=>e=.returned (.bool true)∧w=w':=by
 go_enter func196,ntmps196
 go_wp2
 go_ret
 exact⟨rfl,rfl⟩
theorem JN(w:World):Calls prog 196 #[.string ⟨([105,102]:List UInt8).toArray⟩] w λe w'=>e=.returned (.bool true)∧w=w':=by
 go_enter func196,ntmps196
 go_wp2
 go_ret
 exact⟨rfl,rfl⟩
theorem Jq(w:World):Calls prog 196 #[.string ⟨([116,104,101,110]:List UInt8).toArray⟩] w λe w'=>e=.returned (.bool true)∧w=w':=by
 go_enter func196,ntmps196
 go_wp2
 go_ret
 exact⟨rfl,rfl⟩
theorem IW(w:World):Calls prog 196 #[.string ⟨([101,108,115,101]:List UInt8).toArray⟩] w λe w'=>e=.returned (.bool true)∧w=w':=by
 go_enter func196,ntmps196
 go_wp2
 go_ret
 exact⟨rfl,rfl⟩
theorem Jt(w:World):Calls prog 196 #[.string ⟨([116,114,117,101]:List UInt8).toArray⟩] w λe w'=>e=.returned (.bool true)∧w=w':=by
 go_enter func196,ntmps196
 go_wp2
 go_ret
 exact⟨rfl,rfl⟩
theorem Iv(w:World):Calls prog 196 #[.string ⟨([102,97,108,115,101]:List UInt8).toArray⟩] w λe w'=>e=.returned (.bool true)∧w=w':=by
 go_enter func196,ntmps196
 go_wp2
 go_ret
 exact⟨rfl,rfl⟩
theorem Gv(w:World):Calls prog 196 #[.string ⟨([73,110,116]:List UInt8).toArray⟩] w λe w'=>e=.returned (.bool true)∧w=w':=by
 go_enter func196,ntmps196
 go_wp2
 go_ret
 exact⟨rfl,rfl⟩
theorem GF(w:World):Calls prog 196 #[.string ⟨([84,101,120,116]:List UInt8).toArray⟩] w λe w'=>e=.returned (.bool true)∧w=w':=by
 go_enter func196,ntmps196
 go_wp2
 go_ret
 exact⟨rfl,rfl⟩
theorem Gq(w:World):Calls prog 196 #[.string ⟨([66,111,111,108]:List UInt8).toArray⟩] w λe w'=>e=.returned (.bool true)∧w=w':=by
 go_enter func196,ntmps196
 go_wp2
 go_ret
 exact⟨rfl,rfl⟩
theorem GK(l:List UInt8)(w:World)(U:(l==[109,111,100,117,108,101])=false)(Z:(l==[100,101,102])=false)(b2:(l==[116,121,112,101])=false)(b3:(l==[108,101,116])=false)(b4:(l==[105,110])=false)(b5:(l==[105,102])=false)(b6:(l==[116,104,101,110])=false)(b7:(l==[101,108,115,101])=false)(b8:(l==[116,114,117,101])=false)(b9:(l==[102,97,108,115,101])=false)(G:(l==[73,110,116])=false)(J:(l==[84,101,120,116])=false)(O:(l==[66,111,111,108])=false):Calls prog 196 #[.string ⟨l.toArray⟩] w λe w'=>e=.returned (.bool false)∧w=w':=by
 go_enter func196,ntmps196
 go_wp2
 go_ret
 exact⟨rfl,rfl⟩
theorem dU(l:List UInt8)(w:World):Calls prog 196 #[.string ⟨l.toArray⟩] w λe w'=>e=.returned (.bool (mE l))∧w=w':=by
 by_cases U:l=[109,111,100,117,108,101]
 ·subst U;exact JK w
 by_cases h1:l=[100,101,102]
 ·subst h1;exact IJ w
 by_cases h2:l=[116,121,112,101]
 ·subst h2;exact JC w
 by_cases Z:l=[108,101,116]
 ·subst Z;exact Io w
 by_cases h4:l=[105,110]
 ·subst h4;exact Je w
 by_cases h5:l=[105,102]
 ·subst h5;exact JN w
 by_cases h6:l=[116,104,101,110]
 ·subst h6;exact Jq w
 by_cases h7:l=[101,108,115,101]
 ·subst h7;exact IW w
 by_cases h8:l=[116,114,117,101]
 ·subst h8;exact Jt w
 by_cases h9:l=[102,97,108,115,101]
 ·subst h9;exact Iv w
 by_cases G:l=[73,110,116]
 ·subst G;exact Gv w
 by_cases J:l=[84,101,120,116]
 ·subst J;exact GF w
 by_cases O:l=[66,111,111,108]
 ·subst O;exact Gq w
 have hr:mE l=false:=by simp[mE,Jd,U,h1,h2,Z,h4,h5,h6,h7,h8,h9,G,J,O]
 rw[hr];exact GK l w (by simpa using U) (by simpa using h1) (by simpa using h2) (by simpa using Z) (by simpa using h4) (by simpa using h5) (by simpa using h6) (by simpa using h7) (by simpa using h8) (by simpa using h9) (by simpa using G) (by simpa using J) (by simpa using O)
set_option maxHeartbeats 1000000 in
theorem Qj(s:ByteArray)(c:Int)(w:World):Calls prog 159 #[.string s,.int .u8 c] w λe w'=>e=.returned (.int .i64 (Lib.indexByte s.data.toList c.toNat.toUInt8))∧w=w':=by
 go_enter func159,ntmps159
 go_wp2
 rw[run_callFunc_extern func178 (by kernel_rfl) (by kernel_rfl) (by kernel_rfl) (e:=Extern.BytealgIndexByte.indexByte) (by kernel_rfl),Lib.run_indexByteString];simp only[Result.andThen];rw[Oper.upon_value]
 go_wp2
 go_ret
 exact⟨rfl,rfl⟩
theorem IC(s:ByteArray)(c:Int)(w:World):Calls prog 120 #[.string s,.int .u8 c] w λe w'=>e=.returned (.int .i64 (Lib.indexByte s.data.toList c.toNat.toUInt8))∧w=w':=by
 go_enter func120,ntmps120
 go_wp2_with (go_at_call 159;refine qmm (Qj _ _ _) ?_)
 go_ret
 exact⟨rfl,rfl⟩
set_option maxHeartbeats 400000 in
theorem iB(l:List UInt8)(w:World)(hl:l.length≤281474976710656):Calls prog 157 #[.string ⟨l.toArray⟩] w λe w'=>e=.returned (.int .i64 (spanN bg l:Nat))∧w=w':=by
 go_enter func157,ntmps157
 go_wp2_with fail
 go_loop [3] (λn=>∃k:Nat,k≤l.length∧n=.int .i64 k∧Hid (spanN bg l=k+spanN bg (l.drop k))) (λn=>l.length-(intOf n).toNat)
 case atStart=>exact⟨0,by omega,rfl,Lib.hid (by simp)⟩
 case round=>
  obtain⟨k,hk,rfl,hrel⟩:=hrel;by_cases hlt:k<l.length
  ·obtain⟨c,hc⟩:∃c,({data:=l.toArray}:ByteArray)[k]'hlt=c:=⟨_,rfl⟩;have HC:=Lib.hid (show l[k]=c from hc)
   go_wp2_with (first|(go_at_call 115;refine qmm (bS _ _) ?_)|(go_at_call 117;refine qmm (eZ _ _) ?_))
   all_goals go_light
   ·go_round
    case rel=>exact⟨k+1,by omega,by go_num,Lib.hid (by rw[hrel.out,oS hlt HC.out (yj (.inl ‹_›))];omega)⟩
    case measure=>simp[intOf];omega
   ·go_round
    case rel=>exact⟨k+1,by omega,by go_num,Lib.hid (by rw[hrel.out,oS hlt HC.out (yj (.inr (.inl ‹_›)))];omega)⟩
    case measure=>simp[intOf];omega
   ·go_round
    case rel=>exact⟨k+1,by omega,by go_num,Lib.hid (by rw[hrel.out,oS hlt HC.out (yj (.inr (.inr ‹_›)))];omega)⟩
    case measure=>simp[intOf];omega
   ·go_ret
    exact⟨bU (by rw[hrel.out,ur hlt HC.out (GE ‹_› ‹_› ‹_›)];omega),rfl⟩
  ·go_wp2_with fail
   go_ret
   exact⟨bU (by rw[hrel.out,vT (by omega)];omega),rfl⟩
set_option maxHeartbeats 1000000 in
theorem ma(l:List UInt8)(w:World)(hl:l.length≤281474976710656):Calls prog 118 #[.string ⟨l.toArray⟩] w λe w'=>e=.returned (.tuple #[.int .i64 ((gs l).1:Nat),.int .i64 ((gs l).2:Nat)])∧w=w':=by
 go_enter func118,ntmps118
 go_wp2_with fail
 go_loop [4] (λn=>∃k:Nat,k≤l.length∧n=.int .i64 k∧Hid (spanN cf l=k+spanN cf (l.drop k))) (λn=>l.length-(intOf n).toNat)
 case atStart=>exact⟨0,by omega,rfl,Lib.hid (by simp)⟩
 case round=>
  obtain⟨k,hk,rfl,hrel⟩:=hrel;by_cases hlt:k<l.length
  ·obtain⟨c,hc⟩:∃c,({data:=l.toArray}:ByteArray)[k]'hlt=c:=⟨_,rfl⟩;have HC:=Lib.hid (show l[k]=c from hc);cases hd:cf c
   ·have HN:=Lib.hid (show spanN cf l=k from by rw[hrel.out,ur hlt HC.out hd];omega);have hk0:=hk;by_cases h1:1<k
    ·have h0:0<l.length:=by omega
     obtain⟨c0,hc0⟩:∃c,({data:=l.toArray}:ByteArray)[0]'h0=c:=⟨_,rfl⟩;have HC0:=Lib.hid (show l[0]=c0 from hc0);cases h48:((c0.toNat:Int)==48)
     ·have HG:=Lib.hid (show 1<k→¬(l.getD 0 0).toNat=48 from λ_=>by rw[aR h0 HC0.out];exact cR (m:=48) h48);by_cases h15:15<k
      ·go_wp2_with (go_at_call 117;refine qmm (eZ _ _) ?_)
       go_ret2
       exact⟨by rw[rN HN.out HG.out h15];rfl,rfl⟩
      ·go_wp2_with (go_at_call 117;refine qmm (eZ _ _) ?_)
       go_ret2
       exact⟨by rw[kE HN.out HG.out h15];rfl,rfl⟩
     ·go_wp2_with (go_at_call 117;refine qmm (eZ _ _) ?_)
      go_ret2
      exact⟨by rw[rB HN.out h1 h0 HC0.out h48];rfl,rfl⟩
    ·go_wp2_with (go_at_call 117;refine qmm (eZ _ _) ?_)
     go_ret2
     exact⟨by rw[kE HN.out (λh=>absurd h h1) (by omega)];rfl,rfl⟩
   ·go_wp2_with (go_at_call 117;refine qmm (eZ _ _) ?_)
    go_light
    go_round
    case rel=>exact⟨k+1,by omega,by go_num,Lib.hid (by rw[hrel.out,oS hlt HC.out hd];omega)⟩
    case measure=>simp[intOf];omega
  ·have HN:=Lib.hid (show spanN cf l=k from by rw[hrel.out,vT (by omega)];omega);have hk0:=hk;by_cases h1:1<k
   ·have h0:0<l.length:=by omega
    obtain⟨c0,hc0⟩:∃c,({data:=l.toArray}:ByteArray)[0]'h0=c:=⟨_,rfl⟩;have HC0:=Lib.hid (show l[0]=c0 from hc0);cases h48:((c0.toNat:Int)==48)
    ·have HG:=Lib.hid (show 1<k→¬(l.getD 0 0).toNat=48 from λ_=>by rw[aR h0 HC0.out];exact cR (m:=48) h48);by_cases h15:15<k
     ·go_wp2_with (go_at_call 117;refine qmm (eZ _ _) ?_)
      go_ret2
      exact⟨by rw[rN HN.out HG.out h15];rfl,rfl⟩
     ·go_wp2_with (go_at_call 117;refine qmm (eZ _ _) ?_)
      go_ret2
      exact⟨by rw[kE HN.out HG.out h15];rfl,rfl⟩
    ·go_wp2_with (go_at_call 117;refine qmm (eZ _ _) ?_)
     go_ret2
     exact⟨by rw[rB HN.out h1 h0 HC0.out h48];rfl,rfl⟩
   ·go_wp2_with (go_at_call 117;refine qmm (eZ _ _) ?_)
    go_ret2
    exact⟨by rw[kE HN.out (λh=>absurd h h1) (by omega)];rfl,rfl⟩
set_option maxHeartbeats 1000000 in
theorem mb(l:List UInt8)(w:World)(h0:0<l.length)(hl:l.length≤281474976710656):Calls prog 119 #[.string ⟨l.toArray⟩] w λe w'=>e=.returned (.tuple #[.int .i64 ((quotedT l.tail 1).1:Nat),.int .i64 ((quotedT l.tail 1).2:Nat)])∧w=w':=by
 obtain⟨r,hr⟩:∃r,quotedT l.tail 1=r:=⟨_,rfl⟩;rw[hr];have HR:=Lib.hid hr;clear hr
 go_enter func119,ntmps119
 go_wp2_with fail
 go_loop [4,5] (λn c=>∃k:Nat,k≤l.length∧n=.int .i64 k∧Hid (r=quotedT (l.drop k) k)) (λn _=>l.length-(intOf n).toNat)
 case atStart=>exact⟨1,by omega,rfl,Lib.hid (by rw[←HR.out,List.drop_one])⟩
 case round=>
  obtain⟨k,hk,rfl,hrel⟩:=hrel;by_cases hlt:k<l.length
  ·obtain⟨c,hc⟩:∃c,({data:=l.toArray}:ByteArray)[k]'hlt=c:=⟨_,rfl⟩;have HC:=Lib.hid (show l[k]=c from hc);have HS:=Lib.hid (Ez hlt HC.out);cases ha:bk c
   ·go_wp2_with (go_at_call 78;refine qmm (ec _ _) ?_)
    go_ret2
    exact⟨by rw[hrel.out,HS.out,if_pos ha];rfl,rfl⟩
   cases h34:((c.toNat:Int)==34)
   rotate_left
   ·go_wp2_with (go_at_call 78;refine qmm (ec _ _) ?_)
    go_ret2
    exact⟨by rw[hrel.out,HS.out,if_neg (by simp[ha]),if_pos (eL (m:=34) h34)];rfl,rfl⟩
   cases h92:((c.toNat:Int)==92)
   rotate_left
   ·go_wp2_with (go_at_call 78;refine qmm (ec _ _) ?_)
    go_ret2
    exact⟨by rw[hrel.out,HS.out,if_neg (by simp[ha]),if_neg (cR (m:=34) h34),if_pos (.inl (eL (m:=92) h92))];rfl,rfl⟩
   by_cases h32:(c.toNat:Int)<32
   ·go_wp2_with (go_at_call 78;refine qmm (ec _ _) ?_)
    go_ret2
    exact⟨by rw[hrel.out,HS.out,if_neg (by simp[ha]),if_neg (cR (m:=34) h34),if_pos (.inr (by omega))];rfl,rfl⟩
   ·go_wp2_with (go_at_call 78;refine qmm (ec _ _) ?_)
    go_light
    go_round
    case rel=>exact⟨k+1,by omega,by go_num,Lib.hid (by rw[hrel.out,HS.out,if_neg (by simp[ha]),if_neg (cR (m:=34) h34),if_neg (by have :=cR (m:=92) h92;omega)])⟩
    case measure=>simp[intOf];omega
  ·go_wp2_with (go_at_call 78;refine qmm (ec _ _) ?_)
   go_ret2
   exact⟨by rw[hrel.out,Gs (by omega)];rfl,rfl⟩
set_option maxHeartbeats 4000000 in
theorem rG(l:List UInt8)(w:World)(h0:0<l.length)(hl:l.length≤281474976710656):Calls prog 116 #[.string ⟨l.toArray⟩] w λe w'=>e=.returned (.tuple #[.int .i64 ((cd l).1:Nat),.int .i64 ((cd l).2.1:Nat),.int .i64 ((cd l).2.2:Nat)])∧w=w':=by
 obtain⟨n,hn⟩:∃n,spanN bg l=n:=⟨_,rfl⟩;have hnl:n≤l.length:=by have :=oB bg l;omega
 have HN:=Lib.hid hn;clear hn;obtain⟨O,hc0⟩:∃c,({data:=l.toArray}:ByteArray)[0]'h0=c:=⟨_,rfl⟩;have HC0:=Lib.hid (show l[0]=O from hc0);have hx:=AD;have hx2:=tF
 go_enter func116,ntmps116
 go_wp2_with fail
 refine(iB _ _ hl).mono ?_;rintro e w' ⟨rfl,rfl⟩;rw[HN.out];cases hr:mE (l.take n)
 rotate_left
 ·cases hu:upperB O
  all_goals
   have HQ:=Lib.hid (li HN.out (Kk HN.out hr));by_cases G:24<n
   ·skip
    have HW:=Lib.hid (show cd l=(0,0,3)from by rw[HQ.out,ce,if_pos G])
    go_wp2_with (first|(go_at_call 157;refine qmm (iB _ _ (by simp;omega)) ?_)|(go_at_call 158;refine qmm (da _ _) ?_)|(go_at_call 156;refine qmm (ft _ _) ?_)|(go_at_call 155;refine qmm (fC _ _) ?_)|(go_at_call 115;refine qmm (bS _ _) ?_))
    go_ret3
    exact⟨by rw[HW.out];rfl,rfl⟩
   ·skip
    have HW:=Lib.hid (show cd l=(7,n,0)from by rw[HQ.out,ce,if_neg G,if_pos hr])
    go_wp2_with (first|(go_at_call 157;refine qmm (iB _ _ (by simp;omega)) ?_)|(go_at_call 158;refine qmm (da _ _) ?_)|(go_at_call 156;refine qmm (ft _ _) ?_)|(go_at_call 155;refine qmm (fC _ _) ?_)|(go_at_call 115;refine qmm (bS _ _) ?_))
    go_ret3
    exact⟨by rw[HW.out];rfl,rfl⟩
 cases hu:upperB O
 ·skip
  have HQ:=Lib.hid (li HN.out (KK h0 HC0.out hu));by_cases G:24<n
  ·skip
   have HW:=Lib.hid (show cd l=(0,0,3)from by rw[HQ.out,ce,if_pos G])
   go_wp2_with (first|(go_at_call 157;refine qmm (iB _ _ (by simp;omega)) ?_)|(go_at_call 158;refine qmm (da _ _) ?_)|(go_at_call 156;refine qmm (ft _ _) ?_)|(go_at_call 155;refine qmm (fC _ _) ?_)|(go_at_call 115;refine qmm (bS _ _) ?_))
   go_ret3
   exact⟨by rw[HW.out];rfl,rfl⟩
  ·cases J:dm O
   ·skip
    have HW:=Lib.hid (show cd l=(2,n,0)from by rw[HQ.out,ce,if_neg G,if_neg (by simp[hr]),if_neg (by rw[aR h0 HC0.out];simp[J])])
    go_wp2_with (first|(go_at_call 157;refine qmm (iB _ _ (by simp;omega)) ?_)|(go_at_call 158;refine qmm (da _ _) ?_)|(go_at_call 156;refine qmm (ft _ _) ?_)|(go_at_call 155;refine qmm (fC _ _) ?_)|(go_at_call 115;refine qmm (bS _ _) ?_))
    go_ret3
    exact⟨by rw[HW.out];rfl,rfl⟩
   ·skip
    have HW:=Lib.hid (show cd l=(1,n,0)from by rw[HQ.out,ce,if_neg G,if_neg (by simp[hr]),if_pos (by rw[aR h0 HC0.out];exact J)])
    go_wp2_with (first|(go_at_call 157;refine qmm (iB _ _ (by simp;omega)) ?_)|(go_at_call 158;refine qmm (da _ _) ?_)|(go_at_call 156;refine qmm (ft _ _) ?_)|(go_at_call 155;refine qmm (fC _ _) ?_)|(go_at_call 115;refine qmm (bS _ _) ?_))
    go_ret3
    exact⟨by rw[HW.out];rfl,rfl⟩
 by_cases h2:n+1<l.length
 rotate_left
 ·have h2':¬((n:Int)+1<l.length):=by omega
  have HQ:=Lib.hid (li HN.out (KF HN.out h2));by_cases G:24<n
  ·skip
   have HW:=Lib.hid (show cd l=(0,0,3)from by rw[HQ.out,ce,if_pos G])
   go_wp2_with (first|(go_at_call 157;refine qmm (iB _ _ (by simp;omega)) ?_)|(go_at_call 158;refine qmm (da _ _) ?_)|(go_at_call 156;refine qmm (ft _ _) ?_)|(go_at_call 155;refine qmm (fC _ _) ?_)|(go_at_call 115;refine qmm (bS _ _) ?_))
   go_ret3
   exact⟨by rw[HW.out];rfl,rfl⟩
  ·cases J:dm O
   ·skip
    have HW:=Lib.hid (show cd l=(2,n,0)from by rw[HQ.out,ce,if_neg G,if_neg (by simp[hr]),if_neg (by rw[aR h0 HC0.out];simp[J])])
    go_wp2_with (first|(go_at_call 157;refine qmm (iB _ _ (by simp;omega)) ?_)|(go_at_call 158;refine qmm (da _ _) ?_)|(go_at_call 156;refine qmm (ft _ _) ?_)|(go_at_call 155;refine qmm (fC _ _) ?_)|(go_at_call 115;refine qmm (bS _ _) ?_))
    go_ret3
    exact⟨by rw[HW.out];rfl,rfl⟩
   ·skip
    have HW:=Lib.hid (show cd l=(1,n,0)from by rw[HQ.out,ce,if_neg G,if_neg (by simp[hr]),if_pos (by rw[aR h0 HC0.out];exact J)])
    go_wp2_with (first|(go_at_call 157;refine qmm (iB _ _ (by simp;omega)) ?_)|(go_at_call 158;refine qmm (da _ _) ?_)|(go_at_call 156;refine qmm (ft _ _) ?_)|(go_at_call 155;refine qmm (fC _ _) ?_)|(go_at_call 115;refine qmm (bS _ _) ?_))
    go_ret3
    exact⟨by rw[HW.out];rfl,rfl⟩
 have hn1:n<l.length:=by omega
 obtain⟨c1,hc1⟩:∃c,({data:=l.toArray}:ByteArray)[n]'hn1=c:=⟨_,rfl⟩;have HC1:=Lib.hid (show l[n]=c1 from hc1);obtain⟨c2,hc2⟩:∃c,({data:=l.toArray}:ByteArray)[n+1]'h2=c:=⟨_,rfl⟩;have HC2:=Lib.hid (show l[n+1]=c2 from hc2);cases Z:((c1.toNat:Int)==46)
 ·skip
  have HQ:=Lib.hid (li HN.out (LE HN.out hn1 HC1.out Z));by_cases G:24<n
  ·skip
   have HW:=Lib.hid (show cd l=(0,0,3)from by rw[HQ.out,ce,if_pos G])
   go_wp2_with (first|(go_at_call 157;refine qmm (iB _ _ (by simp;omega)) ?_)|(go_at_call 158;refine qmm (da _ _) ?_)|(go_at_call 156;refine qmm (ft _ _) ?_)|(go_at_call 155;refine qmm (fC _ _) ?_)|(go_at_call 115;refine qmm (bS _ _) ?_))
   go_ret3
   exact⟨by rw[HW.out];rfl,rfl⟩
  ·cases J:dm O
   ·skip
    have HW:=Lib.hid (show cd l=(2,n,0)from by rw[HQ.out,ce,if_neg G,if_neg (by simp[hr]),if_neg (by rw[aR h0 HC0.out];simp[J])])
    go_wp2_with (first|(go_at_call 157;refine qmm (iB _ _ (by simp;omega)) ?_)|(go_at_call 158;refine qmm (da _ _) ?_)|(go_at_call 156;refine qmm (ft _ _) ?_)|(go_at_call 155;refine qmm (fC _ _) ?_)|(go_at_call 115;refine qmm (bS _ _) ?_))
    go_ret3
    exact⟨by rw[HW.out];rfl,rfl⟩
   ·skip
    have HW:=Lib.hid (show cd l=(1,n,0)from by rw[HQ.out,ce,if_neg G,if_neg (by simp[hr]),if_pos (by rw[aR h0 HC0.out];exact J)])
    go_wp2_with (first|(go_at_call 157;refine qmm (iB _ _ (by simp;omega)) ?_)|(go_at_call 158;refine qmm (da _ _) ?_)|(go_at_call 156;refine qmm (ft _ _) ?_)|(go_at_call 155;refine qmm (fC _ _) ?_)|(go_at_call 115;refine qmm (bS _ _) ?_))
    go_ret3
    exact⟨by rw[HW.out];rfl,rfl⟩
 cases h3:bM c2
 ·skip
  have HQ:=Lib.hid (li HN.out (Lo HN.out h2 HC2.out h3));by_cases G:24<n
  ·skip
   have HW:=Lib.hid (show cd l=(0,0,3)from by rw[HQ.out,ce,if_pos G])
   go_wp2_with (first|(go_at_call 157;refine qmm (iB _ _ (by simp;omega)) ?_)|(go_at_call 158;refine qmm (da _ _) ?_)|(go_at_call 156;refine qmm (ft _ _) ?_)|(go_at_call 155;refine qmm (fC _ _) ?_)|(go_at_call 115;refine qmm (bS _ _) ?_))
   go_ret3
   exact⟨by rw[HW.out];rfl,rfl⟩
  ·cases J:dm O
   ·skip
    have HW:=Lib.hid (show cd l=(2,n,0)from by rw[HQ.out,ce,if_neg G,if_neg (by simp[hr]),if_neg (by rw[aR h0 HC0.out];simp[J])])
    go_wp2_with (first|(go_at_call 157;refine qmm (iB _ _ (by simp;omega)) ?_)|(go_at_call 158;refine qmm (da _ _) ?_)|(go_at_call 156;refine qmm (ft _ _) ?_)|(go_at_call 155;refine qmm (fC _ _) ?_)|(go_at_call 115;refine qmm (bS _ _) ?_))
    go_ret3
    exact⟨by rw[HW.out];rfl,rfl⟩
   ·skip
    have HW:=Lib.hid (show cd l=(1,n,0)from by rw[HQ.out,ce,if_neg G,if_neg (by simp[hr]),if_pos (by rw[aR h0 HC0.out];exact J)])
    go_wp2_with (first|(go_at_call 157;refine qmm (iB _ _ (by simp;omega)) ?_)|(go_at_call 158;refine qmm (da _ _) ?_)|(go_at_call 156;refine qmm (ft _ _) ?_)|(go_at_call 155;refine qmm (fC _ _) ?_)|(go_at_call 115;refine qmm (bS _ _) ?_))
    go_ret3
    exact⟨by rw[HW.out];rfl,rfl⟩
 obtain⟨m,hm⟩:∃m,spanN bg (l.drop (n+1))=m:=⟨_,rfl⟩;have hml:n+1+m≤l.length:=by have :=oB bg (l.drop (n+1));simp at this;omega
 have HM:=Lib.hid hm;have HQ:=Lib.hid (Dg HN.out hm (EE HN.out h0 HC0.out hu hr h2 hn1 HC1.out Z HC2.out h3));by_cases G:24<n
 ·skip
  have HW:=Lib.hid (show cd l=(0,0,3)from by rw[HQ.out,fo,if_pos (.inl G)])
  go_wp2_with (first|(go_at_call 157;refine qmm (iB _ _ (by simp;omega)) ?_)|(go_at_call 158;refine qmm (da _ _) ?_)|(go_at_call 156;refine qmm (ft _ _) ?_)|(go_at_call 155;refine qmm (fC _ _) ?_)|(go_at_call 115;refine qmm (bS _ _) ?_))
  go_ret3
  exact⟨by rw[HW.out];rfl,rfl⟩
 by_cases h24m:24<m
 ·skip
  have HW:=Lib.hid (show cd l=(0,0,3)from by rw[HQ.out,fo,if_pos (.inr h24m)])
  go_wp2_with (first|(go_at_call 157;refine qmm (iB _ _ (by simp;omega)) ?_)|(go_at_call 158;refine qmm (da _ _) ?_)|(go_at_call 156;refine qmm (ft _ _) ?_)|(go_at_call 155;refine qmm (fC _ _) ?_)|(go_at_call 115;refine qmm (bS _ _) ?_))
  go_ret3
  exact⟨by rw[HW.out];rfl,rfl⟩
 have he:n+1+m-(n+1)=m:=by omega
 cases U:mE ((l.drop (n+1)).take m)
 rotate_left
 ·skip
  have HW:=Lib.hid (show cd l=(0,0,2)from by rw[HQ.out,fo,if_neg (by omega),if_pos U])
  go_wp2_with (first|(go_at_call 157;refine qmm (iB _ _ (by simp;omega)) ?_)|(go_at_call 158;refine qmm (da _ _) ?_)|(go_at_call 156;refine qmm (ft _ _) ?_)|(go_at_call 155;refine qmm (fC _ _) ?_)|(go_at_call 115;refine qmm (bS _ _) ?_))
  go_ret3
  exact⟨by rw[HW.out];rfl,rfl⟩
 cases J:dm c2
 ·skip
  have HW:=Lib.hid (show cd l=(4,n+1+m,0)from by rw[HQ.out,fo,if_neg (by omega),if_neg (by simp[U]),if_neg (by rw[aR h2 HC2.out];simp[J])])
  go_wp2_with (first|(go_at_call 157;refine qmm (iB _ _ (by simp;omega)) ?_)|(go_at_call 158;refine qmm (da _ _) ?_)|(go_at_call 156;refine qmm (ft _ _) ?_)|(go_at_call 155;refine qmm (fC _ _) ?_)|(go_at_call 115;refine qmm (bS _ _) ?_))
  go_ret3
  exact⟨by rw[HW.out];rfl,rfl⟩
 ·skip
  have HW:=Lib.hid (show cd l=(3,n+1+m,0)from by rw[HQ.out,fo,if_neg (by omega),if_neg (by simp[U]),if_pos (by rw[aR h2 HC2.out];exact J)])
  go_wp2_with (first|(go_at_call 157;refine qmm (iB _ _ (by simp;omega)) ?_)|(go_at_call 158;refine qmm (da _ _) ?_)|(go_at_call 156;refine qmm (ft _ _) ?_)|(go_at_call 155;refine qmm (fC _ _) ?_)|(go_at_call 115;refine qmm (bS _ _) ?_))
  go_ret3
  exact⟨by rw[HW.out];rfl,rfl⟩
end Go.Proofs.YtomplbgchbfjpaaGreatDoor
namespace Go.Proofs.YtomplbgchbfjpaaGreatDoor.Lx
def kq(l:List UInt8):Nat:=if bM (l.getD 0 0)=true then spanN bg l else 0
def signLen(l:List UInt8):Nat:=
 if(l.getD 0 0).toNat=61 then(if 1<l.length∧(l.getD 1 0).toNat=61 then 2 else 1)
 else if([40,41,91,93,58,44,43,45,42,60,63]:List Nat).contains (l.getD 0 0).toNat=true then 1 else 0
theorem zy(l:List UInt8)(k:Nat):(l.drop k).getD 0 0=l.getD k 0:=by simp[List.getD]
theorem ID(l:List UInt8)(k:Nat):(l.drop k).getD 1 0=l.getD (k+1) 0:=by simp[List.getD]
variable{l:List UInt8}{k:Nat}
theorem Jc{c:UInt8}(h:k<l.length)(G:l[k]=c):
  signLen (l.drop k)=if c.toNat=61 then(if k+1<l.length∧(l.getD (k+1) 0).toNat=61 then 2 else 1)
   else if([40,41,91,93,58,44,43,45,42,60,63]:List Nat).contains c.toNat=true then 1 else 0:=by
 unfold signLen;rw[zy,ID,aR h G,List.length_drop];by_cases h2:k+1<l.length
 ·have h1:1<l.length-k:=by omega
  simp only[h1,h2]
 ·have h1:¬1<l.length-k:=by omega
  simp only[h1,h2]
theorem Eh{c:UInt8}(h:bM c=true)(G:upperB c=false):dm c=true:=by simpa[bM,G]using h
theorem vS{c:UInt8}(G:upperB c=true):dm c=false:=by simp[upperB,dm]at *;omega
theorem Jg{j:Nat}{c:UInt8}(h:k<l.length)(G:l[k]=c):
  quotedT (l.drop k) j=if bk c=false then(j,1)else if c.toNat=34 then(j+1,0)else if c.toNat=92∨c.toNat<32 then(0,2)else quotedT (l.drop (k+1)) (j+1):=by
 rw[List.drop_eq_getElem_cons h,G];rfl
theorem CC{j:Nat}(h:l.length≤k):quotedT (l.drop k) j=(0,2):=by
 rw[List.drop_of_length_le h];rfl
theorem JA{c:UInt8}(J:bk c=true)(G:fk c=false):c.toNat<32:=by
 simp[bk,G,cN]at J;simp[fk]at G;omega
theorem Iy{c:UInt8}(G:fk c=true):¬c.toNat<32:=by
 simp[fk]at G;omega
theorem DB{c:UInt8}(h:c.toNat=34):bk c=true:=by simp[bk,fk,h]
theorem KG(l:List UInt8):(if(l.getD 0 0).toNat=61∧1<l.length∧(l.getD 1 0).toNat=61 then((8,2,0):Nat×Nat×Nat)else if sY.contains (l.getD 0 0)=true then(8,1,0)else(0,0,2))=
  if signLen l=0 then(0,0,2)else(8,signLen l,0):=by
 unfold signLen;generalize l.getD 0 0=c;generalize l.getD 1 0=d;by_cases G:c.toNat=61
 ·have J:c=61:=by apply UInt8.toNat_inj.1;simpa using G
  subst J;by_cases h2:1<l.length∧d.toNat=61
  ·simp[h2]
  ·simp[h2,sY]
 ·have :sY.contains c=([40,41,91,93,58,44,43,45,42,60,63]:List Nat).contains c.toNat:=by
   simp only[sY,List.contains_cons,List.contains_nil,Bool.or_false];have h:∀n:UInt8,(c==n)=(c.toNat==n.toNat):=λn=>by rw[Bool.eq_iff_iff];simp[UInt8.toNat_inj]
   simp only[h];have :(c.toNat==(61:UInt8).toNat)=false:=by simpa using G
   rw[this];rfl
  rw[this];simp only[G,false_and,if_false];split<;>simp_all
end Go.Proofs.YtomplbgchbfjpaaGreatDoor.Lx
namespace Go.Proofs.YtomplbgchbfjpaaGreatDoor
open _root_.Go.Proofs.Tryz
open Go.RowKit Lx
set_option maxRecDepth 100000
set_option maxHeartbeats 1000000 in
theorem lG(l:List UInt8)(x:Int)(k:Nat)(hx:x=k)(w:World)(hk:k≤l.length)(hl:l.length≤281474976710656):Calls prog 195 #[.string ⟨l.toArray⟩,.int .i64 x] w λe w'=>e=.returned (.int .i64 (kq (l.drop k):Nat))∧w=w':=by
 subst hx;by_cases hlt:k<l.length
 rotate_left
 ·have HR:=Lib.hid (show kq (l.drop k)=0 from by rw[List.drop_of_length_le (by omega)];rfl);have hge:(l.length:Int)≤k:=by omega
  go_enter func195,ntmps195
  go_wp2_with (first|(go_at_call 188;refine qmm (cX _ _) ?_)|(go_at_call 189;refine qmm (bw _ _) ?_)|(go_at_call 200;refine qmm (uC _ _) ?_))
  go_ret
  exact⟨bU (by rw[HR.out];rfl),rfl⟩
 obtain⟨c,hc⟩:∃c,({data:=l.toArray}:ByteArray)[k]'hlt=c:=⟨_,rfl⟩;have HC:=Lib.hid (show l[k]=c from hc);have hge:decide (l.length≤k)=false:=by simp;omega
 have HG:=Lib.hid (show(l.drop k).getD 0 0=c from by rw[zy];exact aR hlt HC.out);cases hlo:dm c<;>cases hup:upperB c
 ·have HR:=Lib.hid (show kq (l.drop k)=0 from by rw[kq,HG.out];simp[bM,hlo,hup])
  go_enter func195,ntmps195
  go_wp2_with (first|(go_at_call 188;refine qmm (cX _ _) ?_)|(go_at_call 189;refine qmm (bw _ _) ?_)|(go_at_call 200;refine qmm (uC _ _) ?_))
  go_ret
  exact⟨bU (by rw[HR.out];rfl),rfl⟩
 all_goals
  have HR:=Lib.hid (show kq (l.drop k)=spanN bg (l.drop k)from by rw[kq,HG.out];simp[bM,hlo,hup]);rw[HR.out];clear HR
  go_enter func195,ntmps195
  go_wp2_with (first|(go_at_call 188;refine qmm (cX _ _) ?_)|(go_at_call 189;refine qmm (bw _ _) ?_)|(go_at_call 200;refine qmm (uC _ _) ?_))
  go_loopg [5] (l.length-k) (λg n wx=>∃i:Nat,g=l.length-i∧wx=w∧k≤i∧i≤l.length∧n=.int .i64 i∧Hid (spanN bg (l.drop k)=i-k+spanN bg (l.drop i)))
  case atStart=>exact⟨k,rfl,rfl,Nat.le_refl _,hk,rfl,Lib.hid (by omega)⟩
  case round=>
   obtain⟨i,rfl,rfl,hki,hil,rfl,hrel⟩:=hrel;by_cases hit:i<l.length
   ·skip
    obtain⟨d,hd⟩:∃c,({data:=l.toArray}:ByteArray)[i]'hit=c:=⟨_,rfl⟩;have HD:=Lib.hid (show l[i]=d from hd);cases hwd:bg d
    ·go_wp2_with (first|(go_at_call 188;refine qmm (cX _ _) ?_)|(go_at_call 189;refine qmm (bw _ _) ?_)|(go_at_call 200;refine qmm (uC _ _) ?_))
     go_ret
     exact⟨bU (by rw[hrel.out,ur hit HD.out hwd];omega),rfl⟩
    ·go_wp2_with (first|(go_at_call 188;refine qmm (cX _ _) ?_)|(go_at_call 189;refine qmm (bw _ _) ?_)|(go_at_call 200;refine qmm (uC _ _) ?_))
     go_roundg (l.length-(i+1))
     case measure=>omega
     case rel=>exact⟨i+1,rfl,rfl,by omega,by omega,by go_num,Lib.hid (by rw[hrel.out,oS hit HD.out hwd];omega)⟩
   ·go_wp2_with (first|(go_at_call 188;refine qmm (cX _ _) ?_)|(go_at_call 189;refine qmm (bw _ _) ?_)|(go_at_call 200;refine qmm (uC _ _) ?_))
    go_ret
    exact⟨bU (by rw[hrel.out,vT (by omega)];omega),rfl⟩
set_option maxHeartbeats 2000000 in
theorem gM(l:List UInt8)(x:Int)(k:Nat)(hx:x=k)(w:World)(hlt:k<l.length)(hl:l.length≤281474976710656):Calls prog 191 #[.string ⟨l.toArray⟩,.int .i64 x] w λe w'=>e=.returned (.int .i64 (signLen (l.drop k):Nat))∧w=w':=by
 subst hx;obtain⟨c,hc⟩:∃c,({data:=l.toArray}:ByteArray)[k]'hlt=c:=⟨_,rfl⟩;have HC:=Lib.hid (show l[k]=c from hc);have HS:=Lib.hid (Jc hlt HC.out);cases G:((c.toNat:Int)==61)
 rotate_left
 ·by_cases h1:k+1<l.length
  ·have h1':(k:Int)+1<l.length:=by omega
   obtain⟨d,hd⟩:∃c,({data:=l.toArray}:ByteArray)[k+1]'h1=c:=⟨_,rfl⟩;have HD:=Lib.hid (show l[k+1]=d from hd);cases J:((d.toNat:Int)==61)
   ·go_enter func191,ntmps191
    go_wp2
    go_ret
    exact⟨bU (by rw[HS.out,if_pos (eL (m:=61) G),if_neg (λh=>cR (m:=61) J (by rw[←aR h1 HD.out];exact h.2))];rfl),rfl⟩
   ·go_enter func191,ntmps191
    go_wp2
    go_ret
    exact⟨bU (by rw[HS.out,if_pos (eL (m:=61) G),if_pos ⟨h1,by rw[aR h1 HD.out];exact eL (m:=61) J⟩];rfl),rfl⟩
  ·have h1':¬((k:Int)+1<l.length):=by omega
   go_enter func191,ntmps191
   go_wp2
   go_ret
   exact⟨bU (by rw[HS.out,if_pos (eL (m:=61) G),if_neg (λh=>h1 h.1)];rfl),rfl⟩
 cases O:((c.toNat:Int)==40)
 rotate_left
 ·go_enter func191,ntmps191
  go_wp2
  go_ret
  exact⟨bU (by rw[HS.out,if_neg (cR (m:=61) G),if_pos (by simp[eL (m:=40) O])];rfl),rfl⟩
 cases U:((c.toNat:Int)==41)
 rotate_left
 ·go_enter func191,ntmps191
  go_wp2
  go_ret
  exact⟨bU (by rw[HS.out,if_neg (cR (m:=61) G),if_pos (by simp[eL (m:=41) U])];rfl),rfl⟩
 cases Z:((c.toNat:Int)==91)
 rotate_left
 ·go_enter func191,ntmps191
  go_wp2
  go_ret
  exact⟨bU (by rw[HS.out,if_neg (cR (m:=61) G),if_pos (by simp[eL (m:=91) Z])];rfl),rfl⟩
 cases h93:((c.toNat:Int)==93)
 rotate_left
 ·go_enter func191,ntmps191
  go_wp2
  go_ret
  exact⟨bU (by rw[HS.out,if_neg (cR (m:=61) G),if_pos (by simp[eL (m:=93) h93])];rfl),rfl⟩
 cases h58:((c.toNat:Int)==58)
 rotate_left
 ·go_enter func191,ntmps191
  go_wp2
  go_ret
  exact⟨bU (by rw[HS.out,if_neg (cR (m:=61) G),if_pos (by simp[eL (m:=58) h58])];rfl),rfl⟩
 cases h44:((c.toNat:Int)==44)
 rotate_left
 ·go_enter func191,ntmps191
  go_wp2
  go_ret
  exact⟨bU (by rw[HS.out,if_neg (cR (m:=61) G),if_pos (by simp[eL (m:=44) h44])];rfl),rfl⟩
 cases h43:((c.toNat:Int)==43)
 rotate_left
 ·go_enter func191,ntmps191
  go_wp2
  go_ret
  exact⟨bU (by rw[HS.out,if_neg (cR (m:=61) G),if_pos (by simp[eL (m:=43) h43])];rfl),rfl⟩
 cases h45:((c.toNat:Int)==45)
 rotate_left
 ·go_enter func191,ntmps191
  go_wp2
  go_ret
  exact⟨bU (by rw[HS.out,if_neg (cR (m:=61) G),if_pos (by simp[eL (m:=45) h45])];rfl),rfl⟩
 cases h42:((c.toNat:Int)==42)
 rotate_left
 ·go_enter func191,ntmps191
  go_wp2
  go_ret
  exact⟨bU (by rw[HS.out,if_neg (cR (m:=61) G),if_pos (by simp[eL (m:=42) h42])];rfl),rfl⟩
 cases h60:((c.toNat:Int)==60)
 rotate_left
 ·go_enter func191,ntmps191
  go_wp2
  go_ret
  exact⟨bU (by rw[HS.out,if_neg (cR (m:=61) G),if_pos (by simp[eL (m:=60) h60])];rfl),rfl⟩
 cases h63:((c.toNat:Int)==63)
 rotate_left
 ·go_enter func191,ntmps191
  go_wp2
  go_ret
  exact⟨bU (by rw[HS.out,if_neg (cR (m:=61) G),if_pos (by simp[eL (m:=63) h63])];rfl),rfl⟩
 go_enter func191,ntmps191
 go_wp2
 go_ret
 exact⟨bU (by rw[HS.out,if_neg (cR (m:=61) G),if_neg (by simp[cR (m:=40) O,cR (m:=41) U,cR (m:=91) Z,cR (m:=93) h93,cR (m:=58) h58,cR (m:=44) h44,cR (m:=43) h43,cR (m:=45) h45,cR (m:=42) h42,cR (m:=60) h60,cR (m:=63) h63])];rfl),rfl⟩
def qm(G:Nat)(t:Nat×Nat×Nat):Value:=
 if t.2.2=0 then .agg #[.int .i64 (t.2.1:Nat),.int .i64 (t.1:Nat),.int .i64 0,.int .i64 0]else .agg #[.int .i64 0,.int .i64 0,.int .i64 (t.2.2:Nat),.int .i64 ((G+t.2.1:Nat):Int)]
def xZ(G:Nat)(t:Nat×Nat×Nat)(w:World)(e:Ending)(w':World):Prop:=e=.returned (qm G t)∧Ext w w'
variable{n k:Nat}{w':World}
theorem jA{G:Nat}{t:Nat×Nat×Nat}{w:World}{x y:Int}(h:t=(k,n,0))(hx:x=n)(hy:y=k)(J:Ext w w'):xZ G t w (.returned (.agg #[.int .i64 x,.int .i64 y,.int .i64 0,.int .i64 0])) w':=by
 subst h;subst hx;subst hy;exact⟨rfl,J⟩
theorem dF{G e:Nat}{t:Nat×Nat×Nat}{w:World}{x y:Int}(h:t=(k,n,e))(J:¬e=0)(hx:x=e)(hy:y=((G+n:Nat):Int))(O:Ext w w'):xZ G t w (.returned (.agg #[.int .i64 0,.int .i64 0,.int .i64 x,.int .i64 y])) w':=by
 subst h;subst hx;subst hy;exact⟨by simp only[qm,if_neg J],O⟩
set_option maxHeartbeats 4000000 in
theorem QE(l:List UInt8)(x:Int)(k:Nat)(hxk:x=k)(w:World)(hlt:k<l.length)(hle:bM (l[k]'hlt)=true)(J:l.length≤281474976710656):Calls prog 190 #[.string ⟨l.toArray⟩,.int .i64 x] w (xZ k (cd (l.drop k)) w):=by
 subst hxk;obtain⟨T,O⟩:∃T,cd (l.drop k)=T:=⟨_,rfl⟩;rw[O];have h0:0<(l.drop k).length:=by simp;omega
 obtain⟨c0,hc0⟩:∃c,({data:=l.toArray}:ByteArray)[k]'hlt=c:=⟨_,rfl⟩;have HCk:=Lib.hid (show l[k]=c0 from hc0);have HC0:=Lib.hid (show(l.drop k)[0]=c0 from by rw[List.getElem_drop];exact hc0);have HL0:=Lib.hid (show bM c0=true from hc0▸hle);obtain⟨n,hn⟩:∃n,spanN bg (l.drop k)=n:=⟨_,rfl⟩;have hnl:k+n≤l.length:=by have :=oB bg (l.drop k);simp at this;omega
 have HN:=Lib.hid hn;have HW0:=Lib.hid (show kq (l.drop k)=n from by rw[kq,aR h0 HC0.out,if_pos HL0.out];exact hn);clear hn hle;obtain⟨E,hE⟩:∃E,k+n=E:=⟨_,rfl⟩;have hE1:(k:Int)+n=(E:Nat):=by omega
 have hE2:E-k=n:=by omega
 have hE3:E≤l.length:=by omega
 have hkE:k≤E:=by omega
 have HE:=Lib.hid hE;clear hE;have hx:=AD;have hx2:=tF
 go_enter func190,ntmps190
 go_wp2_with fail
 refine(lG _ _ k rfl _ (by omega) J).mono ?_;rintro e w' ⟨rfl,rfl⟩;rw[HW0.out];cases hr:mE ((l.drop k).take n)
 rotate_left
 ·cases hu:upperB c0
  all_goals
   have HQ:=Lib.hid (li HN.out (Kk HN.out hr));by_cases G:24<n
   ·skip
    have HW:=Lib.hid (show T=(0,0,3)from by rw[←O,HQ.out,ce,if_pos G])
    go_wp2_with (first|(go_at_call 189;refine qmm (bw _ _) ?_)|(go_at_call 196;refine qmm (dU _ _) ?_)|(go_at_call 195;refine qmm (lG _ _ (E+1) (by omega) _ (by omega) J) ?_))
    exact bodyPost_ret (v:=.agg #[.int .i64 0,.int .i64 0,.int .i64 3,.int .i64 k]) (by simp[results,results190,go_sem]) rfl (dF HW.out (by omega) (by omega) (by omega) qEx)
   ·skip
    have HW:=Lib.hid (show T=(7,n,0)from by rw[←O,HQ.out,ce,if_neg G,if_pos hr])
    go_wp2_with (first|(go_at_call 189;refine qmm (bw _ _) ?_)|(go_at_call 196;refine qmm (dU _ _) ?_)|(go_at_call 195;refine qmm (lG _ _ (E+1) (by omega) _ (by omega) J) ?_))
    exact bodyPost_ret (v:=.agg #[.int .i64 n,.int .i64 7,.int .i64 0,.int .i64 0]) (by simp[results,results190,go_sem]) rfl (jA HW.out (by omega) (by omega) qEx)
 cases hu:upperB c0
 ·skip
  have HQ:=Lib.hid (li HN.out (KK h0 HC0.out hu));by_cases G:24<n
  ·skip
   have HW:=Lib.hid (show T=(0,0,3)from by rw[←O,HQ.out,ce,if_pos G])
   go_wp2_with (first|(go_at_call 189;refine qmm (bw _ _) ?_)|(go_at_call 196;refine qmm (dU _ _) ?_)|(go_at_call 195;refine qmm (lG _ _ (E+1) (by omega) _ (by omega) J) ?_))
   exact bodyPost_ret (v:=.agg #[.int .i64 0,.int .i64 0,.int .i64 3,.int .i64 k]) (by simp[results,results190,go_sem]) rfl (dF HW.out (by omega) (by omega) (by omega) qEx)
  ·skip
   have HW:=Lib.hid (show T=(1,n,0)from by rw[←O,HQ.out,ce,if_neg G,if_neg (by simp[hr]),if_pos (by rw[aR h0 HC0.out];exact Eh HL0.out hu)])
   go_wp2_with (first|(go_at_call 189;refine qmm (bw _ _) ?_)|(go_at_call 196;refine qmm (dU _ _) ?_)|(go_at_call 195;refine qmm (lG _ _ (E+1) (by omega) _ (by omega) J) ?_))
   exact bodyPost_ret (v:=.agg #[.int .i64 n,.int .i64 1,.int .i64 0,.int .i64 0]) (by simp[results,results190,go_sem]) rfl (jA HW.out (by omega) (by omega) qEx)
 by_cases h2:E+1<l.length
 rotate_left
 ·have h2':¬((E:Int)+1<l.length):=by omega
  have HQ:=Lib.hid (li HN.out (KF HN.out (by have :=HE.out;simp;omega)));by_cases G:24<n
  ·skip
   have HW:=Lib.hid (show T=(0,0,3)from by rw[←O,HQ.out,ce,if_pos G])
   go_wp2_with (first|(go_at_call 189;refine qmm (bw _ _) ?_)|(go_at_call 196;refine qmm (dU _ _) ?_)|(go_at_call 195;refine qmm (lG _ _ (E+1) (by omega) _ (by omega) J) ?_))
   exact bodyPost_ret (v:=.agg #[.int .i64 0,.int .i64 0,.int .i64 3,.int .i64 k]) (by simp[results,results190,go_sem]) rfl (dF HW.out (by omega) (by omega) (by omega) qEx)
  ·skip
   have HW:=Lib.hid (show T=(2,n,0)from by rw[←O,HQ.out,ce,if_neg G,if_neg (by simp[hr]),if_neg (by rw[aR h0 HC0.out];simp[vS hu])])
   go_wp2_with (first|(go_at_call 189;refine qmm (bw _ _) ?_)|(go_at_call 196;refine qmm (dU _ _) ?_)|(go_at_call 195;refine qmm (lG _ _ (E+1) (by omega) _ (by omega) J) ?_))
   exact bodyPost_ret (v:=.agg #[.int .i64 n,.int .i64 2,.int .i64 0,.int .i64 0]) (by simp[results,results190,go_sem]) rfl (jA HW.out (by omega) (by omega) qEx)
 have hn1:E<l.length:=by omega
 obtain⟨c1,hc1⟩:∃c,({data:=l.toArray}:ByteArray)[E]'hn1=c:=⟨_,rfl⟩;have HC1a:=Lib.hid (show l[E]=c1 from hc1);obtain⟨c2,hc2⟩:∃c,({data:=l.toArray}:ByteArray)[E+1]'h2=c:=⟨_,rfl⟩;have HC2a:=Lib.hid (show l[E+1]=c2 from hc2);have Z:n<(l.drop k).length:=by have :=HE.out;simp;omega
 have U:n+1<(l.drop k).length:=by have :=HE.out;simp;omega
 have HC1:=Lib.hid (show(l.drop k)[n]=c1 from by rw[List.getElem_drop];simp only[HE.out];exact hc1);have HC2:=Lib.hid (show(l.drop k)[n+1]=c2 from by rw[List.getElem_drop];simp only[←Nat.add_assoc,HE.out];exact hc2);have HGE:=Lib.hid (show(l.drop (E+1)).getD 0 0=c2 from by rw[zy];exact aR h2 HC2a.out);cases h46:((c1.toNat:Int)==46)
 ·skip
  have HQ:=Lib.hid (li HN.out (LE HN.out Z HC1.out h46));by_cases G:24<n
  ·skip
   have HW:=Lib.hid (show T=(0,0,3)from by rw[←O,HQ.out,ce,if_pos G])
   go_wp2_with (first|(go_at_call 189;refine qmm (bw _ _) ?_)|(go_at_call 196;refine qmm (dU _ _) ?_)|(go_at_call 195;refine qmm (lG _ _ (E+1) (by omega) _ (by omega) J) ?_))
   exact bodyPost_ret (v:=.agg #[.int .i64 0,.int .i64 0,.int .i64 3,.int .i64 k]) (by simp[results,results190,go_sem]) rfl (dF HW.out (by omega) (by omega) (by omega) qEx)
  ·skip
   have HW:=Lib.hid (show T=(2,n,0)from by rw[←O,HQ.out,ce,if_neg G,if_neg (by simp[hr]),if_neg (by rw[aR h0 HC0.out];simp[vS hu])])
   go_wp2_with (first|(go_at_call 189;refine qmm (bw _ _) ?_)|(go_at_call 196;refine qmm (dU _ _) ?_)|(go_at_call 195;refine qmm (lG _ _ (E+1) (by omega) _ (by omega) J) ?_))
   exact bodyPost_ret (v:=.agg #[.int .i64 n,.int .i64 2,.int .i64 0,.int .i64 0]) (by simp[results,results190,go_sem]) rfl (jA HW.out (by omega) (by omega) qEx)
 cases h3:bM c2
 ·have hm:kq (l.drop (E+1))=0:=by rw[kq,HGE.out];simp[h3]
  have HQ:=Lib.hid (li HN.out (Lo HN.out U HC2.out h3));by_cases G:24<n
  ·skip
   have HW:=Lib.hid (show T=(0,0,3)from by rw[←O,HQ.out,ce,if_pos G])
   go_wp2_with (first|(go_at_call 189;refine qmm (bw _ _) ?_)|(go_at_call 196;refine qmm (dU _ _) ?_)|(go_at_call 195;refine qmm (lG _ _ (E+1) (by omega) _ (by omega) J) ?_))
   exact bodyPost_ret (v:=.agg #[.int .i64 0,.int .i64 0,.int .i64 3,.int .i64 k]) (by simp[results,results190,go_sem]) rfl (dF HW.out (by omega) (by omega) (by omega) qEx)
  ·skip
   have HW:=Lib.hid (show T=(2,n,0)from by rw[←O,HQ.out,ce,if_neg G,if_neg (by simp[hr]),if_neg (by rw[aR h0 HC0.out];simp[vS hu])])
   go_wp2_with (first|(go_at_call 189;refine qmm (bw _ _) ?_)|(go_at_call 196;refine qmm (dU _ _) ?_)|(go_at_call 195;refine qmm (lG _ _ (E+1) (by omega) _ (by omega) J) ?_))
   exact bodyPost_ret (v:=.agg #[.int .i64 n,.int .i64 2,.int .i64 0,.int .i64 0]) (by simp[results,results190,go_sem]) rfl (jA HW.out (by omega) (by omega) qEx)
 obtain⟨m,hm⟩:∃m,kq (l.drop (E+1))=m:=⟨_,rfl⟩;have HM:=Lib.hid (show spanN bg (l.drop (E+1))=m from by rw[←hm,kq,HGE.out,if_pos h3]);have hm0:0<m:=by have h:=zx (p:=bg) (l:=l.drop (E+1)) (by simp;omega) (by rw[HGE.out];simp[bg,h3]);rw[HM.out]at h;exact h
 have hml:E+1+m≤l.length:=by have h:=oB bg (l.drop (E+1));rw[HM.out]at h;simp at h;omega
 have he:E+1+m-(E+1)=m:=by omega
 have hsl:0<((l.drop (E+1)).take m).length:=by simp;omega
 have hs0:({data:=((l.drop (E+1)).take m).toArray}:ByteArray)[0]'hsl=c2:=by
  show((l.drop (E+1)).take m)[0]=c2;rw[List.getElem_take,List.getElem_drop];exact hc2
 have HQ:=Lib.hid (Dg (m:=m) HN.out (by have h:=HM.out;rw[←HE.out]at h;rw[List.drop_drop];exact h) (EE HN.out h0 HC0.out hu hr U Z HC1.out h46 HC2.out h3));have HDD:=Lib.hid (show((l.drop k).drop (n+1)).take m=(l.drop (E+1)).take m from by rw[List.drop_drop,←HE.out,Nat.add_assoc]);cases hu2:upperB c2
 all_goals
  by_cases G:24<n
  ·skip
   have HW:=Lib.hid (show T=(0,0,3)from by rw[←O,HQ.out,fo,if_pos (.inl G)])
   go_wp2_with (first|(go_at_call 189;refine qmm (bw _ _) ?_)|(go_at_call 196;refine qmm (dU _ _) ?_)|(go_at_call 195;refine qmm (lG _ _ (E+1) (by omega) _ (by omega) J) ?_))
   exact bodyPost_ret (v:=.agg #[.int .i64 0,.int .i64 0,.int .i64 3,.int .i64 k]) (by simp[results,results190,go_sem]) rfl (dF HW.out (by omega) (by omega) (by omega) qEx)
  by_cases h24m:24<m
  ·skip
   have HW:=Lib.hid (show T=(0,0,3)from by rw[←O,HQ.out,fo,if_pos (.inr h24m)])
   go_wp2_with (first|(go_at_call 189;refine qmm (bw _ _) ?_)|(go_at_call 196;refine qmm (dU _ _) ?_)|(go_at_call 195;refine qmm (lG _ _ (E+1) (by omega) _ (by omega) J) ?_))
   exact bodyPost_ret (v:=.agg #[.int .i64 0,.int .i64 0,.int .i64 3,.int .i64 k]) (by simp[results,results190,go_sem]) rfl (dF HW.out (by omega) (by omega) (by omega) qEx)
  cases hr2:mE ((l.drop (E+1)).take m)
  rotate_left
  ·skip
   have HW:=Lib.hid (show T=(0,0,2)from by rw[←O,HQ.out,fo,if_neg (by omega),if_pos (by rw[HDD.out];exact hr2)])
   go_wp2_with (first|(go_at_call 189;refine qmm (bw _ _) ?_)|(go_at_call 196;refine qmm (dU _ _) ?_)|(go_at_call 195;refine qmm (lG _ _ (E+1) (by omega) _ (by omega) J) ?_))
   exact bodyPost_ret (v:=.agg #[.int .i64 0,.int .i64 0,.int .i64 2,.int .i64 k]) (by simp[results,results190,go_sem]) rfl (dF HW.out (by omega) (by omega) (by omega) qEx)
  first
  |have HW:=Lib.hid (show T=(3,n+1+m,0)from by rw[←O,HQ.out,fo,if_neg (by omega),if_neg (by rw[HDD.out];simp[hr2]),if_pos (by rw[aR U HC2.out];exact Eh h3 hu2)])
   go_wp2_with (first|(go_at_call 189;refine qmm (bw _ _) ?_)|(go_at_call 196;refine qmm (dU _ _) ?_)|(go_at_call 195;refine qmm (lG _ _ (E+1) (by omega) _ (by omega) J) ?_))
   exact bodyPost_ret (v:=.agg #[.int .i64 (n+1+m),.int .i64 3,.int .i64 0,.int .i64 0]) (by simp[results,results190,go_sem]) rfl (jA HW.out (by omega) (by omega) qEx)
  |have HW:=Lib.hid (show T=(4,n+1+m,0)from by rw[←O,HQ.out,fo,if_neg (by omega),if_neg (by rw[HDD.out];simp[hr2]),if_neg (by rw[aR U HC2.out];simp[vS hu2])])
   go_wp2_with (first|(go_at_call 189;refine qmm (bw _ _) ?_)|(go_at_call 196;refine qmm (dU _ _) ?_)|(go_at_call 195;refine qmm (lG _ _ (E+1) (by omega) _ (by omega) J) ?_))
   exact bodyPost_ret (v:=.agg #[.int .i64 (n+1+m),.int .i64 4,.int .i64 0,.int .i64 0]) (by simp[results,results190,go_sem]) rfl (jA HW.out (by omega) (by omega) qEx)
theorem JQ(G:Nat)(t:Nat×Nat×Nat):∃a b c d:Int,qm G t=.agg #[.int .i64 a,.int .i64 b,.int .i64 c,.int .i64 d]:=by
 unfold qm;split<;>exact⟨_,_,_,_,rfl⟩
abbrev CZ:Obj:=.cells #[.int .i64 0,.int .i64 0,.int .i64 0,.int .i64 0] 189
set_option maxHeartbeats 4000000 in
theorem Ng (l:List UInt8) (x:Int) (k:Nat) (hxk:x=k) (w:World) (hlt:k<l.length) (hl:l.length≤281474976710656):Calls prog 171 #[.string ⟨l.toArray⟩,.int .i64 x] w (xZ k (tokenT (l.drop k)) w):=by
 subst hxk;obtain⟨T,hT⟩:∃T,tokenT (l.drop k)=T:=⟨_,rfl⟩;rw[hT];have h0:0<(l.drop k).length:=by simp;omega
 obtain⟨c,hc⟩:∃c,({data:=l.toArray}:ByteArray)[k]'hlt=c:=⟨_,rfl⟩;have HC:=Lib.hid (show l[k]=c from hc);have HC0:=Lib.hid (show(l.drop k)[0]=c from by rw[List.getElem_drop];exact hc);have HT:=Lib.hid ((zk h0 HC0.out).symm.trans hT);clear hT
 go_enter func171,ntmps171
 cases ha:bk c
 ·skip
  have HW:=Lib.hid (show T=(0,0,1)from by rw[←HT.out,if_pos ha])
  go_wp2_with (first|(go_at_call 185;refine qmm (bE _ _) ?_)|(go_at_call 186;refine qmm (cC _ _) ?_)|(go_at_call 187;refine qmm (dY _ _) ?_)|(go_at_call 188;refine qmm (cX _ _) ?_)|(go_at_call 189;refine qmm (bw _ _) ?_)|(go_at_call 191;refine qmm (gM _ _ k rfl _ hlt hl) ?_))
  exact bodyPost_ret (v:=.agg #[.int .i64 0,.int .i64 0,.int .i64 1,.int .i64 k]) (by simp[results,results171,go_sem]) rfl (dF HW.out (by omega) (by omega) (by omega) qEx)
 have HA:=Lib.hid (show¬bk c=false from by simp[ha]);cases h34:((c.toNat:Int)==34)
 rotate_left
 ·have h34':=eL (m:=34) h34;have HT2:=Lib.hid (show T=(6,quotedT (l.drop (k+1)) 1)from by
   rw[←HT.out,if_neg HA.out,if_neg (by simp[bM,dm,upperB,h34']),if_neg (by simp[cf,h34']),if_pos h34',List.tail_drop])
  clear h34'
  go_wp2_with (first|(go_at_call 185;refine qmm (bE _ _) ?_)|(go_at_call 186;refine qmm (cC _ _) ?_)|(go_at_call 187;refine qmm (dY _ _) ?_)|(go_at_call 188;refine qmm (cX _ _) ?_)|(go_at_call 189;refine qmm (bw _ _) ?_)|(go_at_call 191;refine qmm (gM _ _ k rfl _ hlt hl) ?_))
  go_loopg [6] (l.length-(k+1)) (λg n wx=>∃i:Nat,g=l.length-i∧wx=w.alloc CZ∧k+1≤i∧i≤l.length∧n=.int .i64 i∧Hid (quotedT (l.drop (k+1)) 1=quotedT (l.drop i) (i-k)))
  case atStart=>exact⟨k+1,rfl,rfl,Nat.le_refl _,by omega,by go_num,Lib.hid (by congr 1;omega)⟩
  case round=>
   obtain⟨i,rfl,rfl,hki,hil,rfl,hrel⟩:=hrel;by_cases hit:i<l.length
   ·skip
    obtain⟨d,hd⟩:∃c,({data:=l.toArray}:ByteArray)[i]'hit=c:=⟨_,rfl⟩;have HD:=Lib.hid (show l[i]=d from hd);have HS:=Lib.hid (Jg (j:=i-k) hit HD.out);cases hq:((d.toNat:Int)==34)
    rotate_left
    ·have HW:=Lib.hid (show T=(6,i-k+1,0)from by rw[HT2.out,hrel.out,HS.out,if_neg (by simp[DB (eL (m:=34) hq)]),if_pos (eL (m:=34) hq)])
     go_wp2_with (first|(go_at_call 185;refine qmm (bE _ _) ?_)|(go_at_call 186;refine qmm (cC _ _) ?_)|(go_at_call 187;refine qmm (dY _ _) ?_)|(go_at_call 188;refine qmm (cX _ _) ?_)|(go_at_call 189;refine qmm (bw _ _) ?_)|(go_at_call 191;refine qmm (gM _ _ k rfl _ hlt hl) ?_))
     exact bodyPost_ret (v:=.agg #[.int .i64 ((i:Int)+1-k),.int .i64 6,.int .i64 0,.int .i64 0]) (by simp[results,results171,go_sem]) rfl (jA HW.out (by omega) (by omega) qEx)
    cases had:bk d
    ·have HW:=Lib.hid (show T=(6,i-k,1)from by rw[HT2.out,hrel.out,HS.out,if_pos had])
     go_wp2_with (first|(go_at_call 185;refine qmm (bE _ _) ?_)|(go_at_call 186;refine qmm (cC _ _) ?_)|(go_at_call 187;refine qmm (dY _ _) ?_)|(go_at_call 188;refine qmm (cX _ _) ?_)|(go_at_call 189;refine qmm (bw _ _) ?_)|(go_at_call 191;refine qmm (gM _ _ k rfl _ hlt hl) ?_))
     exact bodyPost_ret (v:=.agg #[.int .i64 0,.int .i64 0,.int .i64 1,.int .i64 i]) (by simp[results,results171,go_sem]) rfl (dF HW.out (by omega) (by omega) (by omega) qEx)
    cases hpr:fk d
    ·have HW:=Lib.hid (show T=(6,0,2)from by rw[HT2.out,hrel.out,HS.out,if_neg (by simp[had]),if_neg (cR (m:=34) hq),if_pos (.inr (JA had hpr))])
     go_wp2_with (first|(go_at_call 185;refine qmm (bE _ _) ?_)|(go_at_call 186;refine qmm (cC _ _) ?_)|(go_at_call 187;refine qmm (dY _ _) ?_)|(go_at_call 188;refine qmm (cX _ _) ?_)|(go_at_call 189;refine qmm (bw _ _) ?_)|(go_at_call 191;refine qmm (gM _ _ k rfl _ hlt hl) ?_))
     exact bodyPost_ret (v:=.agg #[.int .i64 0,.int .i64 0,.int .i64 2,.int .i64 k]) (by simp[results,results171,go_sem]) rfl (dF HW.out (by omega) (by omega) (by omega) qEx)
    cases h92:((d.toNat:Int)==92)
    rotate_left
    ·have HW:=Lib.hid (show T=(6,0,2)from by rw[HT2.out,hrel.out,HS.out,if_neg (by simp[had]),if_neg (cR (m:=34) hq),if_pos (.inl (eL (m:=92) h92))])
     go_wp2_with (first|(go_at_call 185;refine qmm (bE _ _) ?_)|(go_at_call 186;refine qmm (cC _ _) ?_)|(go_at_call 187;refine qmm (dY _ _) ?_)|(go_at_call 188;refine qmm (cX _ _) ?_)|(go_at_call 189;refine qmm (bw _ _) ?_)|(go_at_call 191;refine qmm (gM _ _ k rfl _ hlt hl) ?_))
     exact bodyPost_ret (v:=.agg #[.int .i64 0,.int .i64 0,.int .i64 2,.int .i64 k]) (by simp[results,results171,go_sem]) rfl (dF HW.out (by omega) (by omega) (by omega) qEx)
    ·go_wp2_with (first|(go_at_call 185;refine qmm (bE _ _) ?_)|(go_at_call 186;refine qmm (cC _ _) ?_)|(go_at_call 187;refine qmm (dY _ _) ?_)|(go_at_call 188;refine qmm (cX _ _) ?_)|(go_at_call 189;refine qmm (bw _ _) ?_)|(go_at_call 191;refine qmm (gM _ _ k rfl _ hlt hl) ?_))
     go_roundg (l.length-(i+1))
     case measure=>omega
     case rel=>exact⟨i+1,rfl,rfl,by omega,by omega,by go_num,Lib.hid (by rw[hrel.out,HS.out,if_neg (by simp[had]),if_neg (cR (m:=34) hq),if_neg (λh=>h.elim (cR (m:=92) h92) (Iy hpr))];congr 1;omega)⟩
   ·have HW:=Lib.hid (show T=(6,0,2)from by rw[HT2.out,hrel.out,CC (by omega)])
    go_wp2_with (first|(go_at_call 185;refine qmm (bE _ _) ?_)|(go_at_call 186;refine qmm (cC _ _) ?_)|(go_at_call 187;refine qmm (dY _ _) ?_)|(go_at_call 188;refine qmm (cX _ _) ?_)|(go_at_call 189;refine qmm (bw _ _) ?_)|(go_at_call 191;refine qmm (gM _ _ k rfl _ hlt hl) ?_))
    exact bodyPost_ret (v:=.agg #[.int .i64 0,.int .i64 0,.int .i64 2,.int .i64 k]) (by simp[results,results171,go_sem]) rfl (dF HW.out (by omega) (by omega) (by omega) qEx)
 cases hdg:cf c
 rotate_left
 ·have HT2:=Lib.hid (show T=(5,gs (l.drop k))from by
   rw[←HT.out,if_neg HA.out,if_neg (by simp[bM,dm,upperB,cf]at hdg⊢;omega),if_pos hdg])
  go_wp2_with (first|(go_at_call 185;refine qmm (bE _ _) ?_)|(go_at_call 186;refine qmm (cC _ _) ?_)|(go_at_call 187;refine qmm (dY _ _) ?_)|(go_at_call 188;refine qmm (cX _ _) ?_)|(go_at_call 189;refine qmm (bw _ _) ?_)|(go_at_call 191;refine qmm (gM _ _ k rfl _ hlt hl) ?_))
  go_loopg [7] (l.length-k) (λg n wx=>∃i:Nat,g=l.length-i∧wx=w.alloc CZ∧k≤i∧i≤l.length∧n=.int .i64 i∧Hid (spanN cf (l.drop k)=i-k+spanN cf (l.drop i)))
  case atStart=>exact⟨k,rfl,rfl,Nat.le_refl _,by omega,rfl,Lib.hid (by omega)⟩
  case round=>
   obtain⟨i,rfl,rfl,hki,hil,rfl,hrel⟩:=hrel;by_cases hit:i<l.length
   ·skip
    obtain⟨d,hd⟩:∃c,({data:=l.toArray}:ByteArray)[i]'hit=c:=⟨_,rfl⟩;have HD:=Lib.hid (show l[i]=d from hd);cases hdd:cf d
    ·skip
     have HN:=Lib.hid (show spanN cf (l.drop k)=i-k from by rw[hrel.out,ur hit HD.out hdd];omega);by_cases h1:1<i-k
     ·have h1':(1:Int)<i-k:=by omega
      cases h48:((c.toNat:Int)==48)
      ·have HG:=Lib.hid (show 1<i-k→¬((l.drop k).getD 0 0).toNat=48 from λ_=>by rw[aR h0 HC0.out];exact cR (m:=48) h48);by_cases h15:15<i-k
       ·have h15':(15:Int)<i-k:=by omega
        have HW:=Lib.hid (show T=(5,0,3)from by rw[HT2.out,rN HN.out HG.out h15])
        go_wp2_with (first|(go_at_call 185;refine qmm (bE _ _) ?_)|(go_at_call 186;refine qmm (cC _ _) ?_)|(go_at_call 187;refine qmm (dY _ _) ?_)|(go_at_call 188;refine qmm (cX _ _) ?_)|(go_at_call 189;refine qmm (bw _ _) ?_)|(go_at_call 191;refine qmm (gM _ _ k rfl _ hlt hl) ?_))
        exact bodyPost_ret (v:=.agg #[.int .i64 0,.int .i64 0,.int .i64 3,.int .i64 k]) (by simp[results,results171,go_sem]) rfl (dF HW.out (by omega) (by omega) (by omega) qEx)
       ·have h15':¬((15:Int)<i-k):=by omega
        have HW:=Lib.hid (show T=(5,i-k,0)from by rw[HT2.out,kE HN.out HG.out h15])
        go_wp2_with (first|(go_at_call 185;refine qmm (bE _ _) ?_)|(go_at_call 186;refine qmm (cC _ _) ?_)|(go_at_call 187;refine qmm (dY _ _) ?_)|(go_at_call 188;refine qmm (cX _ _) ?_)|(go_at_call 189;refine qmm (bw _ _) ?_)|(go_at_call 191;refine qmm (gM _ _ k rfl _ hlt hl) ?_))
        exact bodyPost_ret (v:=.agg #[.int .i64 ((i:Int)-k),.int .i64 5,.int .i64 0,.int .i64 0]) (by simp[results,results171,go_sem]) rfl (jA HW.out (by omega) (by omega) qEx)
      ·skip
       have HW:=Lib.hid (show T=(5,0,2)from by rw[HT2.out,rB HN.out h1 h0 HC0.out h48])
       go_wp2_with (first|(go_at_call 185;refine qmm (bE _ _) ?_)|(go_at_call 186;refine qmm (cC _ _) ?_)|(go_at_call 187;refine qmm (dY _ _) ?_)|(go_at_call 188;refine qmm (cX _ _) ?_)|(go_at_call 189;refine qmm (bw _ _) ?_)|(go_at_call 191;refine qmm (gM _ _ k rfl _ hlt hl) ?_))
       exact bodyPost_ret (v:=.agg #[.int .i64 0,.int .i64 0,.int .i64 2,.int .i64 k]) (by simp[results,results171,go_sem]) rfl (dF HW.out (by omega) (by omega) (by omega) qEx)
     ·have h1':¬((1:Int)<i-k):=by omega
      have h15':¬((15:Int)<i-k):=by omega
      have HW:=Lib.hid (show T=(5,i-k,0)from by rw[HT2.out,kE HN.out (λh=>absurd h h1) (by omega)])
      go_wp2_with (first|(go_at_call 185;refine qmm (bE _ _) ?_)|(go_at_call 186;refine qmm (cC _ _) ?_)|(go_at_call 187;refine qmm (dY _ _) ?_)|(go_at_call 188;refine qmm (cX _ _) ?_)|(go_at_call 189;refine qmm (bw _ _) ?_)|(go_at_call 191;refine qmm (gM _ _ k rfl _ hlt hl) ?_))
      exact bodyPost_ret (v:=.agg #[.int .i64 ((i:Int)-k),.int .i64 5,.int .i64 0,.int .i64 0]) (by simp[results,results171,go_sem]) rfl (jA HW.out (by omega) (by omega) qEx)
    ·go_wp2_with (first|(go_at_call 185;refine qmm (bE _ _) ?_)|(go_at_call 186;refine qmm (cC _ _) ?_)|(go_at_call 187;refine qmm (dY _ _) ?_)|(go_at_call 188;refine qmm (cX _ _) ?_)|(go_at_call 189;refine qmm (bw _ _) ?_)|(go_at_call 191;refine qmm (gM _ _ k rfl _ hlt hl) ?_))
     go_roundg (l.length-(i+1))
     case measure=>omega
     case rel=>exact⟨i+1,rfl,rfl,by omega,by omega,by go_num,Lib.hid (by rw[hrel.out,oS hit HD.out hdd];omega)⟩
   ·skip
    have HN:=Lib.hid (show spanN cf (l.drop k)=i-k from by rw[hrel.out,vT (by omega)];omega);by_cases h1:1<i-k
    ·have h1':(1:Int)<i-k:=by omega
     cases h48:((c.toNat:Int)==48)
     ·have HG:=Lib.hid (show 1<i-k→¬((l.drop k).getD 0 0).toNat=48 from λ_=>by rw[aR h0 HC0.out];exact cR (m:=48) h48);by_cases h15:15<i-k
      ·have h15':(15:Int)<i-k:=by omega
       have HW:=Lib.hid (show T=(5,0,3)from by rw[HT2.out,rN HN.out HG.out h15])
       go_wp2_with (first|(go_at_call 185;refine qmm (bE _ _) ?_)|(go_at_call 186;refine qmm (cC _ _) ?_)|(go_at_call 187;refine qmm (dY _ _) ?_)|(go_at_call 188;refine qmm (cX _ _) ?_)|(go_at_call 189;refine qmm (bw _ _) ?_)|(go_at_call 191;refine qmm (gM _ _ k rfl _ hlt hl) ?_))
       exact bodyPost_ret (v:=.agg #[.int .i64 0,.int .i64 0,.int .i64 3,.int .i64 k]) (by simp[results,results171,go_sem]) rfl (dF HW.out (by omega) (by omega) (by omega) qEx)
      ·have h15':¬((15:Int)<i-k):=by omega
       have HW:=Lib.hid (show T=(5,i-k,0)from by rw[HT2.out,kE HN.out HG.out h15])
       go_wp2_with (first|(go_at_call 185;refine qmm (bE _ _) ?_)|(go_at_call 186;refine qmm (cC _ _) ?_)|(go_at_call 187;refine qmm (dY _ _) ?_)|(go_at_call 188;refine qmm (cX _ _) ?_)|(go_at_call 189;refine qmm (bw _ _) ?_)|(go_at_call 191;refine qmm (gM _ _ k rfl _ hlt hl) ?_))
       exact bodyPost_ret (v:=.agg #[.int .i64 ((i:Int)-k),.int .i64 5,.int .i64 0,.int .i64 0]) (by simp[results,results171,go_sem]) rfl (jA HW.out (by omega) (by omega) qEx)
     ·skip
      have HW:=Lib.hid (show T=(5,0,2)from by rw[HT2.out,rB HN.out h1 h0 HC0.out h48])
      go_wp2_with (first|(go_at_call 185;refine qmm (bE _ _) ?_)|(go_at_call 186;refine qmm (cC _ _) ?_)|(go_at_call 187;refine qmm (dY _ _) ?_)|(go_at_call 188;refine qmm (cX _ _) ?_)|(go_at_call 189;refine qmm (bw _ _) ?_)|(go_at_call 191;refine qmm (gM _ _ k rfl _ hlt hl) ?_))
      exact bodyPost_ret (v:=.agg #[.int .i64 0,.int .i64 0,.int .i64 2,.int .i64 k]) (by simp[results,results171,go_sem]) rfl (dF HW.out (by omega) (by omega) (by omega) qEx)
    ·have h1':¬((1:Int)<i-k):=by omega
     have h15':¬((15:Int)<i-k):=by omega
     have HW:=Lib.hid (show T=(5,i-k,0)from by rw[HT2.out,kE HN.out (λh=>absurd h h1) (by omega)])
     go_wp2_with (first|(go_at_call 185;refine qmm (bE _ _) ?_)|(go_at_call 186;refine qmm (cC _ _) ?_)|(go_at_call 187;refine qmm (dY _ _) ?_)|(go_at_call 188;refine qmm (cX _ _) ?_)|(go_at_call 189;refine qmm (bw _ _) ?_)|(go_at_call 191;refine qmm (gM _ _ k rfl _ hlt hl) ?_))
     exact bodyPost_ret (v:=.agg #[.int .i64 ((i:Int)-k),.int .i64 5,.int .i64 0,.int .i64 0]) (by simp[results,results171,go_sem]) rfl (jA HW.out (by omega) (by omega) qEx)
 have HDg:=Lib.hid (show¬cf c=true from by simp[hdg]);have HQt:=Lib.hid (cR (m:=34) h34);cases hle:bM c
 rotate_left
 ·have HT2:=Lib.hid (show cd (l.drop k)=T from by rw[←HT.out,if_neg HA.out,if_pos hle]);obtain⟨a0,a1,a2,a3,hform⟩:=JQ k T;have HF:=Lib.hid hform;have CW:=Lib.hid (λw=>QE l k k rfl w hlt (by rw[HC.out];exact hle) hl);clear hform;have hbe:dm c=true∨(dm c=false∧upperB c=true):=by cases h:dm c<;>simp_all[bM]
  rcases hbe with hlo|⟨hlo,hup⟩
  all_goals
   go_wp2_with (first|(go_at_call 185;refine qmm (bE _ _) ?_)|(go_at_call 186;refine qmm (cC _ _) ?_)|(go_at_call 187;refine qmm (dY _ _) ?_)|(go_at_call 188;refine qmm (cX _ _) ?_)|(go_at_call 189;refine qmm (bw _ _) ?_)|(go_at_call 191;refine qmm (gM _ _ k rfl _ hlt hl) ?_))
   refine(CW.out _).mono ?_;rintro e w1 ⟨rfl,hext⟩;rw[HT2.out,HF.out];have hsz:=hext.size;have hc0:=hext.cell (p:=⟨w.heap.size,0,none⟩) (by simp);have hc1:=hext.cell (p:=⟨w.heap.size,1,none⟩) (by simp);have hc2:=hext.cell (p:=⟨w.heap.size,2,none⟩) (by simp);have hc3:=hext.cell (p:=⟨w.heap.size,3,none⟩) (by simp);have hf0:=hext.frozen (p:=⟨w.heap.size,0,none⟩) (by simp);have hf1:=hext.frozen (p:=⟨w.heap.size,1,none⟩) (by simp);have hf2:=hext.frozen (p:=⟨w.heap.size,2,none⟩) (by simp);have hf3:=hext.frozen (p:=⟨w.heap.size,3,none⟩) (by simp);have HX:=Lib.hid hext;clear hext;simp at hsz hc0 hc1 hc2 hc3 hf0 hf1 hf2 hf3
   go_wp2_with (first|(go_at_call 185;refine qmm (bE _ _) ?_)|(go_at_call 186;refine qmm (cC _ _) ?_)|(go_at_call 187;refine qmm (dY _ _) ?_)|(go_at_call 188;refine qmm (cX _ _) ?_)|(go_at_call 189;refine qmm (bw _ _) ?_)|(go_at_call 191;refine qmm (gM _ _ k rfl _ hlt hl) ?_))
   exact bodyPost_ret (v:=.agg #[.int .i64 a0,.int .i64 a1,.int .i64 a2,.int .i64 a3]) (by simp[results,results171,go_sem,hc0,hc1,hc2,hc3]) rfl ⟨by rw[HF.out],(((((Ext.refl w).alloc _).trans HX.out).setCell (Nat.le_refl _) _).setCell (Nat.le_refl _) _).setCell (Nat.le_refl _) _|>.setCell (Nat.le_refl _) _⟩
 have HLt:=Lib.hid (show¬bM c=true from by simp[hle]);have hlo:dm c=false:=by cases h:dm c<;>simp_all[bM]
 have hup:upperB c=false:=by cases h:upperB c<;>simp_all[bM]
 have HSg:=Lib.hid (KG (l.drop k));have HG0:=Lib.hid (aR h0 HC0.out);have HT2:=Lib.hid (show T=if signLen (l.drop k)=0 then(0,0,2)else(8,signLen (l.drop k),0)from by
  rw[←HSg.out,HG0.out,←HT.out,if_neg HA.out,if_neg HLt.out,if_neg HDg.out,if_neg HQt.out])
 obtain⟨m,hm⟩:∃m,signLen (l.drop k)=m:=⟨_,rfl⟩;have HM:=Lib.hid hm;by_cases hm0:m=0
 ·have HW:=Lib.hid (show T=(0,0,2)from by rw[HT2.out,HM.out,if_pos hm0]);subst hm0
  go_wp2_with (first|(go_at_call 185;refine qmm (bE _ _) ?_)|(go_at_call 186;refine qmm (cC _ _) ?_)|(go_at_call 187;refine qmm (dY _ _) ?_)|(go_at_call 188;refine qmm (cX _ _) ?_)|(go_at_call 189;refine qmm (bw _ _) ?_)|(go_at_call 191;refine qmm (gM _ _ k rfl _ hlt hl) ?_))
  exact bodyPost_ret (v:=.agg #[.int .i64 0,.int .i64 0,.int .i64 2,.int .i64 k]) (by simp[results,results171,go_sem]) rfl (dF HW.out (by omega) (by omega) (by omega) qEx)
 ·have HW:=Lib.hid (show T=(8,m,0)from by rw[HT2.out,HM.out,if_neg hm0]);have hmb:((m:Int)==0)=false:=by simp;omega
  go_wp2_with (first|(go_at_call 185;refine qmm (bE _ _) ?_)|(go_at_call 186;refine qmm (cC _ _) ?_)|(go_at_call 187;refine qmm (dY _ _) ?_)|(go_at_call 188;refine qmm (cX _ _) ?_)|(go_at_call 189;refine qmm (bw _ _) ?_)|(go_at_call 191;refine qmm (gM _ _ k rfl _ hlt hl) ?_))
  exact bodyPost_ret (v:=.agg #[.int .i64 m,.int .i64 8,.int .i64 0,.int .i64 0]) (by simp[results,results171,go_sem]) rfl (jA HW.out (by omega) (by omega) qEx)
def FZ(c:UInt8):Int:=Lib.indexByte sY c
theorem In:∀(l:List UInt8) (c:UInt8),0≤Lib.indexByte l c↔l.contains c=true
 |[],c=>by simp[Lib.indexByte]
 | b::l,c=>by
  have ih:=In l c;have hg:=Lib.indexByte_ge l c;unfold Lib.indexByte;by_cases h:b=c
  ·simp[h]
  ·have h':¬c=b:=λe=>h e.symm;simp only[beq_iff_eq,h,if_false,List.contains_cons,h',Bool.or_eq_true,false_or];rw[←ih];split<;>omega
theorem sL(c:UInt8):0≤FZ c↔sY.contains c=true:=In _ _
theorem oI(c:UInt8)(w:World):Calls prog 120 #[.string ⟨#[40,41,91,93,58,44,61,43,45,42,60,63]⟩,.int .u8 (c.toNat:Int)] w λe w'=>e=.returned (.int .i64 (FZ c))∧w=w':=by
 refine(IC _ _ w).mono ?_;rintro e w' ⟨rfl,rfl⟩;refine⟨bU ?_,rfl⟩;have :((c.toNat:Int)).toNat.toUInt8=c:=by simp
 rw[this];rfl
set_option maxHeartbeats 4000000 in
theorem Pr(l:List UInt8)(w:World)(h0:0<l.length)(G:l.length≤281474976710656):Calls prog 79 #[.string ⟨l.toArray⟩] w λe w'=>e=.returned (.tuple #[.int .i64 ((tokenT l).1:Nat),.int .i64 ((tokenT l).2.1:Nat),.int .i64 ((tokenT l).2.2:Nat)])∧w=w':=by
 obtain⟨J,hc0⟩:∃c,({data:=l.toArray}:ByteArray)[0]'h0=c:=⟨_,rfl⟩;have HC0:=Lib.hid (show l[0]=J from hc0);have HT:=Lib.hid (zk h0 HC0.out)
 go_enter func79,ntmps79
 cases ha:bk J
 ·skip
  have HW:=Lib.hid (show tokenT l=(0,0,1)from by rw[HT.out,if_pos ha])
  go_wp2_with (first|(go_at_call 78;refine qmm (ec _ _) ?_)|(go_at_call 115;refine qmm (bS _ _) ?_)|(go_at_call 117;refine qmm (eZ _ _) ?_)|(go_at_call 116;refine qmm (rG _ _ h0 G) ?_)|(go_at_call 118;refine qmm (ma _ _ G) ?_)|(go_at_call 119;refine qmm (mb _ _ h0 G) ?_)|(go_at_call 120;refine qmm (oI _ _) ?_))
  go_ret3
  exact⟨by rw[HW.out];rfl,rfl⟩
 have HA:=Lib.hid (show¬bk J=false from by simp[ha]);cases O:bM J
 rotate_left
 ·skip
  have HW:=Lib.hid (show tokenT l=cd l from by rw[HT.out,if_neg HA.out,if_pos O])
  go_wp2_with (first|(go_at_call 78;refine qmm (ec _ _) ?_)|(go_at_call 115;refine qmm (bS _ _) ?_)|(go_at_call 117;refine qmm (eZ _ _) ?_)|(go_at_call 116;refine qmm (rG _ _ h0 G) ?_)|(go_at_call 118;refine qmm (ma _ _ G) ?_)|(go_at_call 119;refine qmm (mb _ _ h0 G) ?_)|(go_at_call 120;refine qmm (oI _ _) ?_))
  go_ret3
  exact⟨by rw[HW.out];rfl,rfl⟩
 have HL:=Lib.hid (show¬bM J=true from by simp[O]);cases hd:cf J
 rotate_left
 ·skip
  have HW:=Lib.hid (show tokenT l=(5,gs l)from by rw[HT.out,if_neg HA.out,if_neg HL.out,if_pos hd])
  go_wp2_with (first|(go_at_call 78;refine qmm (ec _ _) ?_)|(go_at_call 115;refine qmm (bS _ _) ?_)|(go_at_call 117;refine qmm (eZ _ _) ?_)|(go_at_call 116;refine qmm (rG _ _ h0 G) ?_)|(go_at_call 118;refine qmm (ma _ _ G) ?_)|(go_at_call 119;refine qmm (mb _ _ h0 G) ?_)|(go_at_call 120;refine qmm (oI _ _) ?_))
  go_ret3
  exact⟨by rw[HW.out];rfl,rfl⟩
 have HD:=Lib.hid (show¬cf J=true from by simp[hd]);cases U:((J.toNat:Int)==34)
 rotate_left
 ·skip
  have HW:=Lib.hid (show tokenT l=(6,quotedT l.tail 1)from by rw[HT.out,if_neg HA.out,if_neg HL.out,if_neg HD.out,if_pos (eL (m:=34) U)])
  go_wp2_with (first|(go_at_call 78;refine qmm (ec _ _) ?_)|(go_at_call 115;refine qmm (bS _ _) ?_)|(go_at_call 117;refine qmm (eZ _ _) ?_)|(go_at_call 116;refine qmm (rG _ _ h0 G) ?_)|(go_at_call 118;refine qmm (ma _ _ G) ?_)|(go_at_call 119;refine qmm (mb _ _ h0 G) ?_)|(go_at_call 120;refine qmm (oI _ _) ?_))
  go_ret3
  exact⟨by rw[HW.out];rfl,rfl⟩
 have HQ:=Lib.hid (cR (m:=34) U);cases Z:((J.toNat:Int)==61)
 ·skip
  have HE:=Lib.hid (show¬(J.toNat=61∧1<l.length∧(l.getD 1 0).toNat=61)from λh=>cR (m:=61) Z h.1);by_cases hs:0≤FZ J
  ·skip
   have HW:=Lib.hid (show tokenT l=(8,1,0)from by rw[HT.out,if_neg HA.out,if_neg HL.out,if_neg HD.out,if_neg HQ.out,if_neg HE.out,if_pos ((sL J).1 hs)])
   go_wp2_with (first|(go_at_call 78;refine qmm (ec _ _) ?_)|(go_at_call 115;refine qmm (bS _ _) ?_)|(go_at_call 117;refine qmm (eZ _ _) ?_)|(go_at_call 116;refine qmm (rG _ _ h0 G) ?_)|(go_at_call 118;refine qmm (ma _ _ G) ?_)|(go_at_call 119;refine qmm (mb _ _ h0 G) ?_)|(go_at_call 120;refine qmm (oI _ _) ?_))
   go_ret3
   exact⟨by rw[HW.out];rfl,rfl⟩
  ·skip
   have HW:=Lib.hid (show tokenT l=(0,0,2)from by rw[HT.out,if_neg HA.out,if_neg HL.out,if_neg HD.out,if_neg HQ.out,if_neg HE.out,if_neg (λh=>hs ((sL J).2 h))])
   go_wp2_with (first|(go_at_call 78;refine qmm (ec _ _) ?_)|(go_at_call 115;refine qmm (bS _ _) ?_)|(go_at_call 117;refine qmm (eZ _ _) ?_)|(go_at_call 116;refine qmm (rG _ _ h0 G) ?_)|(go_at_call 118;refine qmm (ma _ _ G) ?_)|(go_at_call 119;refine qmm (mb _ _ h0 G) ?_)|(go_at_call 120;refine qmm (oI _ _) ?_))
   go_ret3
   exact⟨by rw[HW.out];rfl,rfl⟩
 by_cases h1:1<l.length
 rotate_left
 ·skip
  have HE:=Lib.hid (show¬(J.toNat=61∧1<l.length∧(l.getD 1 0).toNat=61)from λh=>h1 h.2.1);by_cases hs:0≤FZ J
  ·skip
   have HW:=Lib.hid (show tokenT l=(8,1,0)from by rw[HT.out,if_neg HA.out,if_neg HL.out,if_neg HD.out,if_neg HQ.out,if_neg HE.out,if_pos ((sL J).1 hs)])
   go_wp2_with (first|(go_at_call 78;refine qmm (ec _ _) ?_)|(go_at_call 115;refine qmm (bS _ _) ?_)|(go_at_call 117;refine qmm (eZ _ _) ?_)|(go_at_call 116;refine qmm (rG _ _ h0 G) ?_)|(go_at_call 118;refine qmm (ma _ _ G) ?_)|(go_at_call 119;refine qmm (mb _ _ h0 G) ?_)|(go_at_call 120;refine qmm (oI _ _) ?_))
   go_ret3
   exact⟨by rw[HW.out];rfl,rfl⟩
  ·skip
   have HW:=Lib.hid (show tokenT l=(0,0,2)from by rw[HT.out,if_neg HA.out,if_neg HL.out,if_neg HD.out,if_neg HQ.out,if_neg HE.out,if_neg (λh=>hs ((sL J).2 h))])
   go_wp2_with (first|(go_at_call 78;refine qmm (ec _ _) ?_)|(go_at_call 115;refine qmm (bS _ _) ?_)|(go_at_call 117;refine qmm (eZ _ _) ?_)|(go_at_call 116;refine qmm (rG _ _ h0 G) ?_)|(go_at_call 118;refine qmm (ma _ _ G) ?_)|(go_at_call 119;refine qmm (mb _ _ h0 G) ?_)|(go_at_call 120;refine qmm (oI _ _) ?_))
   go_ret3
   exact⟨by rw[HW.out];rfl,rfl⟩
 obtain⟨c1,hc1⟩:∃c,({data:=l.toArray}:ByteArray)[1]'h1=c:=⟨_,rfl⟩;have HC1:=Lib.hid (show l[1]=c1 from hc1);cases h62:((c1.toNat:Int)==61)
 ·skip
  have HE:=Lib.hid (show¬(J.toNat=61∧1<l.length∧(l.getD 1 0).toNat=61)from λh=>cR (m:=61) h62 (by rw[←aR h1 HC1.out];exact h.2.2));by_cases hs:0≤FZ J
  ·skip
   have HW:=Lib.hid (show tokenT l=(8,1,0)from by rw[HT.out,if_neg HA.out,if_neg HL.out,if_neg HD.out,if_neg HQ.out,if_neg HE.out,if_pos ((sL J).1 hs)])
   go_wp2_with (first|(go_at_call 78;refine qmm (ec _ _) ?_)|(go_at_call 115;refine qmm (bS _ _) ?_)|(go_at_call 117;refine qmm (eZ _ _) ?_)|(go_at_call 116;refine qmm (rG _ _ h0 G) ?_)|(go_at_call 118;refine qmm (ma _ _ G) ?_)|(go_at_call 119;refine qmm (mb _ _ h0 G) ?_)|(go_at_call 120;refine qmm (oI _ _) ?_))
   go_ret3
   exact⟨by rw[HW.out];rfl,rfl⟩
  ·skip
   have HW:=Lib.hid (show tokenT l=(0,0,2)from by rw[HT.out,if_neg HA.out,if_neg HL.out,if_neg HD.out,if_neg HQ.out,if_neg HE.out,if_neg (λh=>hs ((sL J).2 h))])
   go_wp2_with (first|(go_at_call 78;refine qmm (ec _ _) ?_)|(go_at_call 115;refine qmm (bS _ _) ?_)|(go_at_call 117;refine qmm (eZ _ _) ?_)|(go_at_call 116;refine qmm (rG _ _ h0 G) ?_)|(go_at_call 118;refine qmm (ma _ _ G) ?_)|(go_at_call 119;refine qmm (mb _ _ h0 G) ?_)|(go_at_call 120;refine qmm (oI _ _) ?_))
   go_ret3
   exact⟨by rw[HW.out];rfl,rfl⟩
 ·skip
  have HW:=Lib.hid (show tokenT l=(8,2,0)from by rw[HT.out,if_neg HA.out,if_neg HL.out,if_neg HD.out,if_neg HQ.out,if_pos ⟨eL (m:=61) Z,h1,by rw[aR h1 HC1.out];exact eL (m:=61) h62⟩])
  go_wp2_with (first|(go_at_call 78;refine qmm (ec _ _) ?_)|(go_at_call 115;refine qmm (bS _ _) ?_)|(go_at_call 117;refine qmm (eZ _ _) ?_)|(go_at_call 116;refine qmm (rG _ _ h0 G) ?_)|(go_at_call 118;refine qmm (ma _ _ G) ?_)|(go_at_call 119;refine qmm (mb _ _ h0 G) ?_)|(go_at_call 120;refine qmm (oI _ _) ?_))
  go_ret3
  exact⟨by rw[HW.out];rfl,rfl⟩
def fm(l:List TokZ):List Value:=l.flatMap λt=>[.int .i64 t.kind,.string ⟨t.lead.toArray⟩,.string ⟨t.text.toArray⟩]
def xg(w:World)(v:Value)(l:List TokZ):Prop:=∃A c,v=.slice A l.length c∧l.length≤c∧c≤maxLen∧Row w 3 A l.length (fm l)
def ScanPost(l:List UInt8)(w:World)(e:Ending)(w':World):Prop:=
 ∃v,e=.returned (.tuple #[v,.string ⟨(kg l).tail.toArray⟩,.int .i64 ((kg l).place:Nat),.int .i64 ((kg l).err:Nat)])∧xg w' v (kg l).toks∧Ext w w'
theorem Ol:(prog.info? 92).map (λi=>(i.zero,i.size,i.bytes))=some (some (.agg #[.int .i64 0,.string ByteArray.empty,.string ByteArray.empty]),3,40):=by kernel_rfl
theorem DD(l:List TokZ)(t:TokZ):fm (l++[t])=fm l++[.int .i64 t.kind,.string ⟨t.lead.toArray⟩,.string ⟨t.text.toArray⟩]:=by simp[fm]
theorem Lf{w:World}{base:Nat}{v:Value}{l:List TokZ}(h:w.ownsRow base 92 3 v l.length (fm l)):xg w v l:=by
 obtain⟨A,c,rfl,G,J⟩:=KZ h;exact⟨A,c,rfl,G,J,Row.of_own h⟩
theorem yo(w:World):xg w (.slice none 0 0) []:=⟨none,0,rfl,Nat.le_refl _,Nat.zero_le _,Row.none_⟩
variable{l:List UInt8}
theorem GH{w:World}{v:Value}{r:Scanned}{tail:List UInt8}{p e:Int}(h:kg l=r)(ht:r.tail=tail)(G:(r.place:Int)=p)(J:(r.err:Int)=e)(hr:xg w' v r.toks)(hx:Ext w w'):
  ScanPost l w (.returned (.tuple #[v,.string ⟨tail.toArray⟩,.int .i64 p,.int .i64 e])) w':=by
 subst h;subst ht;subst G;subst J;exact⟨v,rfl,hr,hx⟩
theorem neI{m:Nat}(h:((n:Int)!=(m:Int))=false):n=m:=by simp at h;omega
theorem neT{m:Nat}(h:((n:Int)!=(m:Int))=true):¬n=m:=by simp at h;omega
def Ao(k:Nat):Option Nat→Int
 |none=>-1
 |some p=>((k+p:Nat):Int)
def Bc(l:List UInt8)(k:Nat)(w:World)(e:Ending)(w':World):Prop:=
 e=.returned (.tuple #[.int .i64 ((aW false (l.drop k) 0).1:Nat),.int .i64 (Ao k (aW false (l.drop k) 0).2)])∧w=w'
theorem Co{b:Option Nat}{w:World}{x y:Int}(h:aW false (l.drop k) 0=(n,b))(hx:x=n)(hy:y=Ao k b):Bc l k w (.returned (.tuple #[.int .i64 x,.int .i64 y])) w:=by
 subst hx;subst hy;unfold Bc;rw[h];exact⟨rfl,rfl⟩
set_option maxHeartbeats 2000000 in
theorem Nx(l:List UInt8)(x:Int)(k:Nat)(hxk:x=k)(w:World)(hk:k≤l.length)(hl:l.length≤281474976710656):Calls prog 174 #[.string ⟨l.toArray⟩,.int .i64 x] w (Bc l k w):=by
 subst hxk
 go_enter func174,ntmps174
 go_wp2_with (first|(go_at_call 170;refine qmm (lM _ _) ?_)|(go_at_call 185;refine qmm (bE _ _) ?_))
 go_loopg [6] (l.length-k) (λg n wx=>∃i:Nat,g=l.length-i∧wx=w∧k≤i∧i≤l.length∧n=.int .i64 i∧Hid (aW false (l.drop k) 0=aW false (l.drop i) (i-k)))
 case atStart=>exact⟨k,rfl,rfl,Nat.le_refl _,hk,rfl,Lib.hid (by congr 1;omega)⟩
 case round=>
  obtain⟨i,rfl,rfl,hki,hil,rfl,HL⟩:=hrel;by_cases hit:i<l.length
  rotate_left
  ·go_wp2_with (first|(go_at_call 170;refine qmm (lM _ _) ?_)|(go_at_call 185;refine qmm (bE _ _) ?_))
   go_ret2
   exact Co (n:=i-k) (b:=none) (by rw[HL.out,zc _ (by omega)]) (by omega) rfl
  obtain⟨c,hc⟩:∃c,({data:=l.toArray}:ByteArray)[i]'hit=c:=⟨_,rfl⟩;have HC:=Lib.hid (show l[i]=c from hc);cases hw:cN c
  rotate_left
  ·go_wp2_with (first|(go_at_call 170;refine qmm (lM _ _) ?_)|(go_at_call 185;refine qmm (bE _ _) ?_))
   go_roundg (l.length-(i+1))
   case measure=>omega
   case rel=>exact⟨i+1,rfl,rfl,by omega,by omega,by go_num,Lib.hid (by rw[HL.out,Gu hit HC.out hw];congr 1;omega)⟩
  cases h35:((c.toNat:Int)==35)
  ·go_wp2_with (first|(go_at_call 170;refine qmm (lM _ _) ?_)|(go_at_call 185;refine qmm (bE _ _) ?_))
   go_ret2
   exact Co (n:=i-k) (b:=none) (by rw[HL.out,Gw hit HC.out hw (cR (m:=35) h35)]) (by omega) rfl
  have HL2:=Lib.hid (HL.out.trans (IM (n:=i-k) hit HC.out (eL (m:=35) h35)));have HCI:=Lib.hid (eL (m:=35) h35)
  go_wp2_with (first|(go_at_call 170;refine qmm (lM _ _) ?_)|(go_at_call 185;refine qmm (bE _ _) ?_))
  clear HL;obtain⟨wo,rfl⟩:∃wo:World,wo=wr:=⟨_,rfl⟩
  go_loopg [6] (l.length-i) (λg n wx=>∃j:Nat,g=l.length-j∧wx=wo∧i≤j∧j≤l.length∧n=.int .i64 j∧Hid (aW false (l.drop k) 0=aW true (l.drop j) (j-k)))
  case atStart=>exact⟨i,rfl,rfl,Nat.le_refl _,by omega,rfl,HL2⟩
  case round=>
   obtain⟨j,rfl,rfl,hij,hjl,rfl,HL3⟩:=hrel;by_cases hjt:j<l.length
   rotate_left
   ·go_wp2_with (first|(go_at_call 170;refine qmm (lM _ _) ?_)|(go_at_call 185;refine qmm (bE _ _) ?_))
    go_roundg (l.length-j)
    case measure=>omega
    case rel=>exact⟨j,rfl,rfl,by omega,by omega,rfl,Lib.hid (by rw[HL3.out,zc _ (by omega),zc _ (by omega)])⟩
   obtain⟨d,hd⟩:∃c,({data:=l.toArray}:ByteArray)[j]'hjt=c:=⟨_,rfl⟩;have HD:=Lib.hid (show l[j]=d from hd);cases h10:((d.toNat:Int)!=10)
   ·have hne:i<j:=by
     rcases Nat.lt_or_ge i j with h|h
     ·exact h
     ·have :i=j:=by omega
      subst this;have h2:=HCI.out;have h3:c=d:=by rw[←HC.out,←HD.out]
      subst h3;simp[h2]at h10
    go_wp2_with (first|(go_at_call 170;refine qmm (lM _ _) ?_)|(go_at_call 185;refine qmm (bE _ _) ?_))
    go_roundg (l.length-j)
    case measure=>omega
    case rel=>exact⟨j,rfl,rfl,by omega,by omega,rfl,Lib.hid (by rw[HL3.out,JJ hjt HD.out (neI (m:=10) h10)])⟩
   cases ha:bk d
   ·go_wp2_with (first|(go_at_call 170;refine qmm (lM _ _) ?_)|(go_at_call 185;refine qmm (bE _ _) ?_))
    go_ret2
    exact Co (n:=j-k) (b:=some (j-k)) (by rw[HL3.out,Kc hjt HD.out (neT (m:=10) h10) ha]) (by omega) (by simp[Ao];omega)
   ·go_wp2_with (first|(go_at_call 170;refine qmm (lM _ _) ?_)|(go_at_call 185;refine qmm (bE _ _) ?_))
    go_roundg (l.length-(j+1))
    case measure=>omega
    case rel=>exact⟨j+1,rfl,rfl,by omega,by omega,by go_num,Lib.hid (by rw[HL3.out,Mz hjt HD.out (neT (m:=10) h10) ha];congr 1;omega)⟩
theorem sy:∀(b:Bool) (l:List UInt8) (n:Nat),(aW b l n).1≤n+l.length
 |_,[],n=>by simp[aW]
 | false,c::r,n=>by
  have h1:=sy false r (n+1);have h2:=sy true r (n+1);unfold aW;simp only[List.length_cons];split
  ·omega
  ·split
   ·omega
   ·simp
 | true,c::r,n=>by
  have h1:=sy false r (n+1);have h2:=sy true r (n+1);unfold aW;simp only[List.length_cons];split
  ·omega
  ·split
   ·simp
   ·omega
def Mw (l:List UInt8) (w:World) (Rs:Scanned) (g:Nat) (s6 s7:Value) (wx:World):Prop:=
  ∃ (p F:Nat) (acc:List TokZ),p≤l.length∧g=l.length-p∧s7=.int .i64 p∧acc.length≤p∧l.length-p<F∧
    scanT F (l.drop p) p acc=Rs∧wx.ownsRow w.heap.size 92 3 s6 acc.length (fm acc)∧Ext w wx
def ScanPost0(Rs:Scanned)(w:World)(e:Ending)(w':World):Prop:=
 ∃v,e=.returned (.tuple #[v,.string ⟨Rs.tail.toArray⟩,.int .i64 (Rs.place:Nat),.int .i64 (Rs.err:Nat)])∧xg w' v Rs.toks∧Ext w w'
theorem vi{Rs:Scanned}{w:World}{v:Value}{r:Scanned}{tail:List UInt8}{p e:Int}(h:Rs=r)(ht:r.tail=tail)(G:(r.place:Int)=p)(J:(r.err:Int)=e)(hr:xg w' v r.toks)(hx:Ext w w'):
  ScanPost0 Rs w (.returned (.tuple #[v,.string ⟨tail.toArray⟩,.int .i64 p,.int .i64 e])) w':=by
 subst h;subst ht;subst G;subst J;exact⟨v,rfl,hr,hx⟩
set_option maxHeartbeats 4000000 in
theorem Pt(l:List UInt8)(w:World)(hl:l.length≤4096):Calls prog 177 #[.string ⟨l.toArray⟩] w (ScanPost0 (scanT (l.length+1) l 0 []) w):=by
 obtain⟨Rs,hR⟩:∃Rs,scanT (l.length+1) l 0 []=Rs:=⟨_,rfl⟩;rw[hR];have H0:=Lib.hid (show scanT (l.length+1) (l.drop 0) 0 []=Rs from by rw[←hR];simp);clear hR;have hx:=AD;have hx2:=tF
 go_enter func177,ntmps177
 go_wp2_with fail
 go_loopg [6,7] l.length (λg s6 s7 wx=>Mw l w Rs g s6 s7 wx)
 case atStart=>exact⟨0,l.length+1,[],Nat.zero_le _,by omega,rfl,Nat.le_refl _,by omega,H0.out,World.ownsRow_nil _ _ _ _,Ext.refl _⟩
 case round=>
  obtain⟨p,F,acc,hpl,rfl,rfl,hacc,hF,hscan,hown,hext⟩:=hrel;have HSc:=Lib.hid hscan;clear hscan;have HO:=Lib.hid hown;clear hown;have HE:=Lib.hid hext;clear hext;obtain⟨F',rfl⟩:∃F',F=F'+1:=⟨F-1,by omega⟩;obtain⟨n,b,hLd⟩:∃n b,aW false (l.drop p) 0=(n,b):=⟨_,_,rfl⟩;have hnl:p+n≤l.length:=by have h:=sy false (l.drop p) 0;rw[hLd]at h;simp at h;omega
  have HLd:=Lib.hid hLd;clear hLd
  go_wp2_with fail
  refine(Nx _ _ p rfl _ hpl (by omega)).mono ?_;rintro e w' ⟨rfl,rfl⟩;rw[HLd.out];cases b with
  |some q=>
   have hq:(0:Int)≤((p+q:Nat):Int):=by omega
   have hq2:Ao p (some q)=((p+q:Nat):Int):=rfl;rw[hq2];generalize hz:((p+q:Nat):Int)=z at *;have HZ:=Lib.hid hz;clear hz hq2
   go_wp2
   exact bodyPost_ret (v:=.tuple #[.slice none 0 0,.string ⟨([]:List UInt8).toArray⟩,.int .i64 z,.int .i64 1]) (by simp[results,results177,go_sem]) rfl (vi (r:=⟨[],[],p+q,1⟩) (HSc.out.symm.trans (Ko HLd.out)) rfl (by rw[HZ.out]) rfl (yo _) HE.out)
  | none=>
   have hq2:Ao p none=-1:=rfl;rw[hq2];clear hq2;obtain⟨E,hE⟩:∃E,p+n=E:=⟨_,rfl⟩;have hE1:(p:Int)+n=(E:Nat):=by omega
   have hE2:E-p=n:=by omega
   have HEE:=Lib.hid hE;have hpE:p≤E:=by omega
   have hEl:E≤l.length:=by omega
   clear hE hnl;by_cases hend:E=l.length
   ·have hendb:((E:Int)==(l.length:Int))=true:=by simp;omega
    have hb0:(0:Int)≤(p:Int):=by omega
    have hb1:(p:Int)≤(l.length:Int):=by omega
    have HEnd:=Lib.hid hend;clear hend
    go_wp2
    go_quiet (fail)
    go_wp2
    exact bodyPost_ret (v:=.tuple #[u6,.string ⟨(l.drop p).toArray⟩,.int .i64 0,.int .i64 0]) (by simp[results,results177,go_sem]) rfl (vi (r:=⟨acc,l.drop p,0,0⟩) (HSc.out.symm.trans (KE HLd.out (by have :=HEnd.out;have :=HEE.out;simp;omega))) rfl rfl rfl (Lf HO.out) (Ext.drewN HE.out _))
   ·have hEt:E<l.length:=by omega
    have hendb:((E:Int)==(l.length:Int))=false:=by simp;omega
    clear hend;obtain⟨kd,m,e,hT⟩:∃kd m e,tokenT (l.drop E)=(kd,m,e):=⟨_,_,_,rfl⟩;have hlen:=IB (l:=l.drop E) (by simp;omega);rw[hT]at hlen;simp only[List.length_drop]at hlen;obtain⟨hm1,hm2⟩:=hlen;have HM:=Lib.hid hm2;clear hm2;have HT:=Lib.hid hT;clear hT;have HDp:=Lib.hid (show(l.drop p).drop n=l.drop E from by rw[List.drop_drop,HEE.out]);have CN:=Lib.hid (λw=>Ng l (E:Nat) E rfl w hEt (by omega));have HnE:=Lib.hid (show¬n=(l.drop p).length from by have :=HEE.out;simp;omega)
    go_wp2_with fail
    refine(CN.out _).mono ?_;rintro e0 w1 ⟨rfl,hext1⟩;rw[HT.out];by_cases he:e=0
    rotate_left
    ·have HI:=Lib.hid (show qm E (kd,m,e)=.agg #[.int .i64 0,.int .i64 0,.int .i64 e,.int .i64 ((E+m:Nat):Int)]from by simp[qm,he]);rw[HI.out];have heb:((e:Int)!=0)=true:=by simp;omega
     have HX1:=Lib.hid (HE.out.trans hext1);clear hext1;generalize hz:((E+m:Nat):Int)=z at *;have HZ:=Lib.hid hz;clear hz;clear HI
     go_wp2
     go_quiet (fail)
     go_wp2
     exact bodyPost_ret (v:=.tuple #[.slice none 0 0,.string ⟨([]:List UInt8).toArray⟩,.int .i64 z,.int .i64 e]) (by simp[results,results177,go_sem]) rfl (vi (r:=⟨[],[],p+n+m,e⟩) (HSc.out.symm.trans (KI HLd.out HnE.out (by rw[HDp.out];exact HT.out) he)) rfl (by rw[←HZ.out];have :=HEE.out;simp;omega) rfl (yo _) (Ext.drewN (HX1.out.alloc _) _))
    ·subst he;have HI:=Lib.hid (show qm E (kd,m,0)=.agg #[.int .i64 m,.int .i64 kd,.int .i64 0,.int .i64 0]from by simp[qm]);rw[HI.out];have hmp:0<m:=HM.out rfl;have hown:=NM HO.out hext1;have hx1:=hext1.size;have hsz:=HE.out.size;have HX1:=Lib.hid (HE.out.trans hext1);have hne:∀k,u6.ownBlock=some k→k<wr.heap.size:=λk hk=>(HO.out.lt k hk).2;have hneB:u6.ownBlock≠some w1.heap.size:=λh=>by have :=hne _ h;omega
     clear hext1 HI CN HM
     go_wp2
     obtain⟨W2,hW2⟩:∃W2,w1.alloc (.cells #[.int .i64 m,.int .i64 kd,.int .i64 0,.int .i64 0] 189)=W2:=⟨_,rfl⟩;rw[hW2];have hc0:W2.cell? ⟨w1.heap.size,0,none⟩=some (.int .i64 m):=by rw[←hW2];simp
     have hc1:W2.cell? ⟨w1.heap.size,1,none⟩=some (.int .i64 kd):=by rw[←hW2];simp
     have hown2:W2.ownsRow w.heap.size 92 3 u6 acc.length (fm acc):=by rw[←hW2];exact hown.alloc _
     have hBW:w1.heap.size<W2.heap.size:=by rw[←hW2];simp
     have HX2:=Lib.hid (show Ext w W2 from by rw[←hW2];exact HX1.out.alloc _);obtain⟨B,hB⟩:∃B,w1.heap.size=B:=⟨_,rfl⟩;have hwB:w.heap.size≤B:=by omega
     rw[hB]at hc0 hc1 hBW hneB;rw[hB];clear hW2 hB hown hne hx1 hsz HX1 HE HO;have hb0:(0:Int)≤(p:Int):=by omega
     have hb1:(p:Int)≤(E:Int):=by omega
     have hb2:(E:Int)≤(l.length:Int):=by omega
     have hb3:(E:Int)+m≤(l.length:Int):=by omega
     have hb4:(E:Int)≤(E:Int)+m:=by omega
     have hwr0:IntKind.i64.wrap (E:Int)=(E:Int):=IntWalk.i64_in _ (by omega);have hwr:IntKind.i64.wrap ((E:Int)+m)=(E:Int)+m:=IntWalk.i64_in _ (by omega);have hb5:(0:Int)≤(E:Int)+m:=by omega
     have hb6:((E:Int)+m).toNat=E+m:=by omega
     have hsz2:(acc.length+1)*40≤140737488355328:=by omega
     have hsz3:acc.length+1≤maxLen:=by unfold maxLen;omega
     have hbs:w.heap.size≤W2.heap.size:=by omega
     obtain⟨i0,hi0,hz0,hz1,hz2⟩:=Gr Ol
     go_region_held3 (λw'=>w'.cell? ⟨B,0,none⟩=some (.int .i64 m)∧w'.cell? ⟨B,1,none⟩=some (.int .i64 kd))
      (first|go_keep|(go_split_ands;refine⟨?_,?_⟩<;>(rw[hgrow.cell_far _ (by simp;omega) (Ne.symm hneB)];simp[*])))
      ((refine step_append_lies _ (by rfl) _ _ _ (by rfl) w.heap.size 92 i0 _ 3 40 underlying85 hi0 hz0 hz1 hz2 rfl (by omega) u6 acc.length (fm acc) (by rfl) ((hown2.alloc _).drew) ⟨W2.heap.size,0,none⟩ 1 1 [.int .i64 kd,.string ⟨((l.drop p).take n).toArray⟩,.string ⟨((l.drop E).take m).toArray⟩] (by rfl) (by rfl) (World.news_of_block (cs:=#[.int .i64 kd,.string ⟨((l.drop p).take n).toArray⟩,.string ⟨((l.drop E).take m).toArray⟩]) (t:=92) (fr:=(0,0)) (heap_alloc_new W2 _)) (by simp[Value.oneCell']) (by omega) hsz3 hsz2 (by simp;omega) (W2.heap.size+1) (by simp) ?_;intro gg cap w3 hown3 hgrow hat hlt3))
     have hc03:w3.cell? ⟨B,0,none⟩=some (.int .i64 m):=by rename_i hh;exact hh.1
     have HX:=Lib.hid (((HX2.out.alloc _).drew).grown hgrow (λk hk=>(hown2.lt k hk).1));have HO1:=Lib.hid (show w3.ownsRow w.heap.size 92 3 (.slice (some ⟨gg,0,none⟩) (acc.length+1) cap) (acc++[TokZ.mk kd ((l.drop p).take n) ((l.drop E).take m)]).length (fm (acc++[TokZ.mk kd ((l.drop p).take n) ((l.drop E).take m)]))from by
      rw[DD,List.length_append];exact hown3)
     clear hown3 hgrow hat hown2 hsz2 hsz3 hi0 hz0 hz1 hz2 hwr hwr0 hb6 hc0 hc1
     go_wp2
     go_roundg (l.length-(E+m))
     case measure=>omega
     case rel=>
      refine⟨E+m,F',acc++[TokZ.mk kd ((l.drop p).take n) ((l.drop E).take m)],by omega,rfl,by go_num,by simp;omega,by omega,?_,HO1.out,HX.out⟩;rw[←HSc.out,KW HLd.out HnE.out (by rw[HDp.out];exact HT.out),HDp.out,List.drop_drop,←HEE.out]
      congr 2<;>omega
theorem RH(l:List UInt8)(w:World)(hl:l.length≤281474976710656):Calls prog 154 #[.string ⟨l.toArray⟩] w (ScanPost l w):=by
 by_cases h4:4096<l.length
 ·have HS:=Lib.hid (show kg l=⟨[],[],4096,3⟩from by simp[kg,h4])
  go_enter func154,ntmps154
  go_wp2
  exact bodyPost_ret (v:=.tuple #[.slice none 0 0,.string ⟨([]:List UInt8).toArray⟩,.int .i64 4096,.int .i64 3]) (by simp[results,results154,go_sem]) rfl (GH HS.out rfl rfl rfl (yo _) (Ext.refl _))
 ·have HS:=Lib.hid (show kg l=scanT (l.length+1) l 0 []from by simp[kg,h4])
  go_enter func154,ntmps154
  go_wp2_with fail
  refine(Pt _ _ (by omega)).mono ?_;rintro e w' ⟨v,rfl,U,G⟩;obtain⟨A,c,rfl,O,Z,J⟩:=U;have HR:=Lib.hid J;clear J;have HX:=Lib.hid G;clear G;rw[←HS.out]at HR O⊢
  go_wp2
  exact bodyPost_ret (v:=.tuple #[.slice A (kg l).toks.length c,.string ⟨(kg l).tail.toArray⟩,.int .i64 ((kg l).place:Nat),.int .i64 ((kg l).err:Nat)]) (by simp[results,results154,go_sem]) rfl ⟨_,rfl,⟨A,c,rfl,O,Z,HR.out⟩,HX.out⟩
theorem Ai:∀(l:List TokZ) (k:Nat) (h:k<l.length),(fm l)[k*3]?=some (.int .i64 l[k].kind)∧(fm l)[k*3+1]?=some (.string ⟨l[k].lead.toArray⟩)∧(fm l)[k*3+2]?=some (.string ⟨l[k].text.toArray⟩)
 |t::l,0,_=>⟨rfl,rfl,rfl⟩
 | t::l,k+1,h=>by
  have ih:=Ai l k (by simpa using h);have e:fm (t::l)=[.int .i64 t.kind,.string ⟨t.lead.toArray⟩,.string ⟨t.text.toArray⟩]++fm l:=rfl;rw[e];refine⟨?_,?_,?_⟩
  ·rw[List.getElem?_append_right (by simp;omega)];simpa[Nat.succ_mul]using ih.1
  ·rw[List.getElem?_append_right (by simp;omega)];have :(k+1)*3+1-3=k*3+1:=by omega
   simpa[this]using ih.2.1
  ·rw[List.getElem?_append_right (by simp;omega)];have :(k+1)*3+2-3=k*3+2:=by omega
   simpa[this]using ih.2.2
theorem Dl{w:World}{A:Option Addr}{l:List TokZ}(h:Row w 3 A l.length (fm l))(J:k<l.length):
  ∃b off,A=some ⟨b,off,none⟩∧b<w.heap.size∧w.cell? ⟨b,off+k*3,none⟩=some (.int .i64 l[k].kind)∧w.cell? ⟨b,off+k*3+1,none⟩=some (.string ⟨l[k].lead.toArray⟩)∧w.cell? ⟨b,off+k*3+2,none⟩=some (.string ⟨l[k].text.toArray⟩):=by
 obtain⟨b,off,rfl,hb,G⟩:=h.2 (by omega);obtain⟨O,h1,h2⟩:=Ai l k J;refine⟨b,off,rfl,hb,?_,?_,?_⟩
 ·rw[G _ (by omega),O]
 ·rw[Nat.add_assoc,G _ (by omega),h1]
 ·rw[Nat.add_assoc,G _ (by omega),h2]
set_option maxHeartbeats 1000000 in
theorem Qw(l:List UInt8)(w:World)(hl:l.length≤281474976710656):Calls prog 126 #[.string ⟨l.toArray⟩] w λe w'=>e=.returned (.int .i64 (bJ l:Nat))∧w=w':=by
 by_cases G:l=[]
 ·subst G
  go_enter func126,ntmps126
  go_wp2
  go_ret
  exact⟨rfl,rfl⟩
 ·have hb1:(l==[])=false:=by simpa using G
  have hb2:l.isEmpty=false:=by simpa using G
  have J:0<l.length:=List.length_pos_iff.2 G;obtain⟨k,n,e,U⟩:∃k n e,tokenT l=(k,n,e):=⟨_,_,_,rfl⟩;have HT:=Lib.hid U;have HC:=Lib.hid (show bJ l=if e=0∧n=l.length then k else 0 from by simp only[bJ,if_neg G,U]);clear U G
  go_enter func126,ntmps126
  go_wp2_with fail
  refine(Pr _ _ J hl).mono ?_;rintro e0 w' ⟨rfl,rfl⟩;rw[HT.out];by_cases he:e=0
  ·subst he;by_cases O:n=l.length
   ·have Z:((n:Int)!=(l.length:Int))=false:=by simp;omega
    have HR:=Lib.hid (HC.out.trans (if_pos ⟨rfl,O⟩));clear O
    go_wp2
    go_ret
    exact⟨bU (by rw[HR.out]),rfl⟩
   ·have Z:((n:Int)!=(l.length:Int))=true:=by simp;omega
    have HR:=Lib.hid (HC.out.trans (if_neg (λh=>O h.2)));clear O
    go_wp2
    go_ret
    exact⟨bU (by rw[HR.out];rfl),rfl⟩
  ·have heb:((e:Int)!=0)=true:=by simp;omega
   have HR:=Lib.hid (HC.out.trans (if_neg (λh=>he h.1)))
   go_wp2
   go_ret
   exact⟨bU (by rw[HR.out];rfl),rfl⟩
theorem zh{c:UInt8}(G:0<l.length)(J:l[0]=c)(h:cN c=true∨c.toNat=35):tokenT l=(0,0,2):=by
 have hv:c.toNat=9∨c.toNat=10∨c.toNat=13∨c.toNat=32∨c.toNat=35:=by
  rcases h with h|h
  ·simp[cN]at h;omega
  ·omega
 have O:bk c=true:=by
  rcases hv with h|h|h|h|h<;>simp[bk,cN,fk,h]
 have hs:sY.contains c=false:=by
  have h:∀n:UInt8,(c==n)=(c.toNat==n.toNat):=λn=>by rw[Bool.eq_iff_iff];simp[UInt8.toNat_inj]
  simp only[sY,List.contains_cons,List.contains_nil,Bool.or_false,h];rcases hv with h|h|h|h|h<;>rw[h]<;>rfl
 rw[zk G J,if_neg (by simp[O]),if_neg (by simp[bM,dm,upperB];omega),if_neg (by simp[cf];omega),if_neg (by omega),if_neg (by omega),if_neg (by rw[hs];simp)]
set_option maxHeartbeats 1000000 in
theorem Fx(l:List UInt8)(w:World)(hl:l.length≤281474976710656):Calls prog 139 #[.string ⟨l.toArray⟩] w λe w'=>e=.returned (.int .i64 (bJ l:Nat))∧Ext w w':=by
 by_cases J:l=[]
 ·subst J
  go_enter func139,ntmps139
  go_wp2
  go_ret
  exact⟨rfl,Ext.refl _⟩
 ·have hb1:(l==[])=false:=by simpa using J
  have hb2:l.isEmpty=false:=by simpa using J
  have hpos:0<l.length:=List.length_pos_iff.2 J;obtain⟨k,n,e,Z⟩:∃k n e,tokenT l=(k,n,e):=⟨_,_,_,rfl⟩;have HT:=Lib.hid Z;have HC:=Lib.hid (show bJ l=if e=0∧n=l.length then k else 0 from by simp only[bJ,if_neg J,Z]);clear Z J;obtain⟨c,hc⟩:∃c,({data:=l.toArray}:ByteArray)[0]'hpos=c:=⟨_,rfl⟩;have HC0:=Lib.hid (show l[0]=c from hc);cases hw:cN c
  rotate_left
  ·have O:(k,n,e)=(0,0,2):=HT.out.symm.trans (zh hpos HC0.out (.inl hw));have HR:=Lib.hid (show bJ l=0 from by simp only[Prod.mk.injEq]at O;rw[HC.out,if_neg (by omega)]);clear O
   go_enter func139,ntmps139
   go_wp2_with (first|(go_at_call 170;refine qmm (lM _ _) ?_))
   go_ret
   exact⟨bU (by rw[HR.out];rfl),Ext.refl _⟩
  cases h35:((c.toNat:Int)==35)
  rotate_left
  ·have O:(k,n,e)=(0,0,2):=HT.out.symm.trans (zh hpos HC0.out (.inr (eL (m:=35) h35)));have HR:=Lib.hid (show bJ l=0 from by simp only[Prod.mk.injEq]at O;rw[HC.out,if_neg (by omega)]);clear O
   go_enter func139,ntmps139
   go_wp2_with (first|(go_at_call 170;refine qmm (lM _ _) ?_))
   go_ret
   exact⟨bU (by rw[HR.out];rfl),Ext.refl _⟩
  have CN:=Lib.hid (λw=>Ng l 0 0 rfl w hpos hl)
  go_enter func139,ntmps139
  go_wp2_with (first|(go_at_call 170;refine qmm (lM _ _) ?_))
  refine(CN.out _).mono ?_;rintro e0 w1 ⟨rfl,G⟩;rw[List.drop_zero,HT.out];have HX:=Lib.hid G;clear G CN;by_cases he:e=0
  ·subst he;have HI:=Lib.hid (show qm 0 (k,n,0)=.agg #[.int .i64 n,.int .i64 k,.int .i64 0,.int .i64 0]from by simp[qm]);rw[HI.out];clear HI;by_cases U:n=l.length
   ·have hnb:((n:Int)!=(l.length:Int))=false:=by simp;omega
    have HR:=Lib.hid (HC.out.trans (if_pos ⟨rfl,U⟩));clear U
    go_wp2
    go_ret
    exact⟨bU (by rw[HR.out]),HX.out.alloc _⟩
   ·have hnb:((n:Int)!=(l.length:Int))=true:=by simp;omega
    have HR:=Lib.hid (HC.out.trans (if_neg (λh=>U h.2)));clear U
    go_wp2
    go_ret
    exact⟨bU (by rw[HR.out];rfl),HX.out.alloc _⟩
  ·have HI:=Lib.hid (show qm 0 (k,n,e)=.agg #[.int .i64 0,.int .i64 0,.int .i64 e,.int .i64 ((0+n:Nat):Int)]from by simp[qm,he]);rw[HI.out];clear HI;have heb:((e:Int)!=0)=true:=by simp;omega
   have HR:=Lib.hid (HC.out.trans (if_neg (λh=>he h.1)))
   go_wp2
   go_ret
   exact⟨bU (by rw[HR.out];rfl),HX.out.alloc _⟩
open Go.RowKit Lx Sx
theorem sum0_calls{fid:FuncId}{us:List V}{v:V}(G:pureL us=true)(J:v.pure=true)(h:∀(S:Nat→Prop) w ρ xs,LRel S w ρ us xs→Calls prog fid xs.toArray w λe w'=>∃x,e=.returned x∧VRel S w' ρ v x∧Chg [] w w'):sF prog fid us v:=
 ⟨G,J,λS w ρ xs hr hx=>(h S w ρ xs hx).mono λe w' ⟨x,h1,h2,O⟩=>
  ⟨x,S,ρ,v,_,h1,rfl,hr.chg0 O,⟨ChgP.of0 O,λ_ h=>h,λ_ h=>.inl h,λid b hb=>.inl ⟨id,hb⟩,λid x h=>by
   simp only[wi]at h;split at h
   ·exact h
   ·cases h⟩,h2⟩⟩
theorem HJ{w:World}(h:Ext w w'):Chg [] w w':=Chg.of_ext h []
theorem Pc(l:List UInt8)(G:l.length≤281474976710656):sF prog 126 [.str l] (.int .i64 (bJ l:Nat)):=
 sum0_calls rfl rfl λS w ρ xs hx=>by
  simp only[LRel]at hx;obtain⟨x,ys,rfl,h1,rfl⟩:=hx;simp only[VRel]at h1;subst h1;exact(Qw l w G).mono λe w' ⟨h1,h2⟩=>⟨_,h1,by simp only[VRel],h2▸Chg.refl _ _⟩
theorem LN(l:List UInt8)(G:l.length≤281474976710656):sF prog 139 [.str l] (.int .i64 (bJ l:Nat)):=
 sum0_calls rfl rfl λS w ρ xs hx=>by
  simp only[LRel]at hx;obtain⟨x,ys,rfl,h1,rfl⟩:=hx;simp only[VRel]at h1;subst h1;exact(Fx l w G).mono λe w' ⟨h1,h2⟩=>⟨_,h1,by simp only[VRel],HJ h2⟩
def fp:List (List UInt8)→Nat
 |[]=>0
 |l::r=>l.length+1+fp r
mutual
def tbulk:Tree→Nat
 |.node _ s ls ks=>s.length+fp ls+kbulk ks+1
def kbulk:List Tree→Nat
 |[]=>0
 |t::r=>tbulk t+kbulk r
end
theorem bV(t:Tree):0<tbulk t:=by cases t;simp only[tbulk];omega
theorem gw:∀(ks:List Tree),ks.length≤kbulk ks
 |[]=>Nat.le_refl _
 |t::r=>by have :=gw r;have :=bV t;simp only[kbulk,List.length_cons];omega
theorem bt:∀{ks:List Tree} {i:Nat} {t:Tree},ks[i]?=some t→tbulk t≤kbulk ks
 |[],i,t,h=>by simp at h
 |u::r,0,t,h=>by simp only[List.getElem?_cons_zero,Option.some.injEq]at h;subst h;simp only[kbulk];omega
 |u::r,i+1,t,h=>by have :=bt (ks:=r) (i:=i) (by simpa using h);simp only[kbulk];omega
theorem ik:∀(a b:List Tree),kbulk (a++b)=kbulk a+kbulk b
 |[],b=>by simp[kbulk]
 |t::r,b=>by simp only[List.cons_append,kbulk,ik r b];omega
theorem Bj:∀(l:List (List UInt8)),l.length≤fp l
 |[]=>Nat.le_refl _
 |x::r=>by have :=Bj r;simp only[fp,List.length_cons];omega
theorem AE:∀{l:List (List UInt8)} {i:Nat} {x:List UInt8},l[i]?=some x→x.length+1≤fp l
 |[],i,x,h=>by simp at h
 |u::r,0,x,h=>by simp only[List.getElem?_cons_zero,Option.some.injEq]at h;subst h;simp only[fp];omega
 |u::r,i+1,x,h=>by have :=AE (l:=r) (i:=i) (by simpa using h);simp only[fp];omega
theorem aV(t:Tree):tbulk t=t.text.length+fp t.leads+kbulk t.kids+1:=by cases t;simp[tbulk,Tree.text,Tree.leads,Tree.kids]
variable{t u:Tree}{i:Nat}
theorem aF(h:t.kids[i]?=some u):tbulk u<tbulk t:=by
 have :=bt h;rw[aV t];omega
theorem bB(t:Tree):t.kids.length<tbulk t:=by
 have :=gw t.kids;rw[aV t];omega
theorem cx(t:Tree):t.text.length<tbulk t:=by rw[aV t];omega
theorem Dr(t:Tree):t.leads.length<tbulk t:=by
 have :=Bj t.leads;rw[aV t];omega
theorem dZ{C:Tree→Prop}(h:∀t:Tree,(∀(i:Nat) (u:Tree),t.kids[i]?=some u→C u)→C t):∀t,C t:=λt=>by
 have :∀n t,tbulk t≤n→C t:=λn=>by
  induction n with
  |zero=>intro t ht;have :=bV t;omega
  |succ n ih=>intro t ht;exact h t λi u G=>ih u (by have :=aF G;omega)
 exact this _ t (Nat.le_refl _)
theorem be{α:Type}(l:List α)(i:Nat):(∃x,l[i]?=some x∧i<l.length)∨(¬i<l.length):=by
 by_cases h:i<l.length
 ·exact .inl ⟨l[i],by simp[h],h⟩
 ·exact .inr h
theorem aU{α:Type}{l:List α}{x:α}(h:l[i]?=some x):l.drop i=x::l.drop (i+1):=by
 obtain⟨G,rfl⟩:=List.getElem?_eq_some_iff.1 h;exact List.drop_eq_getElem_cons G
set_option maxHeartbeats 1000000
def f0(n:Int)(least leads list:Nat)(most:Int):Int:=if 0≤most∧most<n then-1 else if n<least then-1 else if most<0∧(list:Int)<n then leads+(n-list-1)else leads
def eK(k n:Int):Int:=if k=1 then(if n<0 then-1 else 3)else if k=2 then f0 n 2 6 2 (-1)else if k=16 then f0 n 0 3 0 (-1)else if k=18 then f0 n 1 2 0 (-1)else if k=3 then f0 n 1 3 0 1 else if k=4 then f0 n 1 2 0 1 else if k=8 then f0 n 1 2 0 1 else if k=22 then f0 n 1 2 0 1 else if k=17 then f0 n 1 0 0 1 else if k=19 then f0 n 3 3 0 3 else if k=20 then f0 n 2 4 0 2 else if k=21 then f0 n 2 1 0 2 else if k=5∨k=6∨k=7∨k=9∨k=10∨k=11∨k=12∨k=13∨k=14∨k=15 then f0 n 0 1 0 0 else-1
theorem vR(a b c:Int):hW a b c (if a<b then-1 else c):=Ag 0 _ _ _ _ ⟨λh=>by rw[if_pos h],λh=>by rw[if_neg h]⟩
theorem PK(a b c:Int):cW a b c (if a=b then c else-1):=yI 0 _ _ _ _ ⟨λh=>by rw[if_pos h],λh=>by rw[if_neg h]⟩
theorem QR(m:Nat){n:Int}(J:0≤n)(h1:n≤1000000000)(a b c:Nat)(z:Int)(hb:b≤10)(O:c≤2)(G:¬(0≤z∧z<n)):nI (m+1) n a b c z (f0 n a b c z):=by
 refine Ap m _ _ _ _ _ _ ⟨λh=>⟨λh'=>⟨by omega,by omega,by omega,_,vR _ _ _,?_⟩,λh'=>⟨_,vR _ _ _,?_⟩⟩,λh=>⟨_,vR _ _ _,?_⟩⟩
 ·simp only[f0,if_neg G,h,h',true_and,if_true]
 ·simp only[f0,if_neg G,h,h',true_and,if_false]
 ·simp only[f0,if_neg G,h,false_and,if_false]
theorem PT(m:Nat){n:Int}(G:0≤n)(h1:n≤1000000000)(a b c:Nat)(z:Int)(hb:b≤10)(J:c≤2):aT (m+2) n a b c z (f0 n a b c z):=by
 refine AZ (m+1) _ _ _ _ _ _ ⟨λh=>⟨λh'=>?_,λh'=>QR m G h1 _ _ _ _ hb J (by omega)⟩,λh=>QR m G h1 _ _ _ _ hb J (by omega)⟩;simp[f0,h,h']
theorem OY{k n:Int}(O:0≤n)(h1:n≤1000000000):sw k n (eK k n):=by
 have U:∀{r:Int} (a b c:Nat) (z:Int),b≤10→c≤2→r=f0 n a b c z→aT 3 n a b c z r:=λa b c z hb G e=>by rw[e];exact PT 1 O h1 a b c z hb G
 have J:∀{r:Int} (a b c:Nat) (z:Int),b≤10→c≤2→r=f0 n a b c z→aT 4 n a b c z r:=λa b c z hb G e=>by rw[e];exact PT 2 O h1 a b c z hb G
 refine BW 4 _ _ _ ?_
 repeat' first|(refine⟨_,vR _ _ _,?_⟩)|(refine And.intro (λ_=>?_) (λ_=>?_))|(refine Au 3 _ _ _ _ ?_)
 all_goals first|(refine J _ _ _ _ (by decide) (by decide) ?_)|(refine U _ _ _ _ (by decide) (by decide) ?_)|skip
 all_goals simp_all[eK]
theorem xr{k n:Int}(G:0≤n)(h1:n≤1000000000):gX k n (eK k n):=by
 refine yh 2 _ _ _ ?_
 repeat' first|(refine⟨_,PK _ _ _,?_⟩)|(refine And.intro (λ_=>?_) (λ_=>?_))|(refine wV 1 _ _ _ _ ?_)|(refine xh 0 _ _ _ _ ?_)|(refine And.intro (by omega) ?_)
 all_goals simp_all[eK]
 all_goals (try unfold f0)
 all_goals (repeat' split)
 all_goals omega
def BT(x:List UInt8):Bool:=x==[43]||x==[45]||x==[42]||x==[60]||x==[61,61]
def oW(k:Int)(x:List UInt8):Bool:=if k=1∨k=3 then(bJ x:Int)==2 else if k=2∨k=4∨k=12∨k=20 then(bJ x:Int)==1 else if k=9 then(bJ x:Int)==2||(bJ x:Int)==4 else if k=16 then(bJ x:Int)==1||(bJ x:Int)==3 else if k=10 then(bJ x:Int)==5 else if k=11 then(bJ x:Int)==6 else if k=21 then BT x else x==[]
theorem IK(x:List UInt8):pF x (BT x):=by
 refine zo 0 _ _ ?_
 repeat' (refine And.intro (λ_=>?_) (λ_=>?_))
 all_goals simp_all[BT]
theorem GN(x:List UInt8):jM x (BT x):=by
 refine uu 0 _ _ ?_
 repeat' (refine And.intro (λ_=>?_) (λ_=>?_))
 all_goals simp_all[BT]
theorem Md(k:Int)(x:List UInt8)(hx:x.length≤281474976710656):rH k x (oW k x):=by
 refine AA 2 _ _ _ ?_;refine⟨_,Pc x hx,?_⟩
 repeat' first|(refine⟨_,IK _,?_⟩)|(refine And.intro (λ_=>?_) (λ_=>?_))|(refine zY 1 _ _ _ _ _ ?_)|(refine zZ 0 _ _ _ _ _ ?_)
 all_goals simp_all[oW]
theorem Lu(k:Int)(x:List UInt8)(hx:x.length≤281474976710656):lc k x (oW k x):=by
 refine vu 2 _ _ _ ?_;refine⟨_,LN x hx,?_⟩
 repeat' first|(refine⟨_,GN _,?_⟩)|(refine And.intro (λ_=>?_) (λ_=>?_))|(refine vk 1 _ _ _ _ _ ?_)|(refine uT 0 _ _ _ _ _ ?_)
 all_goals simp_all[oW]
def jr(k:Int):Bool:=decide (5≤k∧k≤9)
def ia(k:Int):Bool:=decide (10≤k∧k≤22∧k≠17)
def yp(k:Int):Bool:=ia k&&decide (k≠19∧k≠20∧k≠21)
theorem LM(k:Int):nN k (jr k):=AK 0 _ _ ⟨λh=>by simp[jr,h],λh=>by simp[jr,h]⟩
theorem Kt(k:Int):jf k (jr k):=wY 0 _ _ ⟨λh=>by simp[jr,h],λh=>by simp[jr,h]⟩
theorem zV(a b:Int):(a !=b)=decide (a≠b):=by by_cases h:a=b<;>simp[h]
theorem Es(k:Int):fF k (ia k):=wh 0 _ _ ⟨λh=>⟨λh'=>by simp[ia,h,h',zV],λh'=>by simp[ia,h,h']⟩,λh=>by simp[ia,h]⟩
theorem CQ(k:Int):fZ k (ia k):=wO 0 _ _ ⟨λh=>⟨λh'=>by simp[ia,h,h',zV],λh'=>by simp[ia,h,h']⟩,λh=>by simp[ia,h]⟩
theorem Nb(k:Int):rn k (yp k):=by
 refine As 0 _ _ ⟨_,Es k,?_⟩
 repeat' (refine And.intro (λ_=>?_) (λ_=>?_))
 all_goals simp_all[yp,zV]
theorem ze(k:Int):iY k (yp k):=by
 refine xf 0 _ _ ⟨_,CQ k,?_⟩
 repeat' (refine And.intro (λ_=>?_) (λ_=>?_))
 all_goals simp_all[yp,zV]
def iX(k n:Int)(i:Int)(kk:Int):Bool:=if k=1 then kk==2||kk==3 else if k=2 then(if i=n-1 then ia kk else if i=n-2 then jr kk else kk==4)else if k=3∨k=4∨k=8 then jr kk else if k=16 then kk==17 else if k=21 then yp kk||(decide (i=0)&&kk==21)else ia kk
theorem OF(G:t.kids[i]?=some u):sP t i (iX t.kind t.kids.length i u.kind):=by
 refine BO 1 _ _ _ ⟨i,rfl,u,G,?_⟩
 repeat' first|(refine⟨_,Es _,?_⟩)|(refine⟨_,LM _,?_⟩)|(refine⟨_,Nb _,?_⟩)|(refine And.intro (λ_=>?_) (λ_=>?_))|(refine Az 0 _ _ _ _ _ ?_)
 all_goals simp_all[iX]
theorem Ro(t:Tree)(i:Nat)(kk:Int):pL t i kk (iX t.kind t.kids.length i kk):=by
 refine yR 1 _ _ _ _ ?_
 repeat' first|(refine⟨_,CQ _,?_⟩)|(refine⟨_,Kt _,?_⟩)|(refine⟨_,ze _,?_⟩)|(refine And.intro (λ_=>?_) (λ_=>?_))|(refine yF 0 _ _ _ _ _ ?_)
 all_goals simp_all[iX]
mutual
def shapeK:Tree→Bool
 |.node k s _ ks=>decide (0≤eK k ks.length)&&oW k s&&shapeKs k ks.length 0 ks
def shapeKs(k n:Int):Nat→List Tree→Bool
 |_,[]=>true
 |i,t::r=>iX k n i t.kind&&shapeK t&&shapeKs k n (i+1) r
end
theorem cp(t:Tree):shapeK t=(decide (0≤eK t.kind t.kids.length)&&oW t.kind t.text&&shapeKs t.kind t.kids.length 0 t.kids):=by cases t;simp only[shapeK];rfl
theorem sx:∀t:Tree,tbulk t≤1000000000→fX t (shapeK t):=dZ λt ih hb=>by
 have hk:=bB t;have ht:=cx t;have loop:∀m i,t.kids.length-i≤m→(0≤eK t.kind t.kids.length∧oW t.kind t.text=true)→mu (m+1) t i (shapeKs t.kind t.kids.length i (t.kids.drop i)):=λm=>by
  induction m with
  |zero=>
   intro i hi hw;refine tT 0 _ _ _ ⟨λh=>by omega,λh=>?_⟩;rw[List.drop_of_length_le (by omega),shapeKs]
  | succ m ihm=>
   intro i hi hw;refine tT (m+1) _ _ _ ⟨λh=>?_,λh=>?_⟩
   ·obtain⟨u,hu,_⟩|h':=be t.kids i
    ·rw[aU hu,shapeKs];have hbu:=aF hu;refine⟨u,hu,_,OF hu,λh1=>by simp[h1],λh1=>⟨_,ih i u hu (by omega),λh2=>by simp[h1,h2],λh2=>⟨by omega,?_⟩⟩⟩;simp only[h1,h2,Bool.true_and];exact ihm (i+1) (by omega) hw
    ·exact absurd h h'
   ·rw[List.drop_of_length_le (by omega),shapeKs]
 rw[cp];refine AS (t.kids.length+1) _ _ ⟨_,OY (by omega) (by omega),λh=>?_,λh=>⟨_,Md _ _ (by omega),λh1=>by simp[h1],λh1=>?_⟩⟩
 ·rw[decide_eq_false (by omega)];rfl
 ·rw[decide_eq_true (by omega),h1];exact loop _ 0 (by omega) ⟨by omega,h1⟩
theorem zn:∀t:Tree,tbulk t≤1000000000→eh t (shapeK t):=dZ λt ih hb=>by
 have hk:=bB t;have ht:=cx t;have loop:∀m i,t.kids.length-i≤m→iC (m+1) t i (shapeKs t.kind t.kids.length i (t.kids.drop i)):=λm=>by
  induction m with
  |zero=>
   intro i hi;refine pV 0 _ _ _ ⟨λh=>by omega,λh=>?_⟩;rw[List.drop_of_length_le (by omega),shapeKs]
  | succ m ihm=>
   intro i hi;refine pV (m+1) _ _ _ ⟨λh=>?_,λh=>?_⟩
   ·obtain⟨u,hu,_⟩|h':=be t.kids i
    ·rw[aU hu,shapeKs];have hbu:=aF hu;refine⟨u,hu,_,Ro _ _ _,λh1=>by simp[h1],λh1=>⟨u,hu,_,ih i u hu (by omega),λh2=>by simp[h1,h2],λh2=>?_⟩⟩;simp only[h1,h2,Bool.true_and];exact ihm (i+1) (by omega)
    ·exact absurd h h'
   ·rw[List.drop_of_length_le (by omega),shapeKs]
 rw[cp];refine wK (t.kids.length+1) _ _ ⟨_,xr (by omega) (by omega),λh=>?_,λh=>⟨_,Lu _ _ (by omega),λh1=>by simp[h1],λh1=>?_⟩⟩
 ·rw[decide_eq_false (by omega)];rfl
 ·rw[decide_eq_true (by omega),h1];exact loop _ 0 (by omega)
open Go.RowKit
set_option maxHeartbeats 1000000 in
theorem Ii(s:ByteArray)(c:Int)(w:World):Calls prog 159 #[.string s,.int .u8 c] w λe w'=>e=.returned (.int .i64 (Lib.indexByte s.data.toList c.toNat.toUInt8))∧w=w':=by
 go_enter func159,ntmps159
 go_wp2
 rw[run_callFunc_extern func178 (by kernel_rfl) (by kernel_rfl) (by kernel_rfl) (e:=Extern.BytealgIndexByte.indexByte) (by kernel_rfl),Lib.run_indexByteString];simp only[Result.andThen];rw[Oper.upon_value]
 go_wp2
 go_ret
 exact⟨rfl,rfl⟩
theorem JG(s:ByteArray)(c:Int)(w:World):Calls prog 120 #[.string s,.int .u8 c] w λe w'=>e=.returned (.int .i64 (Lib.indexByte s.data.toList c.toNat.toUInt8))∧w=w':=by
 go_enter func120,ntmps120
 go_wp2_with (go_at_call 159;refine qmm (Ii _ _ _) ?_)
 go_ret
 exact⟨rfl,rfl⟩
def cg(s:List UInt8):List Tree→Nat→Int
 |[],_=>-1
 |t::r,i=>if t.text=s then(i:Int)else cg s r (i+1)
theorem vc(s:List UInt8):∀(l:List Tree) (i:Nat),cg s l i=-1∨∃k t,cg s l i=((i+k:Nat):Int)∧l[k]?=some t∧t.text=s∧∀j u,j<k→l[j]?=some u→u.text≠s
 |[],i=>.inl rfl
 | t::r,i=>by
  simp only[cg];split
  ·rename_i h;exact .inr ⟨0,t,rfl,rfl,h,λj u hj _=>by omega⟩
  ·rename_i h;rcases vc s r (i+1)with h1|⟨k,u,h1,h2,h3,h4⟩
   ·exact .inl h1
   ·refine .inr ⟨k+1,u,by rw[h1];congr 1;omega,by simpa using h2,h3,λj x hj hx=>?_⟩;cases j with
    |zero=>simp at hx;subst hx;exact h
    |succ j=>exact h4 j x (by omega) (by simpa using hx)
theorem Me(t:Tree)(s:List UInt8):sR t s (t.text==s):=BZ 0 _ _ _ rfl
theorem Gp(l:List Tree)(s:List UInt8)(hl:l.length≤1000000000):ov l s (cg s l 0):=by
 have loop:∀m i,l.length-i≤m→jX (m+1) l s i (cg s (l.drop i) i):=λm=>by
  induction m with
  |zero=>
   intro i hi;refine rY 0 _ _ _ _ ⟨λh=>by omega,λh=>?_⟩;rw[List.drop_of_length_le (by omega),cg]
  | succ m ihm=>
   intro i hi;refine rY (m+1) _ _ _ _ ⟨λh=>?_,λh=>?_⟩
   ·obtain⟨u,hu,_⟩|h':=be l i
    ·rw[aU hu,cg];refine⟨u,hu,_,Me u s,λh1=>?_,λh1=>⟨by omega,?_⟩⟩
     ·rw[if_pos (by simpa using h1)]
     ·rw[if_neg (by simpa using h1)];exact ihm (i+1) (by omega)
    ·exact absurd h h'
   ·rw[List.drop_of_length_le (by omega),cg]
 exact yJ _ _ _ _ (loop l.length 0 (by omega))
theorem Hy(l:List Tree)(s:List UInt8)(G:l.length≤1000000000):rx l s (cg s l 0):=Du 0 _ _ _ ⟨_,Gp l s G,rfl⟩
def dD:List UInt8→Nat→Int
 |[],_=>-1
 |c::r,i=>if c=46 then(i:Int)else dD r (i+1)
theorem yc:∀(l:List UInt8) (i:Nat),dD l i=-1∨∃k,dD l i=((i+k:Nat):Int)∧k<l.length
 |[],i=>.inl rfl
 | c::r,i=>by
  simp only[dD];split
  ·exact .inr ⟨0,rfl,by simp⟩
  ·rcases yc r (i+1)with h1|⟨k,h1,h2⟩
   ·exact .inl h1
   ·exact .inr ⟨k+1,by rw[h1];congr 1;omega,by simp;omega⟩
theorem Np(c:UInt8):∀(l:List UInt8),-1≤Lib.indexByte l c
 |[]=>by simp[Lib.indexByte]
 |b::r=>by
  have :=Np c r;simp only[Lib.indexByte];split
  ·omega
  ·split<;>omega
theorem yz:∀(l:List UInt8) (i:Nat),dD l i=if Lib.indexByte l 46=-1 then-1 else Lib.indexByte l 46+(i:Int)
 |[],i=>by simp[dD,Lib.indexByte]
 | c::r,i=>by
  have ih:=yz r (i+1);have :=Np 46 r;simp only[dD,Lib.indexByte,ih];by_cases h:c=46
  ·simp[h]
  ·have h':(c==46)=false:=by simpa using h
   simp only[if_neg h,h'];by_cases h2:Lib.indexByte r 46=-1
   ·simp[h2]
   ·have h3:(Lib.indexByte r 46==-1)=false:=by simpa using h2
    simp only[if_neg h2,h3,Bool.false_eq_true,if_false];rw[if_neg (by omega)];omega
theorem GM(l:List UInt8):jL l 46 (dD l 0):=sum0_calls rfl rfl λS w ρ xs hx=>by
 simp only[LRel]at hx;obtain⟨x,ys,rfl,h1,y,zs,rfl,h2,rfl⟩:=hx;simp only[VRel]at h1 h2;subst h1 h2;refine(Ii _ _ w).mono λe w' ⟨h1,h2⟩=>⟨_,h1,?_,h2▸Chg.refl _ _⟩;simp only[VRel];have e:dD l 0=Lib.indexByte l 46:=by
  rw[yz];split
  ·rename_i h;rw[h]
  ·simp
 rw[e];rfl
theorem Ok(l:List UInt8):fj l (dD l 0):=by
 refine qf 1 _ _ ⟨λh=>?_,λh=>pz 0 _ _ ?_⟩
 ·subst h;rfl
 ·exact⟨_,GM l,rfl⟩
theorem QL(l:List UInt8)(G:l.length≤1000000000):pI l (if 0≤dD l 0 then l.take (dD l 0).toNat else l) (if 0≤dD l 0 then l.drop ((dD l 0).toNat+1)else[]) (decide (0≤dD l 0)):=by
 refine yL 0 _ _ _ _ ⟨_,_,_,?_,rfl,rfl,rfl⟩;refine rg 0 _ _ _ _ ⟨_,Ok l,λh=>?_,λh=>?_⟩
 ·rcases yc l 0 with h1|⟨k,h1,h2⟩
  ·rw[h1]at h;omega
  ·rw[h1];exact⟨k,by simp,by omega,by omega,k+1,by simp,by omega,by simp,by simp,by simp⟩
 ·simp[h]
def inK(p:List Tree)(m:Int)(w:List UInt8):Int×Int×Bool:=if m<0 then(0,0,false)else match p[m.toNat]? with
 |none=>(0,0,false)
 |some t=>if cg w t.kids 0<0 then(0,0,false)else(m,cg w t.kids 0,true)
def ba(p:List Tree)(m:Int)(w:List UInt8):Int×Int×Bool:=if 0≤dD w 0 then inK p (cg (w.take (dD w 0).toNat) p 0) (w.drop ((dD w 0).toNat+1))else inK p m w
variable{p:List Tree}
theorem HB{m:Int}{w:List UInt8}(G:m<p.length)(J:kbulk p≤1000000000):oP 1 p m w (inK p m w).1 (inK p m w).2.1 (inK p m w).2.2:=by
 refine BB 0 _ _ _ _ _ _ ⟨λh=>by simp[inK,h],λh=>?_⟩;obtain⟨t,ht,_⟩|h':=be p m.toNat
 ·have :=bt ht;have :=bB t;refine⟨m.toNat,by omega,t,ht,_,Hy _ _ (by omega),λh1=>?_,λh1=>?_⟩
  ·simp[inK,h,ht,h1]
  ·simp[inK,h,ht,h1]
 ·omega
theorem FH{m:Int}{w:List UInt8}(h0:0≤m)(J:m<p.length)(G:kbulk p≤1000000000)(O:w.length≤1000000000):qt p m w (ba p m w).1 (ba p m w).2.1 (ba p m w).2.2:=by
 have U:=gw p;refine CF 1 _ _ _ _ _ _ ⟨λh=>by omega,λh=>⟨λh=>by omega,λh=>⟨_,_,_,QL w O,λh1=>?_,λh1=>?_⟩⟩⟩
 ·have h1:0≤dD w 0:=by simpa using h1
  simp only[if_pos h1,ba];refine⟨_,Hy _ _ (by omega),?_⟩;refine HB ?_ G;rcases vc (w.take (dD w 0).toNat) p 0 with h2|⟨k,t,h2,Z,_⟩
  ·rw[h2];omega
  ·have :=(List.getElem?_eq_some_iff.1 Z).1;rw[h2];omega
 ·have h1:¬0≤dD w 0:=by simpa using h1
  simp only[ba,if_neg h1];exact HB J G
theorem Nu(l:List UInt8)(hl:l.length≤1000000000):pG l (dD l 0):=by
 have loop:∀m i,l.length-i≤m→kC (m+1) l i (dD (l.drop i) i):=λm=>by
  induction m with
  |zero=>
   intro i hi;refine sh 0 _ _ _ ⟨λh=>by omega,λh=>?_⟩;rw[List.drop_of_length_le (by omega),dD]
  | succ m ihm=>
   intro i hi;refine sh (m+1) _ _ _ ⟨λh=>?_,λh=>?_⟩
   ·obtain⟨u,hu,_⟩|h':=be l i
    ·rw[aU hu,dD];refine⟨u,hu,λh1=>?_,λh1=>⟨by omega,?_⟩⟩
     ·rw[if_pos (UInt8.toNat_inj.1 (by show u.toNat=46;omega))]
     ·rw[if_neg (λe=>h1 (by subst e;rfl))];exact ihm (i+1) (by omega)
    ·exact absurd h h'
   ·rw[List.drop_of_length_le (by omega),dD]
 exact yU _ _ _ (loop l.length 0 (by omega))
theorem Om{m:Nat}{w:List UInt8}(ht:p[k]?=some t):∀i,t.kids.length-i≤m→eS (m+1) p i (k:Int) w (if cg w (t.kids.drop i) i<0 then 0 else(k:Int)) (if cg w (t.kids.drop i) i<0 then 0 else cg w (t.kids.drop i) i) (decide (¬cg w (t.kids.drop i) i<0)):=by
 induction m with
 |zero=>
  intro i hi;refine rQ 0 _ _ _ _ _ _ _ ⟨k,rfl,t,ht,λh=>by omega,λh=>?_⟩;rw[List.drop_of_length_le (by omega),cg];simp
 | succ m ihm=>
  intro i hi;refine rQ (m+1) _ _ _ _ _ _ _ ⟨k,rfl,t,ht,λh=>?_,λh=>?_⟩
  ·obtain⟨u,hu,_⟩|h':=be t.kids i
   ·rw[aU hu,cg];refine⟨k,rfl,t,ht,u,hu,λh1=>?_,λh1=>?_⟩
    ·have h2:¬((i:Int)<0):=by omega
     simp only[if_pos h1,if_neg h2];simp[h2]
    ·simp only[if_neg h1];exact ihm (i+1) (by omega)
   ·exact absurd h h'
  ·rw[List.drop_of_length_le (by omega),cg];simp
theorem BL{m:Int}{w:List UInt8}(h0:0≤m)(hm:m<p.length)(hp:kbulk p≤1000000000)(hw:w.length≤1000000000):fD p m w (ba p m w).1 (ba p m w).2.1 (ba p m w).2.2:=by
 have hpl:=gw p;have one:∀(k:Nat) (x:List UInt8) t,p[k]?=some t→∃M,∀m',M≤m'→eS m' p 0 (k:Int) x (inK p k x).1 (inK p k x).2.1 (inK p k x).2.2:=λk x t ht=>by
  refine⟨t.kids.length+1,λm' hm'=>?_⟩;obtain⟨q,rfl⟩:∃q,m'=q+1:=⟨m'-1,by omega⟩;have :=Om (w:=x) (m:=q) ht 0 (by omega);have e:inK p k x=(if cg x (t.kids.drop 0) 0<0 then 0 else(k:Int),if cg x (t.kids.drop 0) 0<0 then 0 else cg x (t.kids.drop 0) 0,decide (¬cg x (t.kids.drop 0) 0<0)):=by
   simp only[inK,show¬((k:Int)<0) by omega,if_false,Int.toNat_natCast,ht,List.drop_zero];split<;>simp_all
  rw[e];exact this
 by_cases hd:0≤dD w 0
 ·rcases yc w 0 with h1|⟨k,h1,h2⟩
  ·rw[h1]at hd;omega
  have hk:(dD w 0).toNat=k:=by rw[h1];simp
  simp only[ba,if_pos hd,hk];have loop:∀n i,p.length-i≤n→i≤p.length→∃M,∀m',M≤m'→hI m' p w (dD w 0) i (inK p (cg (w.take k) (p.drop i) i) (w.drop (k+1))).1 (inK p (cg (w.take k) (p.drop i) i) (w.drop (k+1))).2.1 (inK p (cg (w.take k) (p.drop i) i) (w.drop (k+1))).2.2:=λn=>by
   have last:∀i,i=p.length→∃M,∀m',M≤m'→hI m' p w (dD w 0) i (inK p (cg (w.take k) (p.drop i) i) (w.drop (k+1))).1 (inK p (cg (w.take k) (p.drop i) i) (w.drop (k+1))).2.1 (inK p (cg (w.take k) (p.drop i) i) (w.drop (k+1))).2.2:=λi hi=>by
    refine⟨2,λm' hm'=>?_⟩;obtain⟨q,rfl⟩:∃q,m'=q+2:=⟨m'-2,by omega⟩;refine mF (q+1) _ _ _ _ _ _ _ ⟨λh=>by omega,λ_=>rO q _ _ _ _ _ _ _ ⟨λ_=>?_,λh=>absurd hi h⟩⟩;rw[List.drop_of_length_le (by omega),cg];simp[inK]
   induction n with
   |zero=>intro i hi hle;exact last i (by omega)
   | succ n ih=>
    intro i hi hle;obtain⟨u,hu,hlt⟩|h':=be p i
    ·by_cases ht:u.text=w.take k
     ·obtain⟨M,hM⟩:=one i (w.drop (k+1)) u hu;refine⟨M+2,λm' hm'=>?_⟩;obtain⟨q,rfl⟩:∃q,m'=q+2:=⟨m'-2,by omega⟩;rw[aU hu,cg,if_pos ht];refine mF (q+1) _ _ _ _ _ _ _ ⟨λ_=>⟨u,hu,k,by rw[h1];simp,by omega,λh=>absurd ht h,λ_=>?_⟩,λh=>absurd hlt h⟩;refine rO q _ _ _ _ _ _ _ ⟨λh=>by omega,λ_=>⟨by rw[h1];omega,k+1,by rw[h1];omega,by omega,hM q (by omega)⟩⟩
     ·obtain⟨M,hM⟩:=ih (i+1) (by omega) (by omega);refine⟨M+1,λm' hm'=>?_⟩;obtain⟨q,rfl⟩:∃q,m'=q+1:=⟨m'-1,by omega⟩;rw[aU hu,cg,if_neg ht];exact mF q _ _ _ _ _ _ _ ⟨λ_=>⟨u,hu,k,by rw[h1];simp,by omega,λ_=>hM q (by omega),λh=>absurd h ht⟩,λh=>absurd hlt h⟩
    ·exact last i (by omega)
  obtain⟨M,hM⟩:=loop p.length 0 (by omega) (by omega);exact si M _ _ _ _ _ _ ⟨_,Nu w hw,λ_=>hM M (Nat.le_refl _),λh=>absurd hd h⟩
 ·simp only[ba,if_neg hd];obtain⟨t,ht,_⟩|h':=be p m.toNat
  ·obtain⟨M,hM⟩:=one m.toNat w t ht;have :=hM M (Nat.le_refl _);rw[show((m.toNat:Nat):Int)=m by omega]at this;exact si M _ _ _ _ _ _ ⟨_,Nu w hw,λh=>absurd h hd,λ_=>this⟩
  ·omega
mutual
def nodK:Tree→List Int→List (List Int×Tree)
 |.node k s ls ks,q=>(q,.node k s ls ks)::nodKs ks q 0
def nodKs:List Tree→List Int→Nat→List (List Int×Tree)
 |[],_,_=>[]
 |t::r,q,i=>nodK t (q++[(i:Int)])++nodKs r q (i+1)
end
theorem fG(t:Tree)(q:List Int):nodK t q=(q,t)::nodKs t.kids q 0:=by cases t;simp only[nodK];rfl
mutual
theorem nodK_len:∀(t:Tree) (q:List Int),(nodK t q).length≤tbulk t
 |.node k s ls ks,q=>by have :=nodKs_len ks q 0;simp only[nodK,tbulk,List.length_cons];omega
theorem nodKs_len:∀(l:List Tree) (q:List Int) (i:Nat),(nodKs l q i).length≤kbulk l
 |[],_,_=>by simp[nodKs,kbulk]
 |t::r,q,i=>by have :=nodK_len t (q++[(i:Int)]);have :=nodKs_len r q (i+1);simp only[nodKs,kbulk,List.length_append];omega
end
def atK:Tree→List Int→Option Tree
 |t,[]=>some t
 |t,i::r=>if i<0 then none else match t.kids[i.toNat]? with
  |none=>none
  |some u=>atK u r
theorem Cz:∀(t:Tree) (q r:List Int),atK t (q++r)=(atK t q).bind λu=>atK u r
 |t,[],r=>rfl
 | t,i::q,r=>by
  simp only[List.cons_append,atK];split
  ·rfl
  ·split
   ·rfl
   ·rename_i u hu;exact Cz u q r
theorem zE(h:t.kids[i]?=some u):atK t [(i:Int)]=some u:=by
 simp[atK,h,show¬((i:Int)<0) by omega]
mutual
theorem nodK_at(root:Tree):∀(t:Tree) (q:List Int),atK root q=some t→∀x∈nodK t q,atK root x.1=some x.2
 |.node k s ls ks,q,h,x,hx=>by
  simp only[nodK,List.mem_cons]at hx;rcases hx with rfl|hx
  ·exact h
  ·exact nodKs_at root (.node k s ls ks) q h ks 0 rfl x hx
theorem nodKs_at(root t:Tree)(q:List Int)(h:atK root q=some t):∀(l:List Tree) (i:Nat),t.kids.drop i=l→∀x∈nodKs l q i,atK root x.1=some x.2
 |[],_,_,x,hx=>by simp[nodKs]at hx
 | u::r,i,hd,x,hx=>by
  simp only[nodKs,List.mem_append]at hx;have hu:t.kids[i]?=some u:=by
   have :=congrArg (·[0]?) hd;simpa using this
  rcases hx with hx|hx
  ·exact nodK_at root u (q++[(i:Int)]) (by rw[Cz,h];exact zE hu) x hx
  ·exact nodKs_at root t q h r (i+1) (by rw[←List.tail_drop,hd];rfl) x hx
end
theorem Ma(l:List Int)(G:l.length≤1000000000):qF l l:=Ad 0 _ _ λb hb=>⟨λh=>(List.length_eq_zero_iff.1 (hb h)).symm,λ_=>⟨G,rfl⟩⟩
theorem Sj(t:Tree)(q:List Int)(hq:q.length≤1000000000):qH t q ((atK t q).getD (.node 0 [] [] [])) (atK t q).isSome:=by
 have loop:∀m i (u:Tree),q.length-i≤m→lA (m+1) q u i ((atK u (q.drop i)).getD (.node 0 [] [] [])) (atK u (q.drop i)).isSome:=λm=>by
  induction m with
  |zero=>
   intro i u hi;refine tA 0 _ _ _ _ _ ⟨λh=>by omega,λh=>?_⟩;rw[List.drop_of_length_le (by omega)];exact⟨rfl,rfl⟩
  | succ m ihm=>
   intro i u hi;refine tA (m+1) _ _ _ _ _ ⟨λh=>?_,λh=>?_⟩
   ·obtain⟨x,hx,_⟩|h':=be q i
    ·rw[aU hx,atK];refine⟨x,hx,λh1=>by simp[h1],λh1=>⟨x,hx,λh2=>?_,λh2=>?_⟩⟩
     ·have :u.kids[x.toNat]?=none:=List.getElem?_eq_none (by omega);simp[h1,this]
     ·obtain⟨y,hy,_⟩|h3:=be u.kids x.toNat
      ·refine⟨x,hx,x.toNat,by omega,y,hy,?_⟩;simp only[if_neg h1,hy];exact ihm (i+1) y (by omega)
      ·omega
    ·exact absurd h h'
   ·rw[List.drop_of_length_le (by omega)];exact⟨rfl,rfl⟩
 have :=loop q.length 0 t (by omega);exact Aa _ _ _ _ _ (by simpa using this)
theorem xS(l:List Int):dc l l true:=by
 have loop:∀m i,l.length-i≤m→eE (m+1) l l i true:=λm=>by
  induction m with
  |zero=>intro i hi;exact gd 0 _ _ _ _ ⟨λh=>by omega,λh=>rfl⟩
  |succ m G=>
   intro i hi;refine gd (m+1) _ _ _ _ ⟨λh=>?_,λh=>rfl⟩;obtain⟨u,J,_⟩|h':=be l i
   ·exact⟨u,J,u,J,λh=>absurd rfl h,λ_=>G (i+1) (by omega)⟩
   ·exact absurd h h'
 exact kh (l.length+1) _ _ _ ⟨λh=>absurd rfl h,λ_=>loop l.length 0 (by omega)⟩
theorem Aj(l:List (List UInt8)):jY l l true:=by
 have loop:∀m i,l.length-i≤m→gh (m+1) l l i true:=λm=>by
  induction m with
  |zero=>intro i hi;exact nQ 0 _ _ _ _ ⟨λh=>by omega,λh=>rfl⟩
  |succ m G=>
   intro i hi;refine nQ (m+1) _ _ _ _ ⟨λh=>?_,λh=>rfl⟩;obtain⟨u,J,_⟩|h':=be l i
   ·exact⟨u,J,u,J,λh=>absurd rfl h,λ_=>G (i+1) (by omega)⟩
   ·exact absurd h h'
 exact vj (l.length+1) _ _ _ ⟨λh=>absurd rfl h,λ_=>loop l.length 0 (by omega)⟩
def dP(u:Tree):Bool:=u.kind==16||u.kind==9
def tgK(p:List Tree)(m:Int)(q:List Int)(u:Tree):aA:=⟨⟨m,q⟩,(ba p m u.text).1,(ba p m u.text).2.1,!(ba p m u.text).2.2⟩
def bx(p:List Tree)(m:Int):List (List Int×Tree)→List aA
 |[]=>[]
 |x::r=>(if dP x.2 then[tgK p m x.1 x.2]else[])++bx p m r
theorem sr(p:List Tree)(m:Int):∀a b,bx p m (a++b)=bx p m a++bx p m b
 |[],b=>rfl
 |x::r,b=>by simp only[List.cons_append,bx,sr p m r b,List.append_assoc]
theorem xU(p:List Tree)(m:Int):∀a,(bx p m a).length≤a.length
 |[]=>Nat.le_refl _
 |x::r=>by have :=xU p m r;simp only[bx,List.length_append,List.length_cons];split<;>simp <;>omega
theorem OE{M:Int}(h0:0≤M)(hM:M<p.length)(hp:kbulk p≤1000000000):∀(t:Tree) (q:List Int) (fd:List aA),q.length+tbulk t≤1000000000→fd.length+tbulk t≤1000000000→ii p M q fd t p M q (fd++bx p M (nodK t q)):=dZ λt ih q fd hq hf=>by
 have hk:=bB t;have ht:=cx t;have hb:=aV t;have loop:∀k i fd,t.kids.length-i≤k→fd.length+kbulk (t.kids.drop i)≤1000000000→eC (k+1) t fd p M q i p M q (fd++bx p M (nodKs (t.kids.drop i) q i)):=λk=>by
  induction k with
  |zero=>
   intro i fd hi hf;refine oy 0 _ _ _ _ _ _ _ _ _ _ ⟨λh=>by omega,λh=>⟨rfl,rfl,rfl,?_⟩⟩;rw[List.drop_of_length_le (by omega)];simp[nodKs,bx]
  | succ k ihk=>
   intro i fd hi hf;refine oy (k+1) _ _ _ _ _ _ _ _ _ _ ⟨λh=>?_,λh=>⟨rfl,rfl,rfl,?_⟩⟩
   ·obtain⟨u,hu,_⟩|h':=be t.kids i
    ·have hd:=aU hu;rw[hd,kbulk]at hf;have hbu:=aF hu;have hl:=nodK_len u (q++[(i:Int)]);have hl2:=xU p M (nodK u (q++[(i:Int)]));refine⟨u,hu,by simp;omega,_,_,_,_,ih i u hu (q++[(i:Int)]) fd (by simp;omega) (by omega),q.length,by simp,by simp,by omega,?_⟩;have :=ihk (i+1) (fd++bx p M (nodK u (q++[(i:Int)]))) (by omega) (by simp;omega);rw[hd,nodKs,sr,←List.append_assoc];simpa using this
    ·exact absurd h h'
   ·rw[List.drop_of_length_le (by omega)];simp[nodKs,bx]
 have key:∀b,b=dP t→gK (t.kids.length+3) p M q fd t b p M q (fd++bx p M (nodK t q)):=λb hbb=>by
  rw[fG,bx];refine uO (t.kids.length+2) _ _ _ _ _ _ _ _ _ _ ⟨λh=>?_,λh=>?_⟩
  ·rw[if_pos (by rw[←hbb];exact h)];refine⟨_,_,_,FH h0 hM hp (by omega),_,Ma q (by omega),vm (t.kids.length+1) _ _ _ _ _ _ _ _ _ _ _ _ _ ⟨by simp;omega,?_⟩⟩;have :=loop t.kids.length 0 (fd++[tgK p M q t]) (by omega) (by simp;omega);rw[←List.append_assoc];exact this
  ·rw[if_neg (by rw[←hbb,h];simp)];have :=loop (t.kids.length+1) 0 fd (by omega) (by simp;omega);simpa using this
 refine vt (t.kids.length+3) _ _ _ _ _ _ _ _ _ ⟨λh=>key _ (by simp[dP,h]),λh=>key _ (by simp[dP,h])⟩
def bi:List Tree→Bool
 |[]=>true
 |t::r=>t.kind==1&&shapeK t&&bi r
theorem CK(p:List Tree)(hp:kbulk p≤1000000000):oU p (bi p):=by
 have hl:=gw p;have loop:∀m i,p.length-i≤m→nK (m+1) p i (bi (p.drop i)):=λm=>by
  induction m with
  |zero=>
   intro i hi;refine uV 0 _ _ _ ⟨λh=>by omega,λh=>?_⟩;rw[List.drop_of_length_le (by omega),bi]
  | succ m ihm=>
   intro i hi;refine uV (m+1) _ _ _ ⟨λh=>?_,λh=>?_⟩
   ·obtain⟨u,hu,_⟩|h':=be p i
    ·rw[aU hu,bi];have :=bt hu;refine⟨u,hu,λh1=>by simp[h1],λh1=>⟨_,sx u (by omega),λh2=>by simp[h1,h2],λh2=>⟨by omega,?_⟩⟩⟩;simp only[h1,h2,beq_self_eq_true,Bool.true_and];exact ihm (i+1) (by omega)
    ·exact absurd h h'
   ·rw[List.drop_of_length_le (by omega),bi]
 exact BR _ _ _ (loop p.length 0 (by omega))
theorem kz(p:List Tree)(hp:kbulk p≤1000000000):iJ p (bi p):=by
 have hl:=gw p;have loop:∀m i,p.length-i≤m→ic (m+1) p i (bi (p.drop i)):=λm=>by
  induction m with
  |zero=>
   intro i hi;refine pi 0 _ _ _ ⟨λh=>by omega,λh=>?_⟩;rw[List.drop_of_length_le (by omega),bi]
  | succ m ihm=>
   intro i hi;refine pi (m+1) _ _ _ ⟨λh=>?_,λh=>?_⟩
   ·obtain⟨u,hu,_⟩|h':=be p i
    ·rw[aU hu,bi];have :=bt hu;refine⟨u,hu,λh1=>by simp[h1],λh1=>⟨u,hu,_,zn u (by omega),λh2=>by simp[h1,h2],λh2=>?_⟩⟩;simp only[h1,h2,beq_self_eq_true,Bool.true_and];exact ihm (i+1) (by omega)
    ·exact absurd h h'
   ·rw[List.drop_of_length_le (by omega),bi]
 exact wH _ _ _ (loop p.length 0 (by omega))
def ku(p:List Tree):Nat→List Tree→List aA
 |_,[]=>[]
 |i,t::r=>bx p i (nodK t [])++ku p (i+1) r
theorem CG(p:List Tree):∀(i:Nat) (l:List Tree),(ku p i l).length≤kbulk l
 |_,[]=>Nat.le_refl _
 |i,t::r=>by
  have :=CG p (i+1) r;have :=xU p i (nodK t []);have :=nodK_len t [];simp only[ku,kbulk,List.length_append];omega
def bW(p:List Tree):List aA:=if bi p then ku p 0 p else[]
theorem Dk(p:List Tree)(hp:kbulk p≤100000000):oR p (bW p):=by
 have hl:=gw p;have loop:∀m i z fd,p.length-i≤m→fd.length+kbulk (p.drop i)≤1000000000→nJ (m+1) p p z [] fd i (fd++ku p i (p.drop i)):=λm=>by
  induction m with
  |zero=>
   intro i z fd hi hf;refine vf 0 _ _ _ _ _ _ _ ⟨λh=>by omega,λh=>?_⟩;rw[List.drop_of_length_le (by omega)];simp[ku]
  | succ m ihm=>
   intro i z fd hi hf;refine vf (m+1) _ _ _ _ _ _ _ ⟨λh=>?_,λh=>?_⟩
   ·obtain⟨u,hu,_⟩|h':=be p i
    ·have :=bt hu;have hd:=aU hu;rw[hd,kbulk]at hf;have :=xU p i (nodK u []);have :=nodK_len u [];refine⟨u,hu,_,_,_,_,OE (p:=p) (M:=(i:Int)) (by omega) (by omega) (by omega) u [] fd (by simp;omega) (by omega),by omega,?_⟩;rw[hd,ku,←List.append_assoc];exact ihm (i+1) _ _ (by omega) (by simp;omega)
    ·exact absurd h h'
   ·rw[List.drop_of_length_le (by omega)];simp[ku]
 refine Bv (p.length+1) _ _ ⟨_,CK p (by omega),λh=>by simp[bW,h],λh=>?_⟩;have :=loop p.length 0 0 [] (by omega) (by simp;omega);simpa[bW,h]using this
theorem xn{M:Int}{w:List UInt8}(h:(inK p M w).2.2=true):∃(i d:Nat) (t u:Tree),M=(i:Int)∧(inK p M w).1=(i:Int)∧(inK p M w).2.1=(d:Int)∧p[i]?=some t∧t.kids[d]?=some u∧u.text=w∧∀j v,j<d→t.kids[j]?=some v→v.text≠w:=by
 unfold inK at h⊢;by_cases hM:M<0
 ·rw[if_pos hM]at h;cases h
 ·rw[if_neg hM]at h⊢;cases ht:p[M.toNat]? with
  |none=>rw[ht]at h;cases h
  | some t=>
   rw[ht]at h;simp only at h⊢;rcases vc w t.kids 0 with e|⟨k,u,e1,e2,e3,e4⟩
   ·simp[e]at h
   ·have hn:¬cg w t.kids 0<0:=by omega
    rw[if_neg hn];exact⟨M.toNat,k,t,u,by omega,by simp only[];omega,by simp only[];omega,ht,e2,e3,e4⟩
theorem MO{M:Int}{w:List UInt8}(h:(ba p M w).2.2=true):∃(i d:Nat) (t u:Tree),(ba p M w).1=(i:Int)∧(ba p M w).2.1=(d:Int)∧p[i]?=some t∧t.kids[d]?=some u:=by
 unfold ba at h⊢;split at h
 ·rename_i G;rw[if_pos G];obtain⟨i,d,t,u,_,a1,J,O,U,_⟩:=xn h;exact⟨i,d,t,u,a1,J,O,U⟩
 ·rename_i G;rw[if_neg G];obtain⟨i,d,t,u,_,a1,J,O,U,_⟩:=xn h;exact⟨i,d,t,u,a1,J,O,U⟩
theorem Dp{w:List UInt8}(h:bJ w=k)(J:0<k∧k<5):(cd w).2.1=w.length∧(cd w).1=k:=by
 unfold bJ at h;split at h
 ·omega
 ·split at h
  ·rename_i G;have e:tokenT w=cd w:=by
    unfold tokenT at h⊢;simp only[]at h⊢
    repeat' split at h
    all_goals simp_all
    all_goals omega
   rw[e]at G h;exact⟨G.2,h⟩
  ·omega
theorem DE{w:List UInt8}(h:bJ w=k)(U:k=1∨k=2):spanN bg w=w.length∧(k=1↔dm (w.getD 0 0)=true):=by
 obtain⟨h1,h2⟩:=Dp h (by omega);unfold cd at h1 h2;split at h1
 ·rename_i J;rw[if_pos J]at h2;unfold fo at h2
  repeat' split at h2
  all_goals simp only at h2
  all_goals omega
 ·rename_i J;rw[if_neg J]at h2;unfold ce at h1 h2;split at h2
  ·simp only at h2;omega
  ·rename_i a1;rw[if_neg a1]at h1;split at h2
   ·simp only at h2;omega
   ·rename_i O;rw[if_neg O]at h1;split at h2
    ·rename_i G;rw[if_pos G]at h1;simp only at h1 h2;exact⟨h1,λ_=>G,λ_=>h2.symm⟩
    ·rename_i G;rw[if_neg G]at h1;simp only at h1 h2;exact⟨h1,λh=>by omega,λh=>absurd h G⟩
theorem Ip{w:List UInt8}(h:bJ w=k)(U:k=3∨k=4):spanN bg w<w.length∧w.getD (spanN bg w) 0=46∧(k=3↔dm (w.getD (spanN bg w+1) 0)=true):=by
 obtain⟨h1,h2⟩:=Dp h (by omega);unfold cd at h1 h2;split at h1
 ·rename_i J;rw[if_pos J]at h2;have G:=J;simp only[dW,Bool.and_eq_true,decide_eq_true_eq,beq_iff_eq]at G;refine⟨by omega,?_,?_⟩
  ·have :=G.1.2;exact UInt8.toNat_inj.1 (by rw[this];rfl)
  ·unfold fo at h2
   repeat' split at h2
   all_goals simp only at h2
   all_goals first
    |omega
    |(rename_i O;exact⟨λ_=>O,λ_=>h2.symm⟩)
    |(rename_i O;exact⟨λh=>by omega,λh=>absurd h O⟩)
 ·rename_i J;rw[if_neg J]at h2;unfold ce at h2
  repeat' split at h2
  all_goals simp only at h2
  all_goals omega
theorem BM(c:UInt8)(r:List UInt8):spanN bg (c::r)=if bg c=true then spanN bg r+1 else 0:=by
 unfold spanN;rw[List.takeWhile_cons];split<;>simp
theorem AG:∀(w:List UInt8) (i:Nat),spanN bg w=w.length→dD w i=-1
 |[],i,h=>rfl
 | c::r,i,h=>by
  rw[BM]at h;split at h
  ·rename_i hc;have :c≠46:=λe=>by subst e;revert hc;decide
   rw[dD,if_neg this];exact AG r (i+1) (by simpa using h)
  ·simp at h
theorem Kx:∀(w:List UInt8) (i:Nat),spanN bg w<w.length→w.getD (spanN bg w) 0=46→dD w i=((i+spanN bg w:Nat):Int)
 |[],i,h,_=>by simp at h
 | c::r,i,h,h2=>by
  rw[BM]at h h2⊢;split at h
  ·rename_i hc;rw[if_pos hc]at h2⊢;have :c≠46:=λe=>by subst e;revert hc;decide
   rw[dD,if_neg this,Kx r (i+1) (by simpa using h) (by simpa using h2)]
   congr 1;omega
  ·rename_i hc;rw[if_neg hc]at h2⊢;have :c=46:=by simpa using h2
   rw[dD,if_pos this];rfl
theorem ej{k n:Int}:∀{l:List Tree} {i j:Nat} {u:Tree},shapeKs k n i l=true→l[j]?=some u→iX k n ((i+j:Nat):Int) u.kind=true∧shapeK u=true
 |[],i,j,u,_,h=>by simp at h
 |t::r,i,0,u,h,G=>by
  simp only[shapeKs,Bool.and_eq_true]at h;simp only[List.getElem?_cons_zero,Option.some.injEq]at G;subst G;exact⟨by simpa using h.1.1,h.1.2⟩
 |t::r,i,j+1,u,h,G=>by
  simp only[shapeKs,Bool.and_eq_true]at h;have :=ej (i:=i+1) (j:=j) h.2 (by simpa using G);exact⟨by rw[show i+(j+1)=i+1+j by omega];exact this.1,this.2⟩
theorem fw:∀{p:List Tree} {i:Nat} {t:Tree},bi p=true→p[i]?=some t→t.kind=1∧shapeK t=true
 |[],i,t,_,h=>by simp at h
 |v::r,0,t,h,hi=>by
  simp only[bi,Bool.and_eq_true,beq_iff_eq]at h;simp only[List.getElem?_cons_zero,Option.some.injEq]at hi;subst hi;exact h.1
 |v::r,i+1,t,h,hi=>by
  simp only[bi,Bool.and_eq_true]at h;exact fw h.2 (by simpa using hi)
abbrev Kn:=ac
abbrev Env:=List ay
structure Cx where
 p:List Tree
 nm:List ((Int×List UInt8)×ac)
 sg:List ((Int×Int)×am)
 mo:Int
 pa:List Int
 wm:Int
 wp:List Int
structure Sv where
 tg:List aA
 fa:List ae
 rs:Int
 rl:Int
def Cx.go(x:Cx)(i:Int):Cx:={x with pa:=x.pa++[i]}
def faP(x:Cx)(k:Int)(b:List Int)(s:Sv):Sv:={s with fa:=s.fa++[⟨⟨x.mo,x.pa++b⟩,k⟩]}
def aZ(a b:Kn):Bool:=a.simple !=0&&b.simple !=0&&!(a.simple==b.simple&&a.lists==b.lists)
def jc(w:List UInt8):Env→Option Kn
 |[]=>none
 |b::r=>if b.name=w then some b.typ else jc w r
abbrev Ev:=Cx→Tree→Env→Sv→Kn×Sv
def cP(t:Tree)(i:Nat):Tree:=t.kids.getD i (.node 0 [] [] [])
def knS(x:Cx)(i:Nat)(k:Kn)(s:Sv):Sv:=if x.mo=x.wm∧x.pa++[(i:Int)]=x.wp then{s with rs:=k.simple,rl:=k.lists}else s
def zq(x:Cx)(i:Nat):Kn×Sv→Kn×Sv
 |(k,s)=>(k,knS x i k s)
def aO(E:Ev)(x:Cx)(t:Tree)(i:Nat)(env:Env)(s:Sv):Kn×Sv:=zq x i (E (x.go i) (cP t i) env s)
def noT:aA:=⟨⟨0,[]⟩,0,0,true⟩
def bT(s:Sv):Sv:={s with tg:=s.tg.drop 1}
def qn(x:Cx)(g:aA):am:=if g.Free then⟨[],⟨0,0⟩⟩else(aI (g.Module,g.Def) x.sg).getD ⟨[],⟨0,0⟩⟩
def tc(x:Cx)(t:Tree)(g:aA)(q:am)(s:Sv):Sv:=if g.Free then faP x 1 [] s else if q.params.length=t.kids.length then s else faP x 3 [] s
def sO(x:Cx)(ps:List Kn)(i:Nat):Kn×Sv→Sv
 |(k,s)=>match ps[i]? with
  |some q=>if aZ k q then faP x 4 [(i:Int),0] s else s
  |none=>s
def iF(E:Ev)(x:Cx)(ps:List Kn)(env:Env):List Tree→Nat→Sv→Sv
 |[],_,s=>s
 |a::r,i,s=>iF E x ps env r (i+1) (sO x ps i (aO E (x.go i) a 0 env s))
def oT(E:Ev)(x:Cx)(t:Tree)(env:Env)(s:Sv):Kn×Sv:=((qn x (s.tg.headD noT)).result,iF E x (qn x (s.tg.headD noT)).params env t.kids 0 (tc x t (s.tg.headD noT) (qn x (s.tg.headD noT)) (bT s)))
def AL(x:Cx)(i:Nat)(f:Kn):Kn×Sv→Kn×Sv
 |(k,s)=>(if f.simple=0 then k else f,if aZ k (if f.simple=0 then k else f)then faP x 6 [(i:Int)] s else s)
def iq(E:Ev)(x:Cx)(t:Tree)(env:Env):Nat→Nat→Kn×Sv→Kn×Sv
 |0,_,r=>r
 |n+1,i,(f,s)=>iq E x t env n (i+1) (AL x i f (aO E x t i env s))
def jC:Kn×Sv→Kn×Sv
 |(f,s)=>(if f.simple=0 then f else⟨f.simple,f.lists+1⟩,s)
def ifQ(x:Cx)(a:Kn):Kn×Sv→Kn×Sv
 |(b,s)=>(if a.simple=0 then b else a,if aZ a b then faP x 6 [2] s else s)
def ifR(E:Ev)(x:Cx)(t:Tree)(env:Env):Kn×Sv→Kn×Sv
 |(a,s)=>ifQ x a (aO E x t 2 env s)
def ifS(x:Cx):Kn×Sv→Sv
 |(c,s)=>if aZ c ⟨7,0⟩then faP x 4 [0] s else s
def ifP(E:Ev)(x:Cx)(t:Tree)(env:Env)(s:Sv):Kn×Sv:=ifR E x t env (aO E x t 1 env (ifS x (aO E x t 0 env s)))
def okB(k:Kn):Bool:=(k.simple==5&&k.lists==0)||(k.simple==6&&k.lists==0)
def bad(k:Kn):Bool:=!okB k&&k.simple !=0
def uq(a:Kn):Kn:=if okB a then a else⟨0,0⟩
def tE(a b:Kn):Kn:=if okB b then(if(uq a).simple=0 then b else uq a)else uq a
def qw(x:Cx)(a b:Kn)(s:Sv):Sv:=
 if bad a then(if bad b then faP x 4 [1] (faP x 4 [0] s)else faP x 4 [0] s)
 else if bad b then faP x 4 [1] s else if aZ a b then faP x 6 [1] s else s
def wq(x:Cx)(a b:Kn)(s:Sv):Sv:=if aZ b ⟨5,0⟩then faP x 4 [1] (if aZ a ⟨5,0⟩then faP x 4 [0] s else s)else(if aZ a ⟨5,0⟩then faP x 4 [0] s else s)
def opQ(x:Cx)(w:List UInt8)(a:Kn):Kn×Sv→Kn×Sv
 |(b,s)=>if w=[43]then(tE a b,qw x a b s)else if w=[61,61]then(⟨7,0⟩,if aZ a b then faP x 6 [1] s else s)else(if w=[60]then⟨7,0⟩else⟨5,0⟩,wq x a b s)
def wI(E:Ev)(x:Cx)(t:Tree)(env:Env):Kn×Sv→Kn×Sv
 |(a,s)=>opQ x t.text a (aO E x t 1 env s)
def Ga(E:Ev)(x:Cx)(t:Tree)(env:Env):Kn×Sv→Kn×Sv
 |(a,s)=>aO E x t 1 (⟨t.text,a⟩::env) s
def tN(x:Cx)(s:Sv):Option Kn→Kn×Sv
 |some k=>(k,s)
 |none=>(⟨0,0⟩,faP x 1 [] s)
def bC(E:Ev):Ev:=λx t env s=>
 if t.kind=10 then(⟨5,0⟩,s)else if t.kind=11 then(⟨6,0⟩,s)else if t.kind=13 then(⟨7,0⟩,s)else if t.kind=14 then(⟨7,0⟩,s)
 else if t.kind=12 then tN x s (jc t.text env)else if t.kind=16 then oT E x t env s
 else if t.kind=18 then jC (iq E x t env t.kids.length 0 (⟨0,0⟩,s))else if t.kind=19 then ifP E x t env s
 else if t.kind=20 then Ga E x t env (aO E x t 0 env s)else if t.kind=21 then wI E x t env (aO E x t 0 env s)
 else if t.kind=22 then aO E x t 0 env s else(⟨0,0⟩,s)
def cG:Nat→Ev
 |0=>λ_ _ _ s=>(⟨0,0⟩,s)
 |n+1=>bC (cG n)
def mkC(x:Cx)(s:Sv):CKr:=⟨x.p,s.tg,x.nm,x.sg,x.mo,x.pa,s.fa,x.wm,x.wp,s.rs,s.rl⟩
section
variable(x:Cx)(s:Sv)
abbrev ckF(k:Int)(b:List Int)(s':Sv):Prop:=aG (mkC x s) k b (mkC x s')
abbrev ckE(t:Tree)(env:Env)(k:Kn)(s':Sv):Prop:=iu (mkC x s) t env k (mkC x s')
abbrev ckK(t:Tree)(i:Int)(env:Env)(k:Kn)(s':Sv):Prop:=br (mkC x s) t i env k (mkC x s')
abbrev ckV(t:Tree)(env:Env)(k:Kn)(s':Sv):Prop:=ju (mkC x s) t env k (mkC x s')
abbrev ckC(t:Tree)(env:Env)(k:Kn)(s':Sv):Prop:=lW (mkC x s) t env k (mkC x s')
abbrev ckB(t:Tree)(env:Env)(k:Kn)(s':Sv):Prop:=ji (mkC x s) t env k (mkC x s')
abbrev ckO(t:Tree)(env:Env)(k:Kn)(s':Sv):Prop:=iT (mkC x s) t env k (mkC x s')
abbrev ckS(ab:Kn×Kn)(k:Kn)(s':Sv):Prop:=mL (mkC x s) ab k (mkC x s')
abbrev ckN(i:Int):Prop:=de (mkC x s) i (mkC (x.go i) s)
abbrev ckD(i:Int):Prop:=bb (mkC (x.go i) s) (mkC x s)
end
theorem MC(a b:List Int)(h:a.length+b.length≤1000000000):ro [a,b] (a++b):=by
 refine AH 6 _ _ (?_);refine pD 5 _ _ _ _ (⟨λ_=>⟨a,rfl,by omega,λh=>absurd h (by omega),λ_=>⟨by omega,?_⟩⟩,λh=>absurd (show 0<2 by decide) h⟩);refine pD 4 _ _ _ _ (⟨λ_=>⟨b,rfl,by omega,λh=>absurd h (by omega),λ_=>⟨by omega,?_⟩⟩,λh=>absurd (show 1<2 by decide) h⟩);refine pD 3 _ _ _ _ (⟨λh=>absurd h (show¬2<2 by decide),λ_=>⟨[],Pi _ (by omega),?_⟩⟩);refine pK 2 _ _ _ _ (⟨λ_=>⟨a,rfl,by simp;omega,by omega,?_⟩,λh=>absurd (show 0<2 by decide) h⟩);refine pK 1 _ _ _ _ (⟨λ_=>⟨b,rfl,by simp;omega,by omega,?_⟩,λh=>absurd (show 1<2 by decide) h⟩);exact pK 0 _ _ _ _ (⟨λh=>absurd h (show¬2<2 by decide),λ_=>rfl⟩)
variable{x:Cx}{s:Sv}
theorem eT(k:Int)(b:List Int)(h1:x.pa.length+b.length≤1000000000)(h2:s.fa.length+1≤1000000000):ckF x s k b (faP x k b s):=
 rS_typing_checker_fault 0 _ _ _ _ (⟨_,MC x.pa b h1,by simp[mkC];omega,rfl⟩)
theorem lS(i:Int)(h:x.pa.length+1≤1000000000):ckN x s i:=vy 0 _ _ _ (⟨by simp[mkC];omega,rfl⟩)
theorem ko(i:Int):ckD x s i:=vz 0 _ _ (⟨x.pa.length,by simp[mkC,Cx.go],by simp[mkC,Cx.go],by simp[mkC,Cx.go]⟩)
theorem Nd(h:0<s.tg.length):jo (mkC x s) (s.tg.headD noT) (mkC x (bT s)):=by
 obtain⟨tg,fa,rs,rl⟩:=s;cases tg with
 |nil=>simp at h
 |cons g r=>exact wU 0 _ _ _ (⟨g,rfl,by simp[mkC],rfl,rfl⟩)
theorem kR(a b:Kn):cz a b (aZ a b):=AX 0 _ _ _ (⟨λh1=>⟨λh2=>by simp[aZ,h1,h2],λh2=>by simp[aZ,h1,h2]⟩,λh1=>by simp[aZ,h1]⟩)
theorem Ry(a b:List Int)(ha:a.length≤1000000000):qy a b (decide (a=b)):=by
 by_cases hl:a.length=b.length
 ·have key:∀k i,a.length-i≤k→a.take i=b.take i→lE (k+1) a b i (decide (a=b)):=by
   intro k
   induction k with
   |zero=>
    intro i hi ht;refine tp 0 _ _ _ _ (⟨λh=>by omega,λ_=>?_⟩);rw[List.take_of_length_le (by omega),List.take_of_length_le (by omega)]at ht;simp[ht]
   | succ k ih=>
    intro i hi ht;refine tp (k+1) _ _ _ _ (⟨λh=>?_,λh=>?_⟩)
    ·have h':i<b.length:=by omega
     refine⟨a[i],List.getElem?_eq_getElem h,b[i],List.getElem?_eq_getElem h',λhn=>?_,λhe=>⟨by omega,ih (i+1) (by omega) ?_⟩⟩
     ·have :a≠b:=λe=>hn (by subst e;rfl);simp[this]
     ·rw[List.take_add_one,List.take_add_one,ht,List.getElem?_eq_getElem h,List.getElem?_eq_getElem h',he]
    ·rw[List.take_of_length_le (by omega),List.take_of_length_le (by omega)]at ht;simp[ht]
  exact tY (a.length+1) _ _ _ (⟨λh=>absurd hl h,λ_=>key a.length 0 (by omega) rfl⟩)
 ·exact tY 0 _ _ _ (⟨λ_=>by
   have :a≠b:=λe=>hl (by rw[e]);simp[this],λh=>absurd h hl⟩)
theorem PW{s':Sv}{env:Env}{k:Kn}(J:t.kids[i]?=some u)(O:x.pa.length+1≤1000000000)(h:ckE (x.go i) s u env k s'):ckK x s t i env k (knS x i k s'):=by
 have U:(x.pa++[(i:Int)]).length≤1000000000:=by simp;omega
 have Z:=Ry (x.pa++[(i:Int)]) x.wp U;unfold knS;by_cases h1:x.mo=x.wm
 ·by_cases h2:x.pa++[(i:Int)]=x.wp
  ·rw[if_pos ⟨h1,h2⟩];refine lX 0 _ _ _ _ _ _ (⟨_,lS (i:Int) O,i,rfl,u,J,_,_,h,λ_=>⟨_,Z,λ_=>⟨_,ko (x:=x) (s:={s' with rs:=k.simple,rl:=k.lists}) i,rfl,rfl⟩,λhb=>?_⟩,λG=>absurd h1 G⟩);rw[decide_eq_true h2]at hb;cases hb
  ·rw[if_neg (λh=>h2 h.2)];refine lX 0 _ _ _ _ _ _ (⟨_,lS (i:Int) O,i,rfl,u,J,_,_,h,λ_=>⟨_,Z,λhb=>?_,λ_=>⟨_,ko (x:=x) (s:=s') i,rfl,rfl⟩⟩,λG=>absurd h1 G⟩);rw[decide_eq_false h2]at hb;cases hb
 ·rw[if_neg (λh=>h1 h.1)];exact lX 0 _ _ _ _ _ _ (⟨_,lS (i:Int) O,i,rfl,u,J,_,_,h,λG=>absurd G h1,λ_=>⟨_,ko (x:=x) (s:=s') i,rfl,rfl⟩⟩)
theorem Lm{x:Cx}{s:Sv}(t:Tree)(h1:x.pa.length≤1000000000)(h2:s.fa.length+1≤1000000000):∀env:Env,fg (env.length+1) (mkC x s) t env (tN x s (jc t.text env)).1 (mkC x (tN x s (jc t.text env)).2)
 |[]=>mr 0 _ _ _ _ _ (⟨λ_=>⟨_,eT (x:=x) (s:=s) 1 [] (by simpa using h1) h2,rfl,rfl⟩,λy r h=>(by cases h)⟩)
 | b::r=>by
  refine mr (r.length+1) _ _ _ _ _ (⟨λh=>(by cases h),λy r' h=>?_⟩);injection h with e1 e2;subst e1 e2
  refine⟨λhb=>?_,λhb=>?_⟩
  ·rw[show jc t.text (b::r)=some b.typ from if_pos hb];exact⟨rfl,rfl⟩
  ·rw[show jc t.text (b::r)=jc t.text r from if_neg hb];exact Lm t h1 h2 r
theorem RI(t:Tree)(env:Env)(h1:x.pa.length≤1000000000)(h2:s.fa.length+1≤1000000000):ckV x s t env (tN x s (jc t.text env)).1 (tN x s (jc t.text env)).2:=
 rS_typing_checker_variable (env.length+1) _ _ _ _ _ (Lm t h1 h2 env)
end Go.Proofs.YtomplbgchbfjpaaGreatDoor
