/- Contracts of the functions that the law reaches, part 9. -/
import Derived.Test.YthnohcipianijaaGreatDoorTy8
set_option linter.unusedVariables false
set_option linter.unusedSimpArgs false
namespace Go.Proofs.YthnohcipianijaaGreatDoor
open _root_.Go.Proofs.Tryz
open Go.RowKit
variable{i:Nat}
variable{S:Nat->Prop}{x:Value}
variable{k:Nat}{xs:List Value}
open Go.RowKit Lx Sx
set_option maxRecDepth 100000
variable{t:Tree}
set_option maxHeartbeats 1100000
theorem Nk:zr sa (Eu Jw 5000 27 [.str Om])=true:=by kernel_rfl
theorem yY:kbulk [sa]<=1100000:=by decide+kernel
theorem Rt:(dR [sa] 0 0 [dI 2] 100).2=(25,0)∧sameD (dR [sa] 0 0 [dI 2] 100).1 (dI 3)=true∧gq (dR [sa] 0 0 [dI 2] 100).1=true:=by decide+kernel
theorem QD:(dR [sa] 0 0 [dI 2] 5).2=(5,21):=by decide+kernel
theorem Nz:pF true:=by
 obtain⟨a1,G,J⟩:=Rt;have O:=QD;have Z:=JX yY 0 0 [dI 2] (by simp) 100;have r2:=JX yY 0 0 [dI 2] (by simp) 5;have hw:=OD yY 0 0 [dI 2] 100;have hn:=Im (dR [sa] 0 0 [dI 2] 100).1
 revert a1 G J O Z r2 hw hn
 generalize dR [sa] 0 0 [dI 2] 100=x;generalize dR [sa] 0 0 [dI 2] 5=y;obtain⟨x1,x2,x3⟩:=x;obtain⟨y1,y2,y3⟩:=y;intro a1 G J O Z r2 hw hn;simp only[Prod.mk.injEq]at a1 G J O Z r2 hw hn;obtain⟨rfl,rfl⟩:=a1;obtain⟨rfl,rfl⟩:=O;refine vg 5 _ ⟨sa,0,0,Pe Nk,_,wO 2,_,_,_,Z,uw 4 _ _ _ _ _ _ ⟨_,wO 2,_,_,_,r2,ux 3 _ _ _ _ _ _ _ ⟨λ_=>⟨λ_=>⟨λ_=>⟨_,wO 3,_,Ko x1 (by omega) _,λ_=>⟨λ_=>⟨λ_=>⟨_,GF x1,J⟩,λh=>absurd rfl h⟩,λh=>absurd rfl h⟩,λh=>by rw[G]at h;cases h⟩,λh=>absurd rfl h⟩,λh=>absurd rfl h⟩,λh=>absurd rfl h⟩⟩⟩
theorem aw9:cU true:=Nz
def Dc(L:YI)(a:Int):Prop:=0<=a∧a<=L.length∧L.length<=1000000000
variable{a:Int}
theorem SM{n:Int}(G:0<n)(J:n<=1000000000):∃r,pc a n r∧0<=r∧r<n:=by
 have h1:=Int.lt_tmod_of_pos a G;have h2:=Int.tmod_lt_of_pos a G;by_cases h:Int.tmod a n<0
 ·exact⟨_,sZ 0 _ _ _ ⟨by omega,λ_=>⟨by omega,I⟩,λh'=>absurd h h'⟩,by omega,by omega⟩
 ·exact⟨_,sZ 0 _ _ _ ⟨by omega,λh'=>absurd h' h,λ_=>I⟩,by omega,by omega⟩
variable{L:YI}
theorem eb{n:Int}(O:Dc L a)(Z:0<n)(G:n<=1000000000):∃r a',aH L a n r L a'∧(0<=r∧r<n)∧Dc L a':=by
 obtain⟨h0,h1,h2⟩:=O;by_cases h:(L.length:Int)<=a
 ·exact⟨0,a,nv 0 _ _ _ _ _ _ ⟨λ_=>⟨I,I,I⟩,λh'=>absurd h h'⟩,by omega,h0,h1,h2⟩
 ·obtain⟨x,hx,_⟩|h':=aV L a.toNat
  ·obtain⟨r,hr,J⟩:=SM (a:=x) Z G;exact⟨r,a+1,nv 0 _ _ _ _ _ _ ⟨λh'=>absurd h' h,λ_=>⟨by omega,by omega,a.toNat,by omega,x,hx,r,hr,I,I,I⟩⟩,J,by omega,by omega,h2⟩
  ·omega
theorem kX(G:Dc L a)(l:List YB)(Z:0<l.length)(J:l.length<=1000000000):∃s a',bz L a l s L a'∧s∈l∧Dc L a':=by
 obtain⟨r,a',h1,h2,O⟩:=eb G (n:=(l.length:Int)) (by omega) (by omega);obtain⟨x,hx,_⟩|h':=aV l r.toNat
 ·exact⟨x,a',ym 0 _ _ _ _ _ _ ⟨_,_,_,h1,r.toNat,by omega,x,hx,I,I,I⟩,List.mem_of_getElem? hx,O⟩
 ·omega
def Gt(L:YI)(C:Tree->Int->Prop)(B:Nat):Prop:=∃t a',C t a'∧Dc L a'∧tbulk t<=B
theorem Gt.map{C C':Tree->Int->Prop}{B B':Nat}(h:Gt L C B)(hb:B<=B')(k:∀t a',C t a'->C' t a'):Gt L C' B':=by obtain⟨t,a',h1,h2,G⟩:=h;exact⟨t,a',k t a' h1,h2,by omega⟩
theorem jJ{l:List YB}{s:YB}(h:s∈l)(G:l.all (λx=>decide<|x.length<=5)=true):s.length<=5:=by have :=List.all_eq_true.1 G s h;simpa using this
theorem tb0(k:Int)(s:YB):tbulk (.node k s [] [])=s.length+1:=by simp[tbulk,ep,kbulk]
theorem tb1(k:Int)(s:YB)(t:Tree):tbulk (.node k s [] [t])=s.length+tbulk t+1:=by simp[tbulk,ep,kbulk]
theorem tb2(k:Int)(s:YB)(t u:Tree):tbulk (.node k s [] [t,u])=s.length+tbulk t+tbulk u+1:=by simp[tbulk,ep,kbulk];omega
theorem tb3(k:Int)(s:YB)(t u v:Tree):tbulk (.node k s [] [t,u,v])=s.length+tbulk t+tbulk u+tbulk v+1:=by simp[tbulk,ep,kbulk];omega
theorem tbK(k:Int)(s:YB)(l:YT):tbulk (.node k s [] l)=s.length+kbulk l+1:=by simp[tbulk,ep]
theorem Jo:∀(d:Nat) {a:Int},Dc L a->d<=100->Gt L (λt a'=>de L a d t L a'∧lisK t<=d) (6+d):=λd=>by
 induction d with
 | zero=>
  intro a hd _;obtain⟨r,a1,h1,h2,h3⟩:=eb hd (n:=7) (by omega) (by omega);have top:∀{t a'},hO 1 0 r L a1 false t L a'->r≠0->r≠1->de L a 0 t L a':=λh n0 n1=>kw 1 _ _ _ _ _ _ ⟨_,_,_,h1,λe=>absurd e n0,λ_=>by rw[show(r==1)=false by simpa using n1];exact h⟩;by_cases e0:r=0∨r=1
  ·refine⟨_,a1,⟨kw 1 _ _ _ _ _ _ ⟨_,_,_,h1,λe=>bG 0 _ _ _ _ _ _ _ _ ⟨λ_=>⟨rfl,rfl,rfl⟩,λh=>nomatch h⟩,λe=>bG 0 _ _ _ _ _ _ _ _ ⟨λ_=>⟨rfl,rfl,rfl⟩,λh=>?_⟩⟩,by simp[lisK]⟩,h3,by rw[tb0];simp only[aae];omega⟩;rcases e0 with e0|e0
   ·exact absurd e0 e
   ·rw[e0]at h;cases h
  ·by_cases e2:r=2
   ·exact⟨_,a1,⟨top (bG 0 _ _ _ _ _ _ _ _ ⟨λh=>(nomatch h),λ_=>⟨λ_=>⟨rfl,rfl,rfl⟩,λh=>absurd e2 h⟩⟩) (by omega) (by omega),by simp[lisK]⟩,h3,by rw[tb0];simp only[aae];omega⟩
   ·by_cases e3:r=3
    ·exact⟨_,a1,⟨top (bG 0 _ _ _ _ _ _ _ _ ⟨λh=>(nomatch h),λ_=>⟨λh=>absurd h e2,λ_=>⟨λ_=>⟨rfl,rfl,rfl⟩,λh=>absurd e3 h⟩⟩⟩) (by omega) (by omega),by simp[lisK]⟩,h3,by rw[tb0];simp only[aae];omega⟩
    ·by_cases e4:r=4
     ·obtain⟨s,a2,g1,g2,g3⟩:=kX h3 [[84],[85],[65,46,84],[66,46,85]] (by decide) (by decide);have :=jJ g2 (by decide);exact⟨_,a2,⟨top (bG 0 _ _ _ _ _ _ _ _ ⟨λh=>(nomatch h),λ_=>⟨λh=>absurd h e2,λ_=>⟨λh=>absurd h e3,λ_=>⟨λ_=>⟨_,_,_,g1,rfl,rfl,rfl⟩,λh=>absurd e4 h⟩⟩⟩⟩) (by omega) (by omega),by simp[lisK]⟩,g3,by rw[tb0];omega⟩
     ·exact⟨_,a1,⟨top (bG 0 _ _ _ _ _ _ _ _ ⟨λh=>(nomatch h),λ_=>⟨λh=>absurd h e2,λ_=>⟨λh=>absurd h e3,λ_=>⟨λh=>absurd h e4,λ_=>⟨λ_=>⟨rfl,rfl,rfl⟩,λh=>by omega⟩⟩⟩⟩⟩) (by omega) (by omega),by simp[lisK]⟩,h3,by rw[tb0];simp only[aae];omega⟩
 | succ d ih=>
  intro a hd hd100;obtain⟨r,a1,h1,h2,h3⟩:=eb hd (n:=7) (by omega) (by omega);have top:∀{t a'},hO 1 ((d+1:Nat):Int) r L a1 false t L a'->r≠0->r≠1->de L a ((d+1:Nat):Int) t L a':=λh n0 n1=>kw 1 _ _ _ _ _ _ ⟨_,_,_,h1,λe=>absurd e n0,λ_=>by rw[show(r==1)=false by simpa using n1];exact h⟩;by_cases e0:r=0∨r=1
  ·refine⟨_,a1,⟨kw 1 _ _ _ _ _ _ ⟨_,_,_,h1,λe=>bG 0 _ _ _ _ _ _ _ _ ⟨λ_=>⟨rfl,rfl,rfl⟩,λh=>nomatch h⟩,λe=>bG 0 _ _ _ _ _ _ _ _ ⟨λ_=>⟨rfl,rfl,rfl⟩,λh=>?_⟩⟩,by simp[lisK]⟩,h3,by rw[tb0];simp only[aae];omega⟩;rcases e0 with e0|e0
   ·exact absurd e0 e
   ·rw[e0]at h;cases h
  ·by_cases e2:r=2
   ·exact⟨_,a1,⟨top (bG 0 _ _ _ _ _ _ _ _ ⟨λh=>(nomatch h),λ_=>⟨λ_=>⟨rfl,rfl,rfl⟩,λh=>absurd e2 h⟩⟩) (by omega) (by omega),by simp[lisK]⟩,h3,by rw[tb0];simp only[aae];omega⟩
   ·by_cases e3:r=3
    ·exact⟨_,a1,⟨top (bG 0 _ _ _ _ _ _ _ _ ⟨λh=>(nomatch h),λ_=>⟨λh=>absurd h e2,λ_=>⟨λ_=>⟨rfl,rfl,rfl⟩,λh=>absurd e3 h⟩⟩⟩) (by omega) (by omega),by simp[lisK]⟩,h3,by rw[tb0];simp only[aae];omega⟩
    ·by_cases e4:r=4
     ·obtain⟨s,a2,g1,g2,g3⟩:=kX h3 [[84],[85],[65,46,84],[66,46,85]] (by decide) (by decide);have :=jJ g2 (by decide);exact⟨_,a2,⟨top (bG 0 _ _ _ _ _ _ _ _ ⟨λh=>(nomatch h),λ_=>⟨λh=>absurd h e2,λ_=>⟨λh=>absurd h e3,λ_=>⟨λ_=>⟨_,_,_,g1,rfl,rfl,rfl⟩,λh=>absurd e4 h⟩⟩⟩⟩) (by omega) (by omega),by simp[lisK]⟩,g3,by rw[tb0];omega⟩
     ·obtain⟨t,a2,⟨g1,gl⟩,g2,g3⟩:=ih h3 (by omega);have g1':de L a1 (((d+1:Nat):Int)-1) t L a2:=by rw[show((d+1:Nat):Int)-1=(d:Int) by omega];exact g1
      exact⟨_,a2,⟨top (bG 0 _ _ _ _ _ _ _ _ ⟨λh=>(nomatch h),λ_=>⟨λh=>absurd h e2,λ_=>⟨λh=>absurd h e3,λ_=>⟨λh=>absurd h e4,λ_=>⟨λh=>by omega,λ_=>⟨by omega,_,_,_,g1',rfl,rfl,rfl⟩⟩⟩⟩⟩⟩) (by omega) (by omega),by simp only[lisK,lisH,if_true];omega⟩,g2,by rw[tb1];simp only[aae];omega⟩
def eB:Nat->Nat
 |0=>6
 |d+1=>3*eB d+20
section
variable{L:YI}{d a z:Int}{t:Tree}{a':Int}{m:Nat}
theorem up2(G:z≠0)(h1:z≠1)(h:jv m d L a z t L a'):cY (m+2) d L a z t L a':=
 rL0_semvcsmake_Expr (m+1) _ _ _ _ _ _ _ ⟨λe=>absurd e G,λ_=>lU m _ _ _ _ _ _ _ _ ⟨λe=>absurd (eq_of_beq e) h1,λ_=>h⟩⟩
theorem up6(h2:z≠2)(G:z≠3)(J:z≠4)(O:z≠5)(h:jD m d L a z t L a'):jv (m+4) d L a z t L a':=
 rL2_semvcsmake_Expr (m+3) _ _ _ _ _ _ _ ⟨λe=>absurd e h2,λ_=>fS (m+2) _ _ _ _ _ _ _ ⟨λe=>absurd e G,λ_=>iU (m+1) _ _ _ _ _ _ _ ⟨λe=>absurd e J,λ_=>lY m _ _ _ _ _ _ _ ⟨λe=>absurd e O,λ_=>h⟩⟩⟩⟩
theorem up9(G:z≠6)(J:z≠7)(h:gs m d L a z t L a'):jD (m+2) d L a z t L a':=
 rL6_semvcsmake_Expr (m+1) _ _ _ _ _ _ _ ⟨λe=>absurd e G,λ_=>mc m _ _ _ _ _ _ _ _ ⟨λe=>absurd (eq_of_beq e) J,λ_=>h⟩⟩
theorem Ry(G:z≠8)(h:iY m d L a z t L a'):gs (m+1) d L a z t L a':=ru m _ _ _ _ _ _ _ ⟨λe=>absurd e G,λ_=>h⟩
theorem Td(G:z≠9)(h:fO m d L a z t L a'):iY (m+1) d L a z t L a':=rh m _ _ _ _ _ _ _ ⟨λe=>absurd e G,λ_=>h⟩
theorem Tz(G:z≠10)(J:z≠11)(h:iS m d L a z t L a'):fO (m+2) d L a z t L a':=
 rL14_semvcsmake_Expr (m+1) _ _ _ _ _ _ _ ⟨λe=>absurd e G,λ_=>lr m _ _ _ _ _ _ _ _ ⟨λe=>absurd (eq_of_beq e) J,λ_=>h⟩⟩
end
theorem Bt{d z:Int}(M:Nat)(hd:Dc L a)(h0:0<=z)(h5:z<=5):Gt L (λt a'=>cY (M+8) d L a z t L a') 6:=by
 by_cases e0:z=0∨z=1
 ·obtain⟨s,J,G,Z,O⟩:=kX hd [[120],[121],[122]] (by decide) (by decide);have :=jJ Z (by decide);refine⟨_,J,rL0_semvcsmake_Expr (M+7) _ _ _ _ _ _ _ ⟨λe=>lU (M+6) _ _ _ _ _ _ _ _ ⟨λ_=>⟨_,_,_,G,I,I,I⟩,λh=>nomatch h⟩,λe=>lU (M+6) _ _ _ _ _ _ _ _ ⟨λ_=>⟨_,_,_,G,I,I,I⟩,λh=>?_⟩⟩,O,by rw[tb0];omega⟩;rcases e0 with e0|e0
  ·exact absurd e0 e
  ·rw[e0]at h;exact absurd h (by decide)
 have n0:z≠0:=by omega
 have n1:z≠1:=by omega
 by_cases e2:z=2
 ·obtain⟨s,J,G,Z,O⟩:=kX hd [[48],[49],[50],[49,48]] (by decide) (by decide);have :=jJ Z (by decide);exact⟨_,J,up2 n0 n1<|rL2_semvcsmake_Expr (M+5) _ _ _ _ _ _ _ ⟨λ_=>⟨_,_,_,G,I,I,I⟩,λh=>absurd e2 h⟩,O,by rw[tb0];omega⟩
 by_cases e3:z=3
 ·obtain⟨s,J,G,Z,O⟩:=kX hd [[34,34],[34,97,34],[34,35,32,98,34]] (by decide) (by decide);have :=jJ Z (by decide);exact⟨_,J,up2 n0 n1<|rL2_semvcsmake_Expr (M+5) _ _ _ _ _ _ _ ⟨λh=>absurd h e2,λ_=>fS (M+4) _ _ _ _ _ _ _ ⟨λ_=>⟨_,_,_,G,I,I,I⟩,λh=>absurd e3 h⟩⟩,O,by rw[tb0];omega⟩
 by_cases e4:z=4
 ·obtain⟨r,J,G,Z,O⟩:=eb hd (n:=2) (by omega) (by omega);exact⟨_,J,up2 n0 n1 (rL2_semvcsmake_Expr (M+5) _ _ _ _ _ _ _ ⟨λh=>absurd h e2,λ_=>fS (M+4) _ _ _ _ _ _ _ ⟨λh=>absurd h e3,λ_=>iU (M+3) _ _ _ _ _ _ _ ⟨λ_=>⟨_,_,_,G,by omega,rfl,rfl,rfl⟩,λh=>absurd e4 h⟩⟩⟩),O,by rw[tb0];simp only[aae];omega⟩
 have e5:z=5:=by omega
 obtain⟨r,J,G,Z,O⟩:=eb hd (n:=3) (by omega) (by omega);by_cases er:r=0
 ·exact⟨_,J,up2 n0 n1<|rL2_semvcsmake_Expr (M+5) _ _ _ _ _ _ _ ⟨λh=>absurd h e2,λ_=>fS (M+4) _ _ _ _ _ _ _ ⟨λh=>absurd h e3,λ_=>iU (M+3) _ _ _ _ _ _ _ ⟨λh=>absurd h e4,λ_=>lY (M+2) _ _ _ _ _ _ _ ⟨λ_=>⟨_,_,_,G,λ_=>⟨rfl,rfl,rfl⟩,λh=>absurd er h⟩,λh=>absurd e5 h⟩⟩⟩⟩,O,by rw[tb0];simp only[aae];omega⟩
 ·exact⟨_,J,up2 n0 n1<|rL2_semvcsmake_Expr (M+5) _ _ _ _ _ _ _ ⟨λh=>absurd h e2,λ_=>fS (M+4) _ _ _ _ _ _ _ ⟨λh=>absurd h e3,λ_=>iU (M+3) _ _ _ _ _ _ _ ⟨λh=>absurd h e4,λ_=>lY (M+2) _ _ _ _ _ _ _ ⟨λ_=>⟨_,_,_,G,λh=>absurd h er,λ_=>⟨rfl,rfl,rfl⟩⟩,λh=>absurd e5 h⟩⟩⟩⟩,O,by rw[tb0];simp⟩
theorem GH(Z:Dc L a):Gt L (λt a'=>aW L a 0 t L a') 6:=by
 obtain⟨r,a1,h1,h2,G⟩:=eb Z (n:=14) (by omega) (by omega);by_cases J:5<r
 ·by_cases O:5<r-6
  ·exact(Bt 0 (d:=0) G (z:=0) (by omega)<|by omega).map (aaf _) λt a' h=>jI 8 _ _ _ _ _ _ ⟨_,_,_,h1,λ_=>⟨λ_=>⟨by omega,λ_=>h,λh'=>absurd O h'⟩,λh'=>absurd J h'⟩,λh'=>by omega⟩
  ·exact(Bt 0 (d:=0) G (z:=r-6) (by omega)<|by omega).map (aaf _) λt a' h=>jI 8 _ _ _ _ _ _ ⟨_,_,_,h1,λ_=>⟨λ_=>⟨by omega,λh'=>absurd h' O,λ_=>h⟩,λh'=>absurd J h'⟩,λh'=>by omega⟩
 ·exact(Bt 0 (d:=0) G (z:=r) (by omega)<|by omega).map (aaf _) λt a' h=>jI 8 _ _ _ _ _ _ ⟨_,_,_,h1,λ_=>⟨λh'=>absurd h' J,λ_=>h⟩,λh'=>by omega⟩
theorem Ba{k:Int}{B:Nat}(h:Gt L (λt a'=>aW L a k t L a') B):Gt L (λt a'=>fC L a k t L a') (B+1):=by
 obtain⟨t,G,J,O,g3⟩:=h;cases Z:uI t.kind with
 |true=>exact⟨t,G,sJ 0 _ _ _ _ _ _ ⟨_,_,_,J,_,yU _,λh=>absurd (Z.symm.trans h) (by decide),λ_=>⟨rfl,rfl,rfl⟩⟩,O,by omega⟩
 |false=>exact⟨_,G,sJ 0 _ _ _ _ _ _ ⟨_,_,_,J,_,yU _,λ_=>⟨rfl,rfl,rfl⟩,λh=>absurd (Z.symm.trans h)<|by decide⟩,O,by rw[tb1];simp only[aae];omega⟩
theorem KM:∀d,6<=eB d
 |0=>aaf _
 |d+1=>by have :=KM d;simp only[eB];omega
theorem Qv:∀(d:Nat) {a:Int},Dc L a->d<=5->Gt L (λt a'=>aW L a d t L a') (eB d):=λd=>by
 induction d with
 |zero=>intro a hd _;exact GH hd
 | succ d ih=>
  intro a hd hd5;obtain⟨z,a1,h1,h2,h3⟩:=eb hd (n:=14) (by omega) (by omega);have top:∀{M t a'},cY M ((d+1:Nat):Int) L a1 z t L a'->aW L a ((d+1:Nat):Int) t L a':=λ{M} {t} {a'} h=>jI M _ _ _ _ _ _ ⟨_,_,_,h1,λh'=>by omega,λ_=>h⟩;have sub:∀{a},Dc L a->Gt L (λt a'=>aW L a (((d+1:Nat):Int)-1) t L a') (eB d):=λ{a} h=>by rw[show((d+1:Nat):Int)-1=(d:Int) by omega];exact ih h (by omega)
  have hB:eB (d+1)=3*eB d+20:=rfl;have hp:=KM d;by_cases c5:z<=5
  ·exact(Bt 0 (d:=((d+1:Nat):Int)) h3 (by omega) c5).map (by omega) λt a' h=>top h
  have n0:z≠0:=by omega
  have n1:z≠1:=by omega
  have n2:z≠2:=by omega
  have n3:z≠3:=by omega
  have n4:z≠4:=by omega
  have n5:z≠5:=by omega
  by_cases c7:z<=7
  ·
   obtain⟨s,a2,g1,g2,g3⟩:=kX h3 [[102],[103],[104],[65,46,102],[66,46,103],[65,46,104]] (by decide) (by decide);have hs:=jJ g2 (by decide);obtain⟨n,a3,g4,g5,g6⟩:=eb g3 (n:=4) (by omega) (by omega);have loop:∀(k:Nat) (a:Int) (l:YT),Dc L a->l.length+k<=100->Gt L (λt a'=>jc (k+1) ((d+1:Nat):Int) s L a l (k:Int) t L a') (s.length+1+kbulk l+k*(eB d+1)):=λk=>by
    induction k with
    |zero=>intro a l hd hl;exact⟨_,a,pZ 0 _ _ _ _ _ _ _ _ _ ⟨λh=>by omega,λ_=>⟨rfl,rfl,rfl⟩⟩,hd,by rw[tbK];omega⟩
    |succ k ihk=>
     intro a l hd hl;obtain⟨t,b,q1,q2,q3⟩:=sub hd;refine(ihk b (l++[.node 17 [] [] [t]]) q2 (by simp;omega)).map ?_ λt' a' h=>pZ (k+1) _ _ _ _ _ _ _ _ _ ⟨λ_=>⟨by omega,_,_,_,q1,by simp;omega,by omega,by rw[show((k+1:Nat):Int)-1=(k:Int) by omega];exact h⟩,λh=>by omega⟩;rw[gm,Nat.succ_mul];simp only[kbulk,tb1,aae];omega
   refine(loop n.toNat a3 [] g6 (by simp;omega)).map (by
    have :n.toNat*(eB d+1)<=3*(eB d+1):=Nat.mul_le_mul_right _ (by omega);simp only[kbulk];omega) λt a' h=>?_
   have h8:mS (n.toNat+2) ((d+1:Nat):Int) L a1 t L a':=yk (n.toNat+1) _ _ _ _ _ _ ⟨_,_,_,g1,_,_,_,g4,by rw[show n=((n.toNat:Nat):Int) by omega];exact h⟩;refine top<|up2 n0 n1<|up6 n2 n3 n4 n5<|rL6_semvcsmake_Expr (n.toNat+3) _ _ _ _ _ _ _ ⟨λ_=>mc (n.toNat+2) _ _ _ _ _ _ _ _ ⟨λ_=>h8,λh=>nomatch h⟩,λh=>mc (n.toNat+2) _ _ _ _ _ _ _ _ ⟨λ_=>h8,λh'=>?_⟩⟩;have :z≠7:=by simpa using h'
   omega
  have n6:z≠6:=by omega
  have n7:z≠7:=by omega
  have t9:∀{M t a'},gs M ((d+1:Nat):Int) L a1 z t L a'->aW L a ((d+1:Nat):Int) t L a':=λh=>top<|up2 n0 n1<|up6 n2 n3 n4 n5<|up9 n6 n7 h;by_cases c8:z=8
  ·
   obtain⟨n,a3,g4,g5,g6⟩:=eb h3 (n:=3) (by omega) (by omega);have loop:∀(k:Nat) (a:Int) (l:YT),Dc L a->l.length+k<=100->Gt L (λt a'=>iZ (k+1) ((d+1:Nat):Int) L a l (k:Int) t L a') (1+kbulk l+k*(eB d)):=λk=>by
    induction k with
    |zero=>intro a l hd hl;exact⟨_,a,qn 0 _ _ _ _ _ _ _ _ ⟨λh=>by omega,λ_=>⟨rfl,rfl,rfl⟩⟩,hd,by rw[tbK];simp only[aae];omega⟩
    |succ k ihk=>
     intro a l hd hl;obtain⟨t,b,q1,q2,q3⟩:=sub hd;refine(ihk b (l++[t]) q2 (by simp;omega)).map ?_ λt' a' h=>qn (k+1) _ _ _ _ _ _ _ _ ⟨λ_=>⟨by omega,_,_,_,q1,by simp;omega,by omega,by rw[show((k+1:Nat):Int)-1=(k:Int) by omega];exact h⟩,λh=>by omega⟩;rw[gm,Nat.succ_mul];simp only[kbulk];omega
   exact(loop (1+n).toNat a3 [] g6 (by simp;omega)).map (by
    have :(1+n).toNat*eB d<=3*eB d:=Nat.mul_le_mul_right _ (by omega);simp only[kbulk];omega) λt a' h=>t9 (ru ((1+n).toNat+1) _ _ _ _ _ _ _ ⟨λ_=>⟨_,_,_,g4,by omega,by rw[show(((1+n).toNat:Nat):Int)=1+n by omega]at h;exact h⟩,λh'=>absurd c8 h'⟩)
  by_cases c9:z=9
  ·obtain⟨t1,b1,q1,r1,s1⟩:=sub h3;obtain⟨t2,b2,q2,r2,s2⟩:=sub r1;obtain⟨t3,b3,q3,r3,s3⟩:=sub r2;exact⟨_,b3,t9 (Ry c8<|rh 1 _ _ _ _ _ _ _ ⟨λ_=>xz 0 _ _ _ _ _ _ ⟨by omega,_,_,_,q1,by omega,_,_,_,q2,by omega,_,_,_,q3,rfl,rfl,rfl⟩,λh=>absurd c9 h⟩),r3,by rw[tb3];simp only[aae];omega⟩
  have t14:∀{M t a'},fO M ((d+1:Nat):Int) L a1 z t L a'->aW L a ((d+1:Nat):Int) t L a':=λh=>t9<|Ry c8<|Td c9 h;by_cases c11:z<=11
  ·obtain⟨s,b0,g1,g2,g3⟩:=kX h3 [[120],[121],[122]] (by decide) (by decide);have hs:=jJ g2 (by decide);obtain⟨t1,b1,q1,r1,s1⟩:=sub g3;obtain⟨t2,b2,q2,r2,s2⟩:=sub r1;refine⟨.node 20 s [] [t1,t2],b2,?_,r2,by rw[tb2];omega⟩;have h16:lZ 1 ((d+1:Nat):Int) L a1 (.node 20 s [] [t1,t2]) L b2:=wY 0 _ _ _ _ _ _ ⟨_,_,_,g1,by omega,_,_,_,q1,by omega,_,_,_,q2,rfl,rfl,rfl⟩;refine t14<|rL14_semvcsmake_Expr 2 _ _ _ _ _ _ _ ⟨λ_=>lr 1 _ _ _ _ _ _ _ _ ⟨λ_=>h16,λh=>nomatch h⟩,λh=>lr 1 _ _ _ _ _ _ _ _ ⟨λ_=>h16,λh'=>?_⟩⟩;have :z≠11:=by simpa using h'
   omega
  have t17:∀{M t a'},iS M ((d+1:Nat):Int) L a1 z t L a'->aW L a ((d+1:Nat):Int) t L a':=λh=>t14 (Tz (by omega) (by omega) h);by_cases c12:z=12
  ·obtain⟨s,b0,g1,g2,g3⟩:=kX h3 [[43],[45],[42],[60],[61,61]] (by decide) (by decide);have hs:=jJ g2 (by decide);obtain⟨t1,b1,q1,r1,s1⟩:=Ba<|sub g3;obtain⟨n,b2,q2,q3,q4⟩:=eb r1 (n:=3) (by omega) (by omega);by_cases hn:n=0
   ·obtain⟨s',b3,g4,g5,g6⟩:=kX q4 [[43],[42]] (by decide) (by decide);have hs':=jJ g5 (by decide);obtain⟨t2,b4,q5,r5,s5⟩:=Ba<|GH g6;obtain⟨t3,b5,q6,r6,s6⟩:=Ba<|sub r5;exact⟨_,b5,t17 (ln 1 _ _ _ _ _ _ _ ⟨λ_=>qq 0 _ _ _ _ _ _ ⟨_,_,_,g1,by omega,_,_,_,q1,_,_,_,q2,λ_=>⟨_,_,_,g4,_,_,_,q5,by omega,_,_,_,q6,I,I,I⟩,λh=>absurd hn h⟩,λh=>absurd c12 h⟩),r6,by rw[tb2,tb2];omega⟩
   ·obtain⟨t3,b5,q6,r6,s6⟩:=Ba<|sub q4;exact⟨_,b5,t17 (ln 1 _ _ _ _ _ _ _ ⟨λ_=>qq 0 _ _ _ _ _ _ ⟨_,_,_,g1,by omega,_,_,_,q1,_,_,_,q2,λh=>absurd h hn,λ_=>⟨by omega,_,_,_,q6,I,I,I⟩⟩,λh=>absurd c12 h⟩),r6,by rw[tb2];omega⟩
  ·obtain⟨t1,b1,q1,r1,s1⟩:=sub h3;exact⟨_,b1,t17 (ln 1 _ _ _ _ _ _ _ ⟨λh=>absurd h c12,λ_=>⟨by omega,_,_,_,q1,rfl,rfl,rfl⟩⟩),r1,by rw[tb1];simp only[aae];omega⟩
open Go.RowKit Lx
def lL:Bool->YB->Bool
 |c,[]=>c
 |c,x::r=>lL (if x.toNat=10 then false else if x.toNat=35 then true else c) r
theorem qB:∀(b:Bool) (l:YB) (n m:Nat),aU b l (n+m)=((aU b l n).1+m,(aU b l n).2.map (·+m))
 |b,[],n,m=>by cases b<;>simp[aU]
 | false,c::r,n,m=>by
  have h1:=qB false r (n+1) m;have h2:=qB true r (n+1) m;unfold aU;split
  ·rw[<-h1];congr 1;omega
  ·split
   ·rw[<-h2];congr 1;omega
   ·simp
 | true,c::r,n,m=>by
  have h1:=qB false r (n+1) m;have h2:=qB true r (n+1) m;unfold aU;split
  ·rw[<-h1];congr 1;omega
  ·split
   ·simp
   ·rw[<-h2];congr 1;omega
def lO(c:Bool)(l:YB):Bool:=(aU c l 0).2.isNone&&(aU c l 0).1==l.length
theorem rX{c d:Bool}{x:UInt8}{r:YB}(h:aU c (x::r) 0=aU d r 1):lO c (x::r)=lO d r:=by unfold lO;rw[h,show(1:Nat)=0+1 from rfl,qB];simp
theorem Bd:∀(l:YB) (c fin:Bool),jj c l fin=(lO c l&&(!lL c l||fin))
 |[],c,fin=>by cases c<;>cases fin<;>rfl
 | x ::r,c,fin=>by
  have ih:=Bd r;unfold jj lL;cases c with
  | true=>
   by_cases ha:be x=false
   ·have h10:¬x.toNat=10:=λh=>by simp[be,ct,h]at ha
    have :lO true (x::r)=false:=by simp[lO,aU,h10,ha]
    rw[if_pos ha,this];rfl
   ·have ha':be x=true:=by simpa using ha
    rw[if_neg ha,if_pos rfl,ih];by_cases h10:x.toNat=10
    ·rw[rX (d:=false)<|by simp[aU,h10]];simp[h10]
    ·have hb:(x.toNat==10)=false:=by simpa using h10
     rw[rX (d:=true) (by simp[aU,h10,ha']),hb];simp[h10]
  | false=>
   by_cases ha:be x=false
   ·have hw:ct x=false:=by cases h:ct x<;>simp_all[be]
    have h35:¬x.toNat=35:=λh=>by simp[be,eu,h]at ha
    have :lO false (x::r)=false:=by simp[lO,aU,hw,h35]
    rw[if_pos ha,this];rfl
   ·rw[if_neg ha,if_neg<|by simp];by_cases h35:x.toNat=35
    ·have hw:ct x=false:=by simp[ct,h35]
     rw[if_pos h35,ih,rX (d:=true)<|by simp[aU,h35,hw]];simp[h35]
    ·rw[if_neg h35];by_cases hw:ct x=false
     ·have :lO false (x::r)=false:=by simp[lO,aU,hw,h35]
      rw[if_pos hw,this];rfl
     ·have hw':ct x=true:=by simpa using hw
      rw[if_neg hw,ih,rX (d:=false)<|by simp[aU,hw']];by_cases h10:x.toNat=10<;>simp[h10,h35]
theorem Dw{l:YB}{x:UInt8}{c:Bool}(h:k<l.length)(G:l[k]=x):lL c (l.drop k)=lL (if x.toNat=10 then false else if x.toNat=35 then true else c) (l.drop<|k+1):=by rw[aam h,G];rfl
theorem Ga{l:YB}{c:Bool}(h:l.length<=k):lL c (l.drop k)=c:=by rw[List.drop_of_length_le h];rfl
set_option maxHeartbeats 1000000 in
theorem Pi (l:List UInt8) (fin:Bool) (w:World) (hl:l.length<=281474976710656):Calls prog 138 #[.string ⟨l.toArray⟩,.bool fin] w λe w'=>e=.returned (.bool<|jj false l fin)∧w=w':=by
  obtain⟨n,b,hLd⟩:∃n b,aU false l 0=(n,b):=⟨_,_,rfl⟩;have hnl:n<=l.length:=by have h:=rS false l 0;rw[hLd]at h;simpa using h
  have HLd:=Lib.hid hLd;have HW:=Lib.hid (show lO false l=(b.isNone&&n==l.length)from by rw[lO,hLd]);have HT:=Lib.hid<|Bd l false fin;clear hLd
  go_enter func138,ntmps138
  go_wp2_with fail
  refine(NW l 0 0 I _ (aar _) hl).mono ?_;rintro e w' ⟨rfl,rfl⟩;rw[List.drop_zero,HLd.out];cases b with
  | some q=>
    have hq2:Am 0 (some q)=((0+q:Nat):Int):=rfl;rw[hq2,Nat.zero_add];have hq:(0:Int)<=(q:Int):=by omega
    have HF:=Lib.hid (show jj false l fin=false from by rw[HT.out,HW.out];rfl)
    go_wp2
    go_ret
    exact⟨bT HF.out.symm,rfl⟩
  | none=>
    have hq2:Am 0 none=-1:=rfl;rw[hq2];clear hq2;by_cases hn:n<l.length
    · have HF := Lib.hid (show jj      false l fin = false from by rw[HT.out,HW.out];have :(n==l.length)=false:=by simp;omega
                                                                   rw[this];rfl)
      go_wp2
      go_ret
      exact⟨bT HF.out.symm,rfl⟩
    · have hnb:decide (n<l.length)=false:=by simpa using hn
      have HF:=Lib.hid (show jj false l fin=(!lL false l||fin)from by
        rw[HT.out,HW.out];have :(n==l.length)=true:=by simp;omega
        rw[this];rfl)
      cases fin with
      | true=>
        go_wp2
        go_ret
        exact⟨bT (by rw[HF.out];simp),rfl⟩
      | false=>
        obtain⟨r,hr⟩:∃r,lL false l=r:=⟨_,rfl⟩;have HR:=Lib.hid hr;clear hr
        go_wp2
        go_loopg [7,8] l.length (λg s7 s8 wx=>∃(i:Nat) (c:Bool),g=l.length-i∧wx=w∧i<=l.length∧s7=.bool c∧s8=.int .i64 i∧Hid (lL c (l.drop i)=r))
        case atStart=>exact⟨0,false,rfl,rfl,aar _,rfl,rfl,Lib.hid<|by simpa using HR.out⟩
        case round=>
          obtain⟨i,c,rfl,rfl,hil,rfl,rfl,HC⟩:=hrel;by_cases hit:i<l.length
          rotate_left
          · have HF2:=Lib.hid (show c=r from by rw[<-HC.out,Ga<|by omega])
            go_wp2_with fail
            go_ret
            exact⟨bT (by rw[HF.out,HR.out,HF2.out];simp),rfl⟩
          obtain⟨x,hx⟩:∃c,({data:=l.toArray}:ByteArray)[i]'hit=c:=⟨_,rfl⟩;have HXi:=Lib.hid<|show l[i]=x from hx;have HS:=Lib.hid<|HC.out.symm.trans<|Dw hit HXi.out;clear HC;cases h35:((x.toNat:Int)==35)<;>cases h10:((x.toNat:Int)==10)
          · go_wp2
            go_roundg (l.length-(i+1))
            case measure=>omega
            case rel=>exact⟨i+1,c,rfl,rfl,by omega,rfl,by go_num,Lib.hid<|by rw[HS.out,if_neg<|cy (m:=10) h10,if_neg<|cy (m:=35) h35]⟩
          · go_wp2
            go_roundg (l.length-(i+1))
            case measure=>omega
            case rel=>exact⟨i+1,false,rfl,rfl,by omega,rfl,by go_num,Lib.hid<|by rw[HS.out,if_pos<|dQ (m:=10) h10]⟩
          · go_wp2
            go_roundg (l.length-(i+1))
            case measure=>omega
            case rel=>exact⟨i+1,true,rfl,rfl,by omega,rfl,by go_num,Lib.hid<|by rw[HS.out,if_neg<|cy (m:=10) h10,if_pos<|dQ (m:=35) h35]⟩
          · have h1:=dQ (m:=10) h10;have h2:=dQ (m:=35) h35;omega
theorem Np(a b:YB):(ByteArray.mk a.toArray)++(ByteArray.mk b.toArray)=⟨(a++b).toArray⟩:=by apply ByteArray.ext;simp
theorem CD{a b:YB}(h:bi a=0∨bi b=0):fusesT a b=false:=by simp[fusesT,h]
theorem uc{a b:YB}(h:¬(bi a=0∨bi b=0))(h2:¬((je<|a++b).err=0∧(je<|a++b).toks.length=2∧(je<|a++b).tail=[])):fusesT a b=true:=by unfold fusesT;rw[if_neg h];simp only;rw[if_neg h2]
theorem JE{a b:YB}{G J:TokZ}(h:¬(bi a=0∨bi b=0))(h1:(je<|a++b).err=0)(h2:(je<|a++b).toks=[G,J])(O:(je<|a++b).tail=[]):
  fusesT a b=!(G.lead==[]&&G.text==a&&J.lead==[]&&J.text==b):=by
 unfold fusesT;rw[if_neg h];simp only;rw[h1,h2,O];simp
theorem Iq{l:YB}{b:Bool}(h:(l==[])=b):l.isEmpty=b:=by rw[<-h];cases l<;>rfl
theorem Ge{l:List TokZ}(h:l.length=2):∃G J,l=[G,J]:=by
 match l,h with
 |[a,b],_=>exact⟨a,b,rfl⟩
set_option maxHeartbeats 2000000 in
theorem RN(a b:YB)(w:World)(ha:a.length<=140737488355328)(hb:b.length<=140737488355328):Calls prog 96 #[.string ⟨a.toArray⟩,.string ⟨b.toArray⟩] w λe w'=>e=.returned (.bool<|fusesT a b)∧Ext w w':=by
 have hx:=Np;obtain⟨ka,J⟩:∃k,bi a=k:=⟨_,rfl⟩;obtain⟨kb,O⟩:∃k,bi b=k:=⟨_,rfl⟩;have HKa:=Lib.hid J;have HKb:=Lib.hid O;clear J O
 go_enter func96,ntmps96
 go_wp2_with fail
 refine(Fh _ _<|by omega).mono ?_;rintro e1 w1 ⟨rfl,Z⟩;rw[HKa.out];have HX1:=Lib.hid Z;clear Z;by_cases h1:ka=0
 ·subst h1
  go_wp2_with fail
  go_ret
  exact⟨bT (CD<|.inl HKa.out).symm,HX1.out⟩
 have h1b:((ka:Int)==0)=false:=by simp;omega
 go_wp2_with fail
 refine(Fh _ _<|by omega).mono ?_;rintro e2 w2 ⟨rfl,hx2⟩;rw[HKb.out];have HX2:=Lib.hid<|HX1.out.trans hx2;clear hx2;by_cases h2:kb=0
 ·subst h2
  go_wp2_with fail
  go_ret
  exact⟨bT (CD<|.inr HKb.out).symm,HX2.out⟩
 have h2b:((kb:Int)==0)=false:=by simp;omega
 have HN:=Lib.hid (show¬(bi a=0∨bi b=0)from by rw[HKa.out,HKb.out];omega);obtain⟨Rs,hRs⟩:∃Rs,je (a++b)=Rs:=⟨_,rfl⟩;have HRs:=Lib.hid hRs;clear hRs
 go_wp2_with fail
 refine(Si _ _ (by simp;omega)).mono ?_;rintro e3 w3 ⟨v,rfl,htr,hx3⟩;rw[HRs.out]at htr⊢;obtain⟨A,c,rfl,hc1,hc2,G⟩:=htr;unfold maxLen at hc2;have HX3:=Lib.hid<|HX2.out.trans hx3;clear hx3;have HRow:=Lib.hid G;clear G;obtain⟨toks,tail,place,er⟩:=Rs;simp only at HRow hc1 hc2⊢;by_cases h3:er=0
 rotate_left
 ·have h3b:((er:Int)!=0)=true:=by simp;omega
  have HF:=Lib.hid (uc HN.out λh=>h3 (by rw[HRs.out]at h;exact h.1))
  go_wp2_with fail
  go_ret
  exact⟨bT HF.out.symm,HX3.out⟩
 subst h3;by_cases h4:toks.length=2
 rotate_left
 ·have h4b:((toks.length:Int)!=2)=true:=by simp;omega
  have HF:=Lib.hid (uc HN.out λh=>h4 (by rw[HRs.out]at h;exact h.2.1))
  go_wp2_with fail
  go_ret
  exact⟨bT HF.out.symm,HX3.out⟩
 by_cases h5:tail=[]
 rotate_left
 ·have h5b:(tail==[])=false:=by simpa using h5
  have h5c:tail.isEmpty=false:=by simpa using h5
  obtain⟨t0,t1,rfl⟩:=Ge h4;have HF:=Lib.hid (uc HN.out λh=>h5 (by rw[HRs.out]at h;exact h.2.2));clear h5 h4
  go_wp2_with fail
  go_ret
  exact⟨bT HF.out.symm,HX3.out⟩
 subst h5;obtain⟨t0,t1,rfl⟩:=Ge h4;clear h4;obtain⟨b0,off,rfl,hb0,p0,p1,p2⟩:=CJ HRow.out (k:=0) (by simp);obtain⟨b0',off',heq,_,q0,q1,q2⟩:=CJ HRow.out (k:=1) (by simp);obtain⟨rfl,rfl⟩:b0=b0'∧off=off':=by simpa using heq
 clear heq;have HF:=Lib.hid (JE HN.out (by rw[HRs.out]) (by rw[HRs.out])<|by rw[HRs.out]);simp only[Nat.zero_mul,Nat.one_mul,Nat.add_zero,List.getElem_cons_zero,List.getElem_cons_succ]at p0 p1 p2 q0 q1 q2;cases g1:(t0.text==a)
 ·skip
  go_wp2_with fail
  go_ret
  exact⟨bT (by rw[HF.out,g1];simp),HX3.out⟩
 cases g0:(t0.lead==[])
 ·skip
  have g0':t0.lead.isEmpty=false:=by simpa using g0
  go_wp2_with fail
  go_ret
  exact⟨bT (by rw[HF.out,g1,g0];simp),HX3.out⟩
 have g0':t0.lead.isEmpty=true:=by simpa using g0
 cases g3:(t1.text==b)
 ·skip
  go_wp2_with fail
  go_ret
  exact⟨bT (by rw[HF.out,g1,g0,g3];simp),HX3.out⟩
 cases g2:(t1.lead==[])
 all_goals
  have g2':=Iq g2
  go_wp2_with fail
  go_ret
  exact⟨bT (by rw[HF.out,g1,g0,g3,g2];simp),HX3.out⟩
theorem MV(a b:YB)(G:a.length<=140737488355328)(hb:b.length<=140737488355328):rx a b (fusesT a b):=sum0_calls rfl rfl λS w ρ xs hx=>by simp only[LRel]at hx;obtain⟨x,ys,rfl,h1,y,zs,rfl,h2,rfl⟩:=hx;simp only[VRel]at h1 h2;subst h1 h2;exact(RN a b w G hb).mono λe w' ⟨h1,h2⟩=>⟨_,h1,by simp only[VRel],BN h2⟩
theorem Cw(a:YB)(f:Bool)(G:a.length<=140737488351232):lq a f (jj false a f):=sum0_calls rfl rfl λS w ρ xs hx=>by
 simp only[LRel]at hx;obtain⟨x,ys,rfl,h1,y,zs,rfl,h2,rfl⟩:=hx;simp only[VRel]at h1 h2;subst h1 h2;exact(Pi a f w<|by omega).mono λe w' ⟨h1,h2⟩=>⟨_,h1,by simp only[VRel],h2▸Chg.refl _ _⟩
abbrev Pce:=aa
def Qp(l:List Pce):Prop:=∀x∈l,x.Lead.length<=1000000∧x.Text.length<=1000010
theorem cM{a b:List Pce}:Qp (a++b)↔Qp a∧Qp b:=⟨λh=>⟨λx hx=>h x (by simp[hx]),λx hx=>h x<|by simp[hx]⟩,λh x hx=>by rcases List.mem_append.1 hx with h1|h1;exact h.1 x h1;exact h.2 x h1⟩
theorem bY{x:Pce}{a:List Pce}:Qp (x::a)↔(x.Lead.length<=1000000∧x.Text.length<=1000010)∧Qp a:=⟨λh=>⟨h x (by simp),λy hy=>h y<|by simp[hy]⟩,λh y hy=>by rcases List.mem_cons.1 hy with h1|h1;subst h1;exact h.1;exact h.2 y h1⟩
theorem cr:Qp []:=λx hx=>by cases hx
theorem bE(k:Nat)(ht:tbulk t<=1000000):∃s,av t (k:Int) s∧s.length<=1000000:=by
 by_cases h:(k:Int)<(t.leads.length:Nat)
 ·obtain⟨s,hs,_⟩|h':=aV t.leads k
  ·have :=AK hs;have :=bm t;exact⟨s,rt 0 _ _ _ ⟨λ_=>⟨k,I,s,hs,I⟩,λh'=>absurd h h'⟩,by omega⟩
  ·omega
 ·exact⟨[],rt 0 _ _ _ ⟨λh'=>absurd h' h,λ_=>rfl⟩,by simp⟩
def Pok(t:Tree):Prop:=∀l,l.length+8*tbulk t<=900000000->∃r,ax l t r∧r.length+1<=l.length+8*tbulk t∧(Qp l->Qp r)
theorem zQ{k n:Int}:∀{l:YT} {i:Nat},shapeKs k n i l=true->∀j u,l[j]?=some u->fi k n ((i+j:Nat):Int) u.kind=true∧shapeK u=true
 |[],_,_,j,u,h=>by simp at h
 |t::r,i,hs,0,u,h=>by simp only[shapeKs,aaa]at hs;simp at h;subst h;exact⟨hs.1.1,hs.1.2⟩
 |t::r,i,hs,j+1,u,h=>by simp only[shapeKs,aaa]at hs;have :=zQ hs.2 j u (by simpa using h);rw[show i+1+j=i+(j+1) by omega]at this;exact this
variable{u:Tree}
theorem CU(hs:shapeK t=true)(G:t.kids[i]?=some u):shapeK u=true∧fi t.kind t.kids.length i u.kind=true:=by rw[aY]at hs;simp only[aaa]at hs;have :=zQ hs.2 i u G;rw[Nat.zero_add]at this;exact⟨this.2,this.1⟩
theorem uK(hs:shapeK t=true):0<=dJ t.kind t.kids.length:=by rw[aY]at hs;simp only[aaa,aaj]at hs;exact hs.1.1
theorem it(hs:shapeK t=true):(t.kind=2->2<=t.kids.length)∧(t.kind=18->1<=t.kids.length)∧(t.kind=3∨t.kind=4∨t.kind=8∨t.kind=17∨t.kind=22->t.kids.length=1)∧(t.kind=19->t.kids.length=3)∧(t.kind=20∨t.kind=21->t.kids.length=2):=by
 have h:=uK hs;refine⟨λG=>?_,λG=>?_,λG=>?_,λG=>?_,λG=>?_⟩
 ·rw[G]at h;simp only[dJ,f0]at h;simp at h;omega
 ·rw[G]at h;simp only[dJ,f0]at h;simp at h;omega
 ·rcases G with G|G|G|G|G<;>(rw[G]at h;simp only[dJ,f0]at h;simp at h;omega)
 ·rw[G]at h;simp only[dJ,f0]at h;simp at h;omega
 ·rcases G with G|G<;>(rw[G]at h;simp only[dJ,f0]at h;simp at h;omega)
variable{l r:List Pce}
theorem dn1(M:Nat)(G:t.kind∉[(1:Int)])(h:kS M l t r):ax l t r:=pL M _ _ _ ⟨λe=>absurd (by simp[e]) G,λ_=>h⟩
theorem dn2(M:Nat)(G:t.kind∉[(1:Int),2])(h:kO M l t r):ax l t r:=dn1 (M+1) (λe=>G (by simp only[aah,List.not_mem_nil,or_false]at e⊢;omega)) (oz M _ _ _ ⟨λe=>absurd (by simp[e]) G,λ_=>h⟩)
theorem dn3(M:Nat)(G:t.kind∉[(1:Int),2,3])(h:kZ M l t r):ax l t r:=dn2 (M+1) (λe=>G (by simp only[aah,List.not_mem_nil,or_false]at e⊢;omega)) (nW M _ _ _ ⟨λe=>absurd (by simp[e]) G,λ_=>h⟩)
theorem dn4(M:Nat)(G:t.kind∉[(1:Int),2,3,4])(h:kQ M l t r):ax l t r:=dn3 (M+1) (λe=>G (by simp only[aah,List.not_mem_nil,or_false]at e⊢;omega)) (od M _ _ _ ⟨λe=>absurd (by simp[e]) G,λ_=>h⟩)
theorem dn5(M:Nat)(G:t.kind∉[(1:Int),2,3,4,5])(h:kE M l t r):ax l t r:=dn4 (M+1) (λe=>G (by simp only[aah,List.not_mem_nil,or_false]at e⊢;omega)) (oq M _ _ _ ⟨λe=>absurd (by simp[e]) G,λ_=>h⟩)
theorem dn6(M:Nat)(G:t.kind∉[(1:Int),2,3,4,5,6])(h:kf M l t r):ax l t r:=dn5 (M+1) (λe=>G (by simp only[aah,List.not_mem_nil,or_false]at e⊢;omega)) (oh M _ _ _ ⟨λe=>absurd (by simp[e]) G,λ_=>h⟩)
theorem dn7(M:Nat)(G:t.kind∉[(1:Int),2,3,4,5,6,7])(h:kc M l t r):ax l t r:=dn6 (M+1) (λe=>G (by simp only[aah,List.not_mem_nil,or_false]at e⊢;omega)) (nq M _ _ _ ⟨λe=>absurd (by simp[e]) G,λ_=>h⟩)
theorem dn8(M:Nat)(G:t.kind∉[(1:Int),2,3,4,5,6,7,13])(h:jZ M l t r):ax l t r:=dn7 (M+1) (λe=>G (by simp only[aah,List.not_mem_nil,or_false]at e⊢;omega)) (nC M _ _ _ ⟨λe=>absurd (by simp[e]) G,λ_=>h⟩)
theorem dn9(M:Nat)(G:t.kind∉[(1:Int),2,3,4,5,6,7,13,14])(h:jU M l t r):ax l t r:=dn8 (M+1) (λe=>G (by simp only[aah,List.not_mem_nil,or_false]at e⊢;omega)) (nK M _ _ _ ⟨λe=>absurd (by simp[e]) G,λ_=>h⟩)
theorem PY(M:Nat)(G:t.kind∉[(1:Int),2,3,4,5,6,7,13,14,15])(h:kh M l t r):ax l t r:=dn9 (M+1) (λe=>G (by simp only[aah,List.not_mem_nil,or_false]at e⊢;omega)) (nG M _ _ _ ⟨λe=>absurd (by simp[e]) G,λ_=>h⟩)
theorem Qi(M:Nat)(G:t.kind∉[(1:Int),2,3,4,5,6,7,13,14,15,8])(h:jM M l t r):ax l t r:=PY (M+1) (λe=>G (by simp only[aah,List.not_mem_nil,or_false]at e⊢;omega)) (nF M _ _ _ ⟨λe=>absurd (by simp[e]) G,λ_=>h⟩)
theorem RA(M:Nat)(G:t.kind∉[(1:Int),2,3,4,5,6,7,13,14,15,8,16])(h:jL M l t r):ax l t r:=Qi (M+1) (λe=>G (by simp only[aah,List.not_mem_nil,or_false]at e⊢;omega)) (no M _ _ _ ⟨λe=>absurd (by simp[e]) G,λ_=>h⟩)
theorem RD(M:Nat)(G:t.kind∉[(1:Int),2,3,4,5,6,7,13,14,15,8,16,17])(h:ke M l t r):ax l t r:=RA (M+1) (λe=>G (by simp only[aah,List.not_mem_nil,or_false]at e⊢;omega)) (nr M _ _ _ ⟨λe=>absurd (by simp[e]) G,λ_=>h⟩)
theorem RG(M:Nat)(G:t.kind∉[(1:Int),2,3,4,5,6,7,13,14,15,8,16,17,18])(h:jS M l t r):ax l t r:=RD (M+1) (λe=>G (by simp only[aah,List.not_mem_nil,or_false]at e⊢;omega)) (nz M _ _ _ ⟨λe=>absurd (by simp[e]) G,λ_=>h⟩)
theorem QS(M:Nat)(G:t.kind∉[(1:Int),2,3,4,5,6,7,13,14,15,8,16,17,18,19])(h:jP M l t r):ax l t r:=RG (M+1) (λe=>G (by simp only[aah,List.not_mem_nil,or_false]at e⊢;omega)) (nH M _ _ _ ⟨λe=>absurd (by simp[e]) G,λ_=>h⟩)
theorem PV(M:Nat)(G:t.kind∉[(1:Int),2,3,4,5,6,7,13,14,15,8,16,17,18,19,20])(h:kg M l t r):ax l t r:=QS (M+1) (λe=>G (by simp only[aah,List.not_mem_nil,or_false]at e⊢;omega)) (nt M _ _ _ ⟨λe=>absurd (by simp[e]) G,λ_=>h⟩)
theorem RM(M:Nat)(G:t.kind∉[(1:Int),2,3,4,5,6,7,13,14,15,8,16,17,18,19,20,21])(h:jN M l t r):ax l t r:=PV (M+1) (λe=>G (by simp only[aah,List.not_mem_nil,or_false]at e⊢;omega)) (nw M _ _ _ ⟨λe=>absurd (by simp[e]) G,λ_=>h⟩)
theorem p_5(G:t.kind=5)(ht:tbulk t<=1000000):Pok t:=λl hl=>by obtain⟨s1,J,O⟩:=bE 0 ht;have Z:=bU t;have M:=0;refine⟨l++[⟨s1,[73,110,116]⟩],?_,by simp;omega,λhq=>by simp only[cM,bY];exact⟨hq,⟨O,by decide⟩,cr⟩⟩;exact dn4 (M+2) (by rw[G];decide) (oq (M+1) _ _ _ ⟨λ_=>⟨_,J,by simp;omega,rfl⟩,λh=>absurd G h⟩)
theorem p_6(G:t.kind=6)(ht:tbulk t<=1000000):Pok t:=λl hl=>by obtain⟨s1,J,O⟩:=bE 0 ht;have Z:=bU t;have M:=0;refine⟨l++[⟨s1,[84,101,120,116]⟩],?_,by simp;omega,λhq=>by simp only[cM,bY];exact⟨hq,⟨O,by decide⟩,cr⟩⟩;exact dn5 (M+2) (by rw[G];decide) (oh (M+1) _ _ _ ⟨λ_=>⟨_,J,by simp;omega,rfl⟩,λh=>absurd G h⟩)
theorem p_7(G:t.kind=7)(ht:tbulk t<=1000000):Pok t:=λl hl=>by obtain⟨s1,J,O⟩:=bE 0 ht;have Z:=bU t;have M:=0;refine⟨l++[⟨s1,[66,111,111,108]⟩],?_,by simp;omega,λhq=>by simp only[cM,bY];exact⟨hq,⟨O,by decide⟩,cr⟩⟩;exact dn6 (M+2) (by rw[G];decide) (nq (M+1) _ _ _ ⟨λ_=>⟨_,J,by simp;omega,rfl⟩,λh=>absurd G h⟩)
theorem Ts(G:t.kind=13)(ht:tbulk t<=1000000):Pok t:=λl hl=>by obtain⟨s1,J,O⟩:=bE 0 ht;have Z:=bU t;have M:=0;refine⟨l++[⟨s1,[116,114,117,101]⟩],?_,by simp;omega,λhq=>by simp only[cM,bY];exact⟨hq,⟨O,by decide⟩,cr⟩⟩;exact dn7 (M+2) (by rw[G];decide) (nC (M+1) _ _ _ ⟨λ_=>⟨_,J,by simp;omega,rfl⟩,λh=>absurd G h⟩)
theorem Te(G:t.kind=14)(ht:tbulk t<=1000000):Pok t:=λl hl=>by obtain⟨s1,J,O⟩:=bE 0 ht;have Z:=bU t;have M:=0;refine⟨l++[⟨s1,[102,97,108,115,101]⟩],?_,by simp;omega,λhq=>by simp only[cM,bY];exact⟨hq,⟨O,by decide⟩,cr⟩⟩;exact dn8 (M+2) (by rw[G];decide) (nK (M+1) _ _ _ ⟨λ_=>⟨_,J,by simp;omega,rfl⟩,λh=>absurd G h⟩)
theorem TA(G:t.kind=15)(ht:tbulk t<=1000000):Pok t:=λl hl=>by obtain⟨s1,J,O⟩:=bE 0 ht;have Z:=bU t;have M:=0;refine⟨l++[⟨s1,[63]⟩],?_,by simp;omega,λhq=>by simp only[cM,bY];exact⟨hq,⟨O,by decide⟩,cr⟩⟩;exact dn9 (M+2) (by rw[G];decide) (nG (M+1) _ _ _ ⟨λ_=>⟨_,J,by simp;omega,rfl⟩,λh=>absurd G h⟩)
theorem wB{l:YT}(G:l[0]?=some u):tbulk u<=kbulk l:=bR G
theorem BY{l:YT}{v:Tree}(G:l[0]?=some u)(h1:l[1]?=some v):tbulk u+tbulk v<=kbulk l:=by
 match l,G,h1 with
 |a::r,G,h1=>simp at G;subst G;have :=bR (ks:=r) (i:=0) (by simpa using h1);simp only[kbulk];omega
theorem PF{l:YT}{v x:Tree}(G:l[0]?=some u)(h1:l[1]?=some v)(h2:l[2]?=some x):tbulk u+tbulk v+tbulk x<=kbulk l:=by
 match l,G,h1,h2 with
 |a::r,G,h1,h2=>simp at G;subst G;have :=BY (l:=r) (by simpa using h1) (by simpa using h2);simp only[kbulk];omega
theorem p_3(J:t.kind=3)(hs:shapeK t=true)(ht:tbulk t<=1000000)(ih:∀(i:Nat) (u:Tree),t.kids[i]?=some u->Pok u):Pok t:=λl hl=>by
 have htp:=bU t;have htx:=cO t;have hn:=it hs;have M:=0;have hkn:t.kids.length=1:=hn.2.2.1 (by simp[J]);obtain⟨O,G,_⟩|h':=aV t.kids 0
 rotate_left
 ·omega
 have hsum:tbulk O+1<=tbulk t:=by have hb:=bm t;have hx:=wB G;omega
 obtain⟨s1,g1,b1⟩:=bE 0 ht;obtain⟨s2,g2,b2⟩:=bE 1 ht;obtain⟨s3,g3,b3⟩:=bE 2 ht;have q1:Qp l->Qp (l++[⟨s1,[116,121,112,101]⟩,⟨s2,t.text⟩,⟨s3,[61]⟩]):=λZ=>by simp only[cM,bY];exact⟨Z,⟨b1,by decide⟩,⟨b2,by omega⟩,⟨b3,by decide⟩,cr⟩
 obtain⟨r0,e0,z0,y0⟩:=ih 0 O G (l++[⟨s1,[116,121,112,101]⟩,⟨s2,t.text⟩,⟨s3,[61]⟩]) (by first|omega|(simp only[aab,aac,aae];omega))
 try simp only[aab,aac,aae]at z0
 refine⟨r0,?_,by first|omega|(simp only[aab,aac,aae];omega),λZ=>(y0<|q1 Z)⟩;exact dn2 (M+2) (by rw[J];decide) (nW (M+1) _ _ _ ⟨λ_=>vt (M) _ _ _ ⟨_,g1,_,g2,_,g3,by simp;omega,O,G,_,e0,rfl⟩,λh=>absurd J h⟩)
theorem p_4(J:t.kind=4)(hs:shapeK t=true)(ht:tbulk t<=1000000)(ih:∀(i:Nat) (u:Tree),t.kids[i]?=some u->Pok u):Pok t:=λl hl=>by
 have htp:=bU t;have htx:=cO t;have hn:=it hs;have M:=0;have hkn:t.kids.length=1:=hn.2.2.1 (by simp[J]);obtain⟨O,G,_⟩|h':=aV t.kids 0
 rotate_left
 ·omega
 have hsum:tbulk O+1<=tbulk t:=by have hb:=bm t;have hx:=wB G;omega
 obtain⟨s1,g1,b1⟩:=bE 0 ht;obtain⟨s2,g2,b2⟩:=bE 1 ht;have q1:Qp l->Qp (l++[⟨s1,t.text⟩,⟨s2,[58]⟩]):=λZ=>by simp only[cM,bY];exact⟨Z,⟨b1,by omega⟩,⟨b2,by decide⟩,cr⟩
 obtain⟨r0,e0,z0,y0⟩:=ih 0 O G (l++[⟨s1,t.text⟩,⟨s2,[58]⟩]) (by first|omega|(simp only[aab,aac,aae];omega))
 try simp only[aab,aac,aae]at z0
 refine⟨r0,?_,by first|omega|(simp only[aab,aac,aae];omega),λZ=>(y0<|q1 Z)⟩;exact dn3 (M+2) (by rw[J];decide) (od (M+1) _ _ _ ⟨λ_=>vl (M) _ _ _ ⟨_,g1,_,g2,by simp;omega,O,G,_,e0,rfl⟩,λh=>absurd J h⟩)
theorem p_8(O:t.kind=8)(hs:shapeK t=true)(ht:tbulk t<=1000000)(ih:∀(i:Nat) (u:Tree),t.kids[i]?=some u->Pok u):Pok t:=λl hl=>by
 have htp:=bU t;have htx:=cO t;have hn:=it hs;have M:=0;have hkn:t.kids.length=1:=hn.2.2.1 (by simp[O]);obtain⟨Z,G,_⟩|h':=aV t.kids 0
 rotate_left
 ·omega
 have hsum:tbulk Z+1<=tbulk t:=by have hb:=bm t;have hx:=wB G;omega
 obtain⟨s1,g1,b1⟩:=bE 0 ht;have q1:Qp l->Qp (l++[⟨s1,[91]⟩]):=λJ=>by simp only[cM,bY];exact⟨J,⟨b1,by decide⟩,cr⟩
 obtain⟨r0,e0,z0,y0⟩:=ih 0 Z G (l++[⟨s1,[91]⟩]) (by first|omega|(simp only[aab,aac,aae];omega))
 try simp only[aab,aac,aae]at z0
 obtain⟨s2,g2,b2⟩:=bE 1 ht;have q3:Qp r0->Qp (r0++[⟨s2,[93]⟩]):=λJ=>by simp only[cM,bY];exact⟨J,⟨b2,by decide⟩,cr⟩
 refine⟨(r0++[⟨s2,[93]⟩]),?_,by first|omega|(simp only[aab,aac,aae];omega),λJ=>(q3<|y0<|q1 J)⟩;exact PY (M+2) (by rw[O];decide) (nF (M+1) _ _ _ ⟨λ_=>um (M) _ _ _ ⟨_,g1,by simp;omega,Z,G,_,e0,_,g2,by simp;omega,rfl⟩,λh=>absurd O h⟩)
theorem Tk(J:t.kind=17)(hs:shapeK t=true)(ht:tbulk t<=1000000)(ih:∀(i:Nat) (u:Tree),t.kids[i]?=some u->Pok u):Pok t:=λl hl=>by
 have htp:=bU t;have htx:=cO t;have hn:=it hs;have M:=0;have hkn:t.kids.length=1:=hn.2.2.1 (by simp[J]);obtain⟨O,G,_⟩|h':=aV t.kids 0
 rotate_left
 ·omega
 have Z:tbulk O+1<=tbulk t:=by have hb:=bm t;have hx:=wB G;omega
 obtain⟨r0,e0,z0,y0⟩:=ih 0 O G l (by first|omega|(simp only[aab,aac,aae];omega))
 try simp only[aab,aac,aae]at z0
 refine⟨r0,?_,by first|omega|(simp only[aab,aac,aae];omega),λhq=>(y0 hq)⟩;exact RA (M+2) (by rw[J];decide)<|nr (M+1) _ _ _ ⟨λ_=>⟨O,G,_,e0,rfl⟩,λh=>absurd J h⟩
theorem Tb(hk:t.kind=19)(hs:shapeK t=true)(ht:tbulk t<=1000000)(ih:∀(i:Nat) (u:Tree),t.kids[i]?=some u->Pok u):Pok t:=λl hl=>by
 have htp:=bU t;have htx:=cO t;have hn:=it hs;have M:=0;have hkn:t.kids.length=3:=hn.2.2.2.1 hk;obtain⟨u0,G,_⟩|h':=aV t.kids 0
 rotate_left
 ·omega
 obtain⟨u1,J,_⟩|h':=aV t.kids 1
 rotate_left
 ·omega
 obtain⟨u2,O,_⟩|h':=aV t.kids 2
 rotate_left
 ·omega
 have hsum:tbulk u0+tbulk u1+tbulk u2+1<=tbulk t:=by have hb:=bm t;have hx:=PF G J O;omega
 obtain⟨s1,g1,b1⟩:=bE 0 ht;have q1:Qp l->Qp (l++[⟨s1,[105,102]⟩]):=λZ=>by simp only[cM,bY];exact⟨Z,⟨b1,by decide⟩,cr⟩
 obtain⟨r0,e0,z0,y0⟩:=ih 0 u0 G (l++[⟨s1,[105,102]⟩]) (by first|omega|(simp only[aab,aac,aae];omega))
 try simp only[aab,aac,aae]at z0
 obtain⟨s2,g2,b2⟩:=bE 1 ht;have q3:Qp r0->Qp (r0++[⟨s2,[116,104,101,110]⟩]):=λZ=>by simp only[cM,bY];exact⟨Z,⟨b2,by decide⟩,cr⟩
 obtain⟨r1,e1,z1,y1⟩:=ih 1 u1 J (r0++[⟨s2,[116,104,101,110]⟩]) (by first|omega|(simp only[aab,aac,aae];omega))
 try simp only[aab,aac,aae]at z1
 obtain⟨s3,g3,b3⟩:=bE 2 ht;have q5:Qp r1->Qp (r1++[⟨s3,[101,108,115,101]⟩]):=λZ=>by simp only[cM,bY];exact⟨Z,⟨b3,by decide⟩,cr⟩
 obtain⟨r2,e2,z2,y2⟩:=ih 2 u2 O (r1++[⟨s3,[101,108,115,101]⟩]) (by first|omega|(simp only[aab,aac,aae];omega))
 try simp only[aab,aac,aae]at z2
 refine⟨r2,?_,by first|omega|(simp only[aab,aac,aae];omega),λZ=>(y2<|q5<|y1<|q3<|y0<|q1 Z)⟩;exact RG (M+2) (by rw[hk];decide) (nH (M+1) _ _ _ ⟨λ_=>uk (M) _ _ _ ⟨u0,G,_,g1,by simp;omega,_,e0,u1,J,_,g2,by simp;omega,_,e1,u2,O,_,g3,by simp;omega,_,e2,rfl⟩,λh=>absurd hk h⟩)
theorem Tl(Z:t.kind=20)(hs:shapeK t=true)(ht:tbulk t<=1000000)(ih:∀(i:Nat) (u:Tree),t.kids[i]?=some u->Pok u):Pok t:=λl hl=>by
 have htp:=bU t;have htx:=cO t;have hn:=it hs;have M:=0;have hkn:t.kids.length=2:=hn.2.2.2.2 (by simp[Z]);obtain⟨u0,G,_⟩|h':=aV t.kids 0
 rotate_left
 ·omega
 obtain⟨u1,J,_⟩|h':=aV t.kids 1
 rotate_left
 ·omega
 have hsum:tbulk u0+tbulk u1+1<=tbulk t:=by have hb:=bm t;have hx:=BY G J;omega
 obtain⟨s1,g1,b1⟩:=bE 0 ht;obtain⟨s2,g2,b2⟩:=bE 1 ht;obtain⟨s3,g3,b3⟩:=bE 2 ht;have q1:Qp l->Qp (l++[⟨s1,[108,101,116]⟩,⟨s2,t.text⟩,⟨s3,[61]⟩]):=λO=>by simp only[cM,bY];exact⟨O,⟨b1,by decide⟩,⟨b2,by omega⟩,⟨b3,by decide⟩,cr⟩
 obtain⟨r0,e0,z0,y0⟩:=ih 0 u0 G (l++[⟨s1,[108,101,116]⟩,⟨s2,t.text⟩,⟨s3,[61]⟩]) (by first|omega|(simp only[aab,aac,aae];omega))
 try simp only[aab,aac,aae]at z0
 obtain⟨s4,g4,b4⟩:=bE 3 ht;have q3:Qp r0->Qp (r0++[⟨s4,[105,110]⟩]):=λO=>by simp only[cM,bY];exact⟨O,⟨b4,by decide⟩,cr⟩
 obtain⟨r1,e1,z1,y1⟩:=ih 1 u1 J (r0++[⟨s4,[105,110]⟩]) (by first|omega|(simp only[aab,aac,aae];omega))
 try simp only[aab,aac,aae]at z1
 refine⟨r1,?_,by first|omega|(simp only[aab,aac,aae];omega),λO=>(y1<|q3<|y0<|q1 O)⟩;exact QS (M+2) (by rw[Z];decide) (nt (M+1) _ _ _ ⟨λ_=>uf (M) _ _ _ ⟨_,g1,_,g2,_,g3,by simp;omega,u0,G,_,e0,_,g4,by simp;omega,u1,J,_,e1,rfl⟩,λh=>absurd Z h⟩)
theorem TB(O:t.kind=21)(hs:shapeK t=true)(ht:tbulk t<=1000000)(ih:∀(i:Nat) (u:Tree),t.kids[i]?=some u->Pok u):Pok t:=λl hl=>by
 have htp:=bU t;have htx:=cO t;have hn:=it hs;have M:=0;have hkn:t.kids.length=2:=hn.2.2.2.2 (by simp[O]);obtain⟨Z,G,_⟩|h':=aV t.kids 0
 rotate_left
 ·omega
 obtain⟨u1,J,_⟩|h':=aV t.kids 1
 rotate_left
 ·omega
 have hsum:tbulk Z+tbulk u1+1<=tbulk t:=by have hb:=bm t;have hx:=BY G J;omega
 obtain⟨r0,e0,z0,y0⟩:=ih 0 Z G l (by first|omega|(simp only[aab,aac,aae];omega))
 try simp only[aab,aac,aae]at z0
 obtain⟨s1,g1,b1⟩:=bE 0 ht;have q2:Qp r0->Qp (r0++[⟨s1,t.text⟩]):=λhq=>by simp only[cM,bY];exact⟨hq,⟨b1,by omega⟩,cr⟩
 obtain⟨r1,e1,z1,y1⟩:=ih 1 u1 J (r0++[⟨s1,t.text⟩]) (by first|omega|(simp only[aab,aac,aae];omega))
 try simp only[aab,aac,aae]at z1
 refine⟨r1,?_,by first|omega|(simp only[aab,aac,aae];omega),λhq=>(y1<|q2<|y0 hq)⟩;exact PV (M+2) (by rw[O];decide) (nw (M+1) _ _ _ ⟨λ_=>uq (M) _ _ _ ⟨Z,G,_,e0,_,g1,by simp;omega,u1,J,_,e1,rfl⟩,λh=>absurd O h⟩)
theorem Tj(O:t.kind=22)(hs:shapeK t=true)(ht:tbulk t<=1000000)(ih:∀(i:Nat) (u:Tree),t.kids[i]?=some u->Pok u):Pok t:=λl hl=>by
 have htp:=bU t;have htx:=cO t;have hn:=it hs;have M:=0;have hkn:t.kids.length=1:=hn.2.2.1 (by simp[O]);obtain⟨Z,G,_⟩|h':=aV t.kids 0
 rotate_left
 ·omega
 have hsum:tbulk Z+1<=tbulk t:=by have hb:=bm t;have hx:=wB G;omega
 obtain⟨s1,g1,b1⟩:=bE 0 ht;have q1:Qp l->Qp (l++[⟨s1,[40]⟩]):=λJ=>by simp only[cM,bY];exact⟨J,⟨b1,by decide⟩,cr⟩
 obtain⟨r0,e0,z0,y0⟩:=ih 0 Z G (l++[⟨s1,[40]⟩]) (by first|omega|(simp only[aab,aac,aae];omega))
 try simp only[aab,aac,aae]at z0
 obtain⟨s2,g2,b2⟩:=bE 1 ht;have q3:Qp r0->Qp (r0++[⟨s2,[41]⟩]):=λJ=>by simp only[cM,bY];exact⟨J,⟨b2,by decide⟩,cr⟩
 refine⟨(r0++[⟨s2,[41]⟩]),?_,by first|omega|(simp only[aab,aac,aae];omega),λJ=>(q3<|y0<|q1 J)⟩;exact RM (M+2) (by rw[O];decide) (nI (M+1) _ _ _ ⟨λ_=>uh (M) _ _ _ ⟨_,g1,by simp;omega,Z,G,_,e0,_,g2,by simp;omega,rfl⟩,λh=>absurd O h⟩)
theorem QB(G:∀c:Int,c∈[(1:Int),2,3,4,5,6,7,13,14,15,8,16,17,18,19,20,21,22]->t.kind≠c)(ht:tbulk t<=1000000):Pok t:=λl hl=>by
 obtain⟨s1,J,O⟩:=bE 0 ht;have Z:=bU t;have htx:=cO t;have M:=0;refine⟨l++[⟨s1,t.text⟩],?_,by simp;omega,λhq=>by simp only[cM,bY];exact⟨hq,⟨O,by omega⟩,cr⟩⟩;exact RM (M+2) (λe=>G t.kind (by simp only[aah,List.not_mem_nil,or_false]at e⊢;omega) rfl) (nI (M+1) _ _ _ ⟨λh=>absurd h (G 22<|by decide),λ_=>⟨_,J,by simp;omega,rfl⟩⟩)
theorem Ip(ht:tbulk t<=1000000)(ih:∀(i:Nat) (u:Tree),t.kids[i]?=some u->Pok u)(n comma:Nat)(hn:n<=t.kids.length)(hc:comma<=10):∀l,l.length+8*kbulk (t.kids.take n)<=899999999->∃r,fw l t 0 (n:Int) (comma:Int) r∧r.length<=l.length+8*kbulk (t.kids.take n)∧(Qp l->Qp r):=by
 have hk:=bw t;have loop:∀k i l,n-i<=k->i<=n->l.length+8*kbulk ((t.kids.take n).drop i)<=899999999->∃r,gp (k+1) t 0 (n:Int) (comma:Int) l (i:Int) r∧r.length<=l.length+8*kbulk ((t.kids.take n).drop i)∧(Qp l->Qp r):=λk=>by
  induction k with
  |zero=>
   intro i l hi hle hl;exact⟨l,jb 0 _ _ _ _ _ _ _ ⟨λh=>by omega,λ_=>I⟩,by omega,λh=>h⟩
  | succ k ihk=>
   intro i l hi hle hl;by_cases hin:i<n
   ·obtain⟨u,hu,hul⟩|h':=aV t.kids i
    ·have hu':(t.kids.take n)[i]?=some u:=by rw[List.getElem?_take,if_pos hin];exact hu
     have hd:=aX hu';rw[hd,kbulk]at hl⊢;have hup:=bU u;by_cases h0:0<i
     ·obtain⟨s,g,b⟩:=bE (t:=t) (comma+i-1) ht;have g':av t ((((comma:Int)+(i:Int))-0)-1) s:=by rw[show(((comma:Int)+(i:Int))-0)-1=((comma+i-1:Nat):Int) by omega];exact g
      obtain⟨r,e,z,y⟩:=ih i u hu (l++[⟨s,[44]⟩]) (by simp;omega);simp only[aab,aac,aae]at z;obtain⟨r2,e2,z2,y2⟩:=ihk (i+1) r (by omega) (by omega) (by omega);refine⟨r2,jb (k+1) _ _ _ _ _ _ _ ⟨λ_=>⟨λ_=>⟨by omega,by omega,by omega,s,g',by simp;omega,i,rfl,u,hu,r,e,by omega,?_⟩,λh=>by omega⟩,λh=>by omega⟩,by omega,λhq=>y2<|y (by simp only[cM,bY];exact⟨hq,⟨b,by decide⟩,cr⟩)⟩;exact e2
     ·obtain⟨r,e,z,y⟩:=ih i u hu l (by omega);obtain⟨r2,e2,z2,y2⟩:=ihk (i+1) r (by omega) (by omega) (by omega);refine⟨r2,jb (k+1) _ _ _ _ _ _ _ ⟨λ_=>⟨λh=>by omega,λ_=>⟨i,I,u,hu,r,e,by omega,e2⟩⟩,λh=>by omega⟩,by omega,λhq=>y2<|y hq⟩
    ·omega
   ·exact⟨l,jb (k+1) _ _ _ _ _ _ _ ⟨λh=>by omega,λ_=>I⟩,by omega,λh=>h⟩
 intro l hl;have h1:kbulk (t.kids.take n)<=kbulk t.kids:=by
  have :∀(l:YT) n,kbulk (l.take n)<=kbulk l:=λl=>by
   induction l with
   |nil=>intro n;simp
   |cons a r ih=>intro n;cases n with
    |zero=>simp[kbulk]
    |succ n=>have :=ih n;simp only[List.take_succ_cons,kbulk];omega
  exact this _ _
 have h2:=bm t;obtain⟨r,e,z,y⟩:=loop n 0 l (by omega) (by omega) (by simpa using hl);exact⟨r,yv (n+1) _ _ _ _ _ _ e,by simpa using z,y⟩
theorem zP(l:YT)(n:Nat):kbulk (l.take n)+kbulk (l.drop n)=kbulk l:=by rw[<-gm,aas]
theorem Tm(G:t.kind=16)(hs:shapeK t=true)(ht:tbulk t<=1000000)(ih:∀(i:Nat) (u:Tree),t.kids[i]?=some u->Pok u):Pok t:=λl hl=>by
 have hb:=bm t;have J:=cO t;have M:=0;obtain⟨s1,O,Z⟩:=bE 0 ht;obtain⟨s2,g2,b2⟩:=bE 1 ht;obtain⟨r,e,z,y⟩:=Ip ht ih t.kids.length 3 (aaf _) (by decide) (l++[⟨s1,t.text⟩,⟨s2,[40]⟩]) (by simp only[aab,aac,aae,List.take_length];omega);simp only[aab,aac,aae,List.take_length]at z;obtain⟨s9,g9,b9⟩:=bE 2 ht;refine⟨r++[⟨s9,[41]⟩],?_,by simp only[aab,aac,aae];omega,λhq=>by have :=y (by simp only[cM,bY];exact⟨hq,⟨Z,by omega⟩,⟨b2,by decide⟩,cr⟩);simp only[cM,bY];exact⟨this,⟨b9,by decide⟩,cr⟩⟩
 exact Qi (M+2) (by rw[G];decide) (no (M+1) _ _ _ ⟨λ_=>uu (M) _ _ _ ⟨_,O,_,g2,by simp only[aab,aac,aae];omega,_,e,_,g9,by simp only[aab,aac,aae];omega,rfl⟩,λh=>absurd G h⟩)
theorem Ti(G:t.kind=18)(hs:shapeK t=true)(ht:tbulk t<=1000000)(ih:∀(i:Nat) (u:Tree),t.kids[i]?=some u->Pok u):Pok t:=λl hl=>by
 have hb:=bm t;have J:=cO t;have M:=0;obtain⟨s1,O,Z⟩:=bE 0 ht;obtain⟨r,e,z,y⟩:=Ip ht ih t.kids.length 2 (aaf _) (by decide) (l++[⟨s1,[91]⟩]) (by simp only[aab,aac,aae,List.take_length];omega);simp only[aab,aac,aae,List.take_length]at z;obtain⟨s9,g9,b9⟩:=bE 1 ht;refine⟨r++[⟨s9,[93]⟩],?_,by simp only[aab,aac,aae];omega,λhq=>by have :=y (by simp only[cM,bY];exact⟨hq,⟨Z,by decide⟩,cr⟩);simp only[cM,bY];exact⟨this,⟨b9,by decide⟩,cr⟩⟩
 exact RD (M+2) (by rw[G];decide) (nz (M+1) _ _ _ ⟨λ_=>uo (M) _ _ _ ⟨_,O,by simp only[aab,aac,aae];omega,_,e,_,g9,by simp only[aab,aac,aae];omega,rfl⟩,λh=>absurd G h⟩)
theorem p_2(G:t.kind=2)(hs:shapeK t=true)(ht:tbulk t<=1000000)(ih:∀(i:Nat) (u:Tree),t.kids[i]?=some u->Pok u):Pok t:=λl hl=>by
 have hb:=bm t;have htx:=cO t;have hn:=(it hs).1 G;have hkl:=bw t;have M:=0;obtain⟨s1,g1,b1⟩:=bE 0 ht;obtain⟨s2,g2,b2⟩:=bE 1 ht;obtain⟨s3,g3,b3⟩:=bE 2 ht;obtain⟨s4,g4,b4⟩:=bE 3 ht;obtain⟨s5,g5,b5⟩:=bE 4 ht;obtain⟨s6,g6,b6⟩:=bE 5 ht;obtain⟨r,e,z,y⟩:=Ip ht ih (t.kids.length-2) 6 (by omega) (by decide) (l++[⟨s1,[100,101,102]⟩,⟨s2,t.text⟩,⟨s3,[40]⟩]) (by have :=zP t.kids<|t.kids.length-2;simp only[aab,aac,aae];omega);simp only[aab,aac,aae]at z;obtain⟨u,J,_⟩|h':=aV t.kids<|t.kids.length-2
 rotate_left
 ·omega
 obtain⟨v,hv,_⟩|h':=aV t.kids<|t.kids.length-1
 rotate_left
 ·omega
 have O:=zP t.kids<|t.kids.length-2;have Z:=aX J;have hd2:t.kids.drop (t.kids.length-2+1)=v::t.kids.drop (t.kids.length-1+1):=by rw[show t.kids.length-2+1=t.kids.length-1 by omega];exact aX hv
 rw[Z,kbulk,hd2,kbulk]at O;have hup:=bU u;have hvp:=bU v;have e':fw (l++[⟨s1,[100,101,102]⟩,⟨s2,t.text⟩,⟨s3,[40]⟩]) t 0 (((t.kids.length:Nat):Int)-2) 6 r:=by rw[show((t.kids.length:Nat):Int)-2=((t.kids.length-2:Nat):Int) by omega];exact e
 obtain⟨r1,e1,z1,y1⟩:=ih _ u J (r++[⟨s4,[41]⟩,⟨s5,[58]⟩]) (by simp only[aab,aac,aae];omega);simp only[aab,aac,aae]at z1;obtain⟨r2,e2,z2,y2⟩:=ih _ v hv (r1++[⟨s6,[61]⟩]) (by simp only[aab,aac,aae];omega);simp only[aab,aac,aae]at z2;refine⟨r2,?_,by omega,λhq=>?_⟩
 ·exact dn1 (M+2) (by rw[G];decide) (oz (M+1) _ _ _ ⟨λ_=>vp (M) _ _ _ ⟨_,g1,_,g2,_,g3,by simp only[aab,aac,aae];omega,by omega,r,e',_,g4,_,g5,by simp only[aab,aac,aae];omega,by omega,t.kids.length-2,by omega,u,J,r1,e1,_,g6,by simp only[aab,aac,aae];omega,by omega,t.kids.length-1,by omega,v,hv,r2,e2,rfl⟩,λh=>absurd G h⟩)
 ·have q1:=y (by simp only[cM,bY];exact⟨hq,⟨b1,by decide⟩,⟨b2,by omega⟩,⟨b3,by decide⟩,cr⟩);have q2:=y1 (by simp only[cM,bY];exact⟨q1,⟨b4,by decide⟩,⟨b5,by decide⟩,cr⟩);exact y2 (by simp only[cM,bY];exact⟨q2,⟨b6,by decide⟩,cr⟩)
theorem p_1(hk:t.kind=1)(hs:shapeK t=true)(ht:tbulk t<=1000000)(ih:∀(i:Nat) (u:Tree),t.kids[i]?=some u->Pok u):Pok t:=λl hl=>by
 have hb:=bm t;have htx:=cO t;have hkl:=bw t;obtain⟨s1,g1,b1⟩:=bE 0 ht;obtain⟨s2,g2,b2⟩:=bE 1 ht;obtain⟨s3,g3,b3⟩:=bE 2 ht;have loop:∀k i l,t.kids.length-i<=k->l.length+8*kbulk (t.kids.drop i)<=899999996->∃r,eR (k+1) t l i r∧r.length<=l.length+8*kbulk (t.kids.drop i)+1∧(Qp l->Qp r):=λk=>by
  have last:∀k i l,¬i<t.kids.length->l.length<=899999996->∃r,eR (k+1) t l i r∧r.length<=l.length+8*kbulk (t.kids.drop i)+1∧(Qp l->Qp r):=λk i l hi hl=>by refine⟨l++[⟨s3,[]⟩],oa k _ _ _ _ ⟨λh=>absurd h hi,λ_=>⟨s3,g3,by simp only[aab,aac,aae];omega,rfl⟩⟩,by simp only[aab,aac,aae];omega,λhq=>by simp only[cM,bY];exact⟨hq,⟨b3,by decide⟩,cr⟩⟩
  induction k with
  |zero=>intro i l hi hl;exact last 0 i l (by omega) (by omega)
  | succ k ihk=>
   intro i l hi hl;obtain⟨u,hu,hul⟩|h':=aV t.kids i
   ·have hd:=aX hu;rw[hd,kbulk]at hl⊢;obtain⟨r,e,z,y⟩:=ih i u hu l (by omega);obtain⟨r2,e2,z2,y2⟩:=ihk (i+1) r (by omega) (by omega);exact⟨r2,oa (k+1) _ _ _ _ ⟨λ_=>⟨u,hu,r,e,by omega,e2⟩,λh=>absurd hul h⟩,by omega,λhq=>y2<|y hq⟩
   ·exact last (k+1) i l h' (by omega)
 obtain⟨r,e,z,y⟩:=loop t.kids.length 0 (l++[⟨s1,[109,111,100,117,108,101]⟩,⟨s2,t.text⟩]) (by omega) (by simp only[aab,aac,aae,List.drop_zero];omega);simp only[aab,aac,aae,List.drop_zero]at z;refine⟨r,pL (t.kids.length+2) _ _ _ ⟨λ_=>vy (t.kids.length+1) _ _ _ ⟨_,g1,_,g2,by simp only[aab,aac,aae];omega,e⟩,λh=>absurd hk h⟩,by omega,λhq=>y (by simp only[cM,bY];exact⟨hq,⟨b1,by decide⟩,⟨b2,by omega⟩,cr⟩)⟩
theorem Nj:∀t:Tree,tbulk t<=1000000->shapeK t=true->Pok t:=da λt ih ht hs=>by
 have ih':∀(i:Nat) (u:Tree),t.kids[i]?=some u->Pok u:=λi u J=>ih i u J (by have :=aF J;omega) (CU hs J).1;by_cases h:∃c∈[(1:Int),2,3,4,5,6,7,13,14,15,8,16,17,18,19,20,21,22],t.kind=c
 ·obtain⟨c,G,e⟩:=h;simp only[aah,List.not_mem_nil,or_false]at G;rcases G with rfl|rfl|rfl|rfl|rfl|rfl|rfl|rfl|rfl|rfl|rfl|rfl|rfl|rfl|rfl|rfl|rfl|rfl
  ·exact p_1 e hs ht ih'
  ·exact p_2 e hs ht ih'
  ·exact p_3 e hs ht ih'
  ·exact p_4 e hs ht ih'
  ·exact p_5 e ht
  ·exact p_6 e ht
  ·exact p_7 e ht
  ·exact Ts e ht
  ·exact Te e ht
  ·exact TA e ht
  ·exact p_8 e hs ht ih'
  ·exact Tm e hs ht ih'
  ·exact Tk e hs ht ih'
  ·exact Ti e hs ht ih'
  ·exact Tb e hs ht ih'
  ·exact Tl e hs ht ih'
  ·exact TB e hs ht ih'
  ·exact Tj e hs ht ih'
 ·exact QB (λc G e=>h ⟨c,G,e⟩) ht
theorem Mj:∀t:Tree,tbulk t<=1000000->∃b,ja t b:=da λt ih ht=>by
 have hk:=bw t;have hl:=Dd t;have kids:∀k i,t.kids.length-i<=k->∃b,hW (k+1) t i b:=λk=>by
  induction k with
  |zero=>intro i hi;exact⟨_,gG 0 _ _ _ ⟨λh=>by omega,λ_=>rfl⟩⟩
  | succ k ihk=>
   intro i hi;obtain⟨u,hu,hul⟩|h':=aV t.kids i
   ·have :=aF hu;obtain⟨b,hb⟩:=ih i u hu (by omega);cases b with
    |false=>exact⟨false,gG (k+1) _ _ _ ⟨λ_=>⟨u,hu,_,hb,λ_=>rfl,λh=>(by cases h)⟩,λh=>absurd hul h⟩⟩
    |true=>
     obtain⟨b2,hb2⟩:=ihk (i+1) (by omega);exact⟨b2,gG (k+1) _ _ _ ⟨λ_=>⟨u,hu,_,hb,λh=>(by cases h),λ_=>hb2⟩,λh=>absurd hul h⟩⟩
   ·exact⟨true,gG (k+1) _ _ _ ⟨λh=>absurd h h',λ_=>I⟩⟩
 have lead:∀k i,t.leads.length-i<=k->∃b M,dL M t i b:=λk=>by
  have last:∀i,¬i<t.leads.length->∃b M,dL M t i b:=λi hi=>by obtain⟨b,hb⟩:=kids t.kids.length 0 (by omega);exact⟨b,_,eT _ _ _ _ ⟨λh=>absurd h hi,λ_=>hb⟩⟩
  induction k with
  |zero=>intro i hi;exact last i (by omega)
  | succ k ihk=>
   intro i hi;obtain⟨s,hs,hsl⟩|h':=aV t.leads i
   ·have :=AK hs;have :=bm t;obtain⟨b2,M,hb2⟩:=ihk (i+1) (by omega);by_cases h1:t.kind=1
    ·have ht1:=Cw s (((i:Nat):Int)==2) (by omega);cases hb:jj false s (((i:Nat):Int)==2)with
     |false=>rw[hb]at ht1;exact⟨false,1,eT 0 _ _ _ ⟨λ_=>⟨s,hs,λ_=>⟨_,ht1,λ_=>rfl,λh=>(by cases h)⟩,λh=>absurd h1 h⟩,λh=>absurd hsl h⟩⟩
     |true=>rw[hb]at ht1;exact⟨b2,M+1,eT M _ _ _ ⟨λ_=>⟨s,hs,λ_=>⟨_,ht1,λh=>(by cases h),λ_=>hb2⟩,λh=>absurd h1 h⟩,λh=>absurd hsl h⟩⟩
    ·have ht1:=Cw s false (by omega);cases hb:jj false s false with
     |false=>rw[hb]at ht1;exact⟨false,1,eT 0 _ _ _ ⟨λ_=>⟨s,hs,λh=>absurd h h1,λ_=>⟨_,ht1,λ_=>rfl,λh=>(by cases h)⟩⟩,λh=>absurd hsl h⟩⟩
     |true=>rw[hb]at ht1;exact⟨b2,M+1,eT M _ _ _ ⟨λ_=>⟨s,hs,λh=>absurd h h1,λ_=>⟨_,ht1,λh=>(by cases h),λ_=>hb2⟩⟩,λh=>absurd hsl h⟩⟩
   ·exact last i h'
 by_cases h:((t.leads.length:Nat):Int)=dJ t.kind t.kids.length
 ·obtain⟨b,M,hb⟩:=lead t.leads.length 0 (by omega);exact⟨b,qP M _ _ ⟨_,xt (by omega) (by omega),λh'=>absurd h h',λ_=>hb⟩⟩
 ·exact⟨false,qP 0 _ _ ⟨_,xt (by omega) (by omega),λ_=>I,λh'=>absurd h' h⟩⟩
theorem KT:∀t:Tree,tbulk t<=1000000->∃b,ie t b:=da λt ih ht=>by
 have hk:=bw t;have kids:∀k i,t.kids.length-i<=k->∃b,aN (k+1) t i b:=λk=>by
  induction k with
  |zero=>intro i hi;exact⟨_,gf 0 _ _ _ ⟨λh=>by omega,λ_=>rfl⟩⟩
  | succ k ihk=>
   intro i hi;obtain⟨u,hu,hul⟩|h':=aV t.kids i
   ·have :=aF hu;obtain⟨b,hb⟩:=ih i u hu (by omega);cases b with
    |false=>exact⟨false,gf (k+1) _ _ _ ⟨λ_=>⟨u,hu,_,hb,λ_=>rfl,λh=>(by cases h)⟩,λh=>absurd hul h⟩⟩
    |true=>
     obtain⟨b2,hb2⟩:=ihk (i+1) (by omega);exact⟨b2,gf (k+1) _ _ _ ⟨λ_=>⟨u,hu,_,hb,λh=>(by cases h),λ_=>⟨by omega,hb2⟩⟩,λh=>absurd hul h⟩⟩
   ·exact⟨true,gf (k+1) _ _ _ ⟨λh=>absurd h h',λ_=>I⟩⟩
 obtain⟨b,hb⟩:=kids t.kids.length 0 (by omega);by_cases hall:(t.kind=1∧(40:Int)<t.kids.length)∨(t.kind=2∧(10:Int)<t.kids.length)∨(t.kind=16∧(8:Int)<t.kids.length)∨(t.kind=18∧(16:Int)<t.kids.length)
 ·refine⟨false,pG (t.kids.length+1) _ _ ?_⟩
  repeat' (refine And.intro (λ_=>?_) λ_=>?_)
  all_goals first|rfl|(exfalso;omega)
 ·refine⟨b,pG (t.kids.length+1) _ _ ?_⟩
  repeat' (refine And.intro (λ_=>?_) λ_=>?_)
  all_goals first|exact hb|(exfalso;omega)
theorem NG:∀t:Tree,tbulk t<=1000000->∃n,iR t n∧0<=n∧n<=tbulk t:=da λt ih ht=>by
 have hk:=bw t;have kids:∀k i (z:Int),t.kids.length-i<=k->0<=z->z<tbulk t->∃n,iv (k+1) t z i n∧0<=n∧n<=tbulk t:=λk=>by
  induction k with
  |zero=>intro i z hi h0 hz;exact⟨_,kW 0 _ _ _ _ ⟨λh=>by omega,λ_=>⟨by omega,rfl⟩⟩,by omega,by omega⟩
  | succ k ihk=>
   intro i z hi h0 hz;obtain⟨u,hu,hul⟩|h':=aV t.kids i
   ·have :=aF hu;obtain⟨n,hn,n0,n1⟩:=ih i u hu (by omega);obtain⟨r,hr,r0,r1⟩:=ihk (i+1) (max z n) (by omega) (by omega) (by omega);exact⟨r,kW (k+1) _ _ _ _ ⟨λ_=>⟨u,hu,_,hn,hr⟩,λh=>absurd hul h⟩,r0,r1⟩
   ·exact⟨_,kW (k+1) _ _ _ _ ⟨λh=>absurd h h',λ_=>⟨by omega,I⟩⟩,by omega,by omega⟩
 obtain⟨n,hn,n0,n1⟩:=kids t.kids.length 0 0 (by omega) (by omega) (by have :=bU t;omega);exact⟨n,xa _ _ _ hn,n0,n1⟩
theorem yz(t:Tree)(ht:tbulk t<=1000000):∃b,fL t b∧(b=true->shapeK t=true):=by
 have h1:=CY t (by omega);cases hs:shapeK t with
 |false=>rw[hs]at h1;exact⟨false,mY 0 _ _ ⟨_,h1,λh=>by(cases h),λ_=>rfl⟩,λh=>(by cases h)⟩
 |true=>
  rw[hs]at h1;obtain⟨b,hb⟩:=Mj t ht;exact⟨b,mY 0 _ _ ⟨_,h1,λ_=>⟨_,hb,rfl⟩,λh=>(by cases h)⟩,λ_=>rfl⟩
theorem NE (t:Tree) (ht:tbulk t<=1000000):∃s,ma t s:=by
 obtain⟨b,hb,hs⟩:=yz t ht;cases b with
 |false=>exact⟨[],qX 0 _ _ ⟨_,hb,λ_=>rfl,λh=>(by cases h)⟩⟩
 | true =>
  obtain⟨l,e,z,q⟩:=Nj t ht (hs rfl) [] (by simp;omega);have hq:=q cr;simp only[aae]at z;have loop:∀k i (s:List UInt8),l.length-i<=k->s.length<=i*2000020->i<=l.length->∃r,cJ (k+1) l s i r:=λk=>by
   induction k with
   |zero=>intro i s hi hsl hil;exact⟨_,dv 0 _ _ _ _ ⟨λh=>by omega,λ_=>rfl⟩⟩
   | succ k ihk=>
    intro i s hi hsl hil;obtain⟨x,hx,hxl⟩|h':=aV l i
    ·obtain⟨hx1,hx2⟩:=hq x<|List.mem_of_getElem? hx;have hmul:(i+1)*2000020=i*2000020+2000020:=Nat.succ_mul _ _;obtain⟨r1,hr1⟩:=ihk (i+1) (((s++[32])++x.Lead)++x.Text) (by omega) (by simp only[aab,aac,aae];omega) (by omega);obtain⟨r2,hr2⟩:=ihk (i+1) ((s++x.Lead)++x.Text) (by omega) (by simp only[aab];omega) (by omega);have plain:s.length+x.Lead.length<=9223372036854775807∧∃y:Pce,l[i]?=some y∧(s++x.Lead).length+y.Text.length<=9223372036854775807∧cJ (k+1) l ((s++x.Lead)++y.Text) (i+1) r2:=⟨by omega,x,hx,by simp only[aab];omega,hr2⟩;by_cases h0:(0:Int)<((i:Nat):Int)
     ·by_cases hle:x.Lead=[]
      ·obtain⟨y,hy,hyl⟩|h':=aV l (i-1)
       rotate_left
       ·omega
       obtain⟨hy1,hy2⟩:=hq y<|List.mem_of_getElem? hy;have hf:=MV y.Text x.Text (by omega) (by omega);cases hb2:fusesT y.Text x.Text with
       |true=>
        rw[hb2]at hf;exact⟨r1,dv (k+1) _ _ _ _ ⟨λ_=>⟨λ_=>⟨x,hx,λ_=>⟨by omega,i-1,by omega,y,hy,x,hx,_,hf,λ_=>⟨by simp only[aac,aae];omega,x,hx,by simp only[aab,aac,aae];omega,x,hx,by simp only[aab,aac,aae];omega,hr1⟩,λh=>by(cases h)⟩,λh=>absurd hle h⟩,λh=>absurd h0 h⟩,λh=>absurd hxl h⟩⟩
       |false=>
        rw[hb2]at hf;exact⟨r2,dv (k+1) _ _ _ _ ⟨λ_=>⟨λ_=>⟨x,hx,λ_=>⟨by omega,i-1,by omega,y,hy,x,hx,_,hf,λh=>by(cases h),λ_=>⟨x,hx,plain⟩⟩,λh=>absurd hle h⟩,λh=>absurd h0 h⟩,λh=>absurd hxl h⟩⟩
      ·exact⟨r2,dv (k+1) _ _ _ _ ⟨λ_=>⟨λ_=>⟨x,hx,λh=>absurd h hle,λ_=>⟨x,hx,plain⟩⟩,λh=>absurd h0 h⟩,λh=>absurd hxl h⟩⟩
     ·exact⟨r2,dv (k+1) _ _ _ _ ⟨λ_=>⟨λh=>absurd h h0,λ_=>⟨x,hx,plain⟩⟩,λh=>absurd hxl h⟩⟩
    ·exact⟨s,dv (k+1) _ _ _ _ ⟨λh=>absurd h h',λ_=>I⟩⟩
  obtain⟨r,hr⟩:=loop l.length 0 [] (by omega) (by simp) (by omega);exact⟨r,qX (l.length+1) _ _ ⟨_,hb,λh=>by(cases h),λ_=>⟨l,wa 0 _ _ ⟨_,e,rfl⟩,hr⟩⟩⟩
theorem Ny(t:Tree)(ht:tbulk t<=1000000):∃b,fP t b∧(b=true->shapeK t=true):=by
 obtain⟨b,hb,hsh⟩:=yz t ht;cases b with
 |false=>exact⟨false,ir 0 _ _ ⟨_,hb,λh=>by(cases h),λ_=>rfl⟩,λh=>(by cases h)⟩
 | true=>
  obtain⟨b2,hb2⟩:=KT t ht;cases b2 with
  |false=>exact⟨false,ir 0 _ _ ⟨_,hb,λ_=>⟨_,hb2,λh=>by(cases h),λ_=>rfl⟩,λh=>(by cases h)⟩,λh=>(by cases h)⟩
  |true=>
   obtain⟨n,hn,_,_⟩:=NG t ht;obtain⟨s,hs⟩:=NE t ht;by_cases h40:n<=40
   ·exact⟨_,ir 0 _ _ ⟨_,hb,λ_=>⟨_,hb2,λ_=>⟨n,hn,λ_=>⟨s,hs,rfl⟩,λh=>absurd h40 h⟩,λh=>(by cases h)⟩,λh=>(by cases h)⟩,λ_=>hsh rfl⟩
   ·exact⟨false,ir 0 _ _ ⟨_,hb,λ_=>⟨_,hb2,λ_=>⟨n,hn,λh=>absurd h h40,λ_=>rfl⟩,λh=>(by cases h)⟩,λh=>(by cases h)⟩,λh=>(by cases h)⟩
theorem Rx:∀l:YT,baresK l=l.map bareK
 |[]=>rfl
 |t::r=>by simp only[baresK,aan,Rx r]
theorem JH(t:Tree):bareK t=.node t.kind t.text [] (t.kids.map bareK):=by rw[Aa,Rx]
theorem LP{l:List YB}{ks:YT}(h:ks.map bareK=t.kids.map bareK):bareK (.node t.kind t.text l ks)=bareK t:=by rw[JH,JH t];show Tree.node _ _ _ _=_;rw[<-h];rfl
theorem Ep(h:bareK u=bareK t):u.kids.map bareK=t.kids.map bareK:=by rw[JH,JH t]at h;exact(Tree.node.inj h).2.2.2
theorem Ja{l m:YT}(h:l.map bareK=m.map bareK){v:Tree}(hv:l[i]?=some v):∃w,m[i]?=some w∧bareK v=bareK w:=by
 have h1:(l.map bareK)[i]?=some (bareK v):=by rw[List.getElem?_map,hv];rfl
 rw[h,List.getElem?_map,Option.map_eq_some_iff]at h1;obtain⟨w,h2,G⟩:=h1;exact⟨w,h2,G.symm⟩
theorem Oa:∀t:Tree,lisK (bareK t)=lisK t:=da λt ih=>by
 obtain⟨k,s,ls,ks⟩:=t;cases ks with
 |nil=>simp only[bareK,baresK,lisK,lisH]
 |cons u r=>
  have :=ih 0 u rfl;simp only[bareK,baresK,lisK,lisH,this]
theorem Sc{l m:YT}(h:l.map bareK=m.map bareK):l.length=m.length:=by have :=congrArg List.length h;simpa using this
def uB(f:Tree):Prop:=∀(i:Nat) (k v:Tree),i+2<f.kids.length->f.kids[i]?=some k->k.kids[0]?=some v->lisK v<=1
theorem uB.bare{f g:Tree}(h:uB f)(e:bareK g=bareK f):uB g:=λi k v hi Z hv=>by have O:=Ep e;obtain⟨k',G,ek⟩:=Ja O Z;obtain⟨v',J,ev⟩:=Ja (Ep ek) hv;have :=h i k' v' (by rw[<-Sc O];exact hi) G J;rw[<-Oa v,ev,Oa];exact this
def xR(t:Tree):Prop:=∀f∈t.kids,uB f
theorem xR.bare{f g:Tree}(h:xR f)(e:bareK g=bareK f):xR g:=λk J=>by
 obtain⟨i,hi,O⟩:=aat J;obtain⟨k',G,Z⟩:=Ja (Ep e) (i:=i) (v:=k) (by rw[List.getElem?_eq_getElem hi,O]);exact(h k'<|List.mem_of_getElem? G).bare Z
theorem KQ{l:YT}{v:Tree}{d:YT}(h:l[i]?=some u)(G:d.map bareK=(l.take i).map bareK)(e:bareK v=bareK u):(d++[v]).map bareK=(l.take<|i+1).map bareK:=by rw[List.take_add_one,h,aaw,aaw,G];simp[e]
theorem SB(hd:Dc L a):Gt L (λt a'=>pf L a t L a'∧uB t) 500:=by
 obtain⟨r,a1,h1,h2,h3⟩:=eb hd (n:=5) (by omega) (by omega);by_cases hr:r=0
 ·obtain⟨s,a2,g1,g2,g3⟩:=kX h3 [[84],[85]] (by decide) (by decide);have hs:=jJ g2 (by decide);obtain⟨t,a3,⟨q1,_⟩,q2,q3⟩:=Jo 2 g3 (by omega);exact⟨_,a3,⟨sY 0 _ _ _ _ _ ⟨_,_,_,h1,λ_=>⟨_,_,_,g1,_,_,_,q1,rfl,rfl,rfl⟩,λh=>absurd hr h⟩,λi k v hi=>by simp[Tree.kids]at hi⟩,q2,by rw[tb1];omega⟩
 ·obtain⟨s,a2,g1,g2,g3⟩:=kX h3 [[102],[103],[104]] (by decide) (by decide);have hs:=jJ g2 (by decide);obtain⟨n,a3,g4,g5,g6⟩:=eb g3 (n:=4) (by omega) (by omega);have loop:∀(k:Nat) (a:Int) (l:YT),Dc L a->l.length+k<=100->(∀k∈l,∀v,k.kids[0]?=some v->lisK v<=1)->Gt L (λt a'=>ko (k+1) s L a l (k:Int) t L a'∧uB t) (s.length+1+kbulk l+k*13+429):=λk=>by
   induction k with
   | zero=>
    intro a l hd hl hok;obtain⟨t1,b1,⟨q1,_⟩,q2,q3⟩:=Jo 1 hd (by omega);obtain⟨t2,b2,q4,q5,q6⟩:=Qv 3 q2 (by omega);have :eB 3=422:=rfl;refine⟨_,b2,⟨sF 0 _ _ _ _ _ _ _ _ ⟨λh=>by omega,λ_=>⟨_,_,_,q1,_,_,_,q4,by simp;omega,rfl,rfl,rfl⟩⟩,λi k v hi hk hv=>?_⟩,q5,?_⟩
    ·have hi':i<l.length:=by simp[Tree.kids]at hi;omega
     have hk':l[i]?=some k:=by
      have :(l++[t1,t2])[i]?=some k:=hk
      rwa [List.getElem?_append_left hi']at this
     exact hok k (List.mem_of_getElem? hk') v hv
    rw[tbK,gm];simp only[kbulk];omega
   | succ k ihk=>
    intro a l hd hl hok;obtain⟨x,b0,q0,q0',q0''⟩:=kX hd [[120],[121],[122]] (by decide) (by decide);have hx:=jJ q0' (by decide);obtain⟨t,b,⟨q1,ql⟩,q2,q3⟩:=Jo 1 q0'' (by omega);refine(ihk b (l++[.node 4 x [] [t]]) q2 (by simp;omega) (λc hc v hv=>by
     rcases List.mem_append.1 hc with hc|hc
     ·exact hok c hc v hv
     ·rw[List.mem_singleton]at hc;subst hc;simp only[Tree.kids,List.getElem?_cons_zero,aad]at hv;subst hv;exact ql)).map ?_ λt' a' ⟨h,hp⟩=>⟨sF (k+1) _ _ _ _ _ _ _ _ ⟨λ_=>⟨_,_,_,q0,_,_,_,q1,by simp;omega,by omega,by rw[show((k+1:Nat):Int)-1=(k:Int) by omega];exact h⟩,λh=>by omega⟩,hp⟩
    rw[gm];simp only[kbulk,tb1];omega
  exact(loop n.toNat a3 [] g6 (by simp;omega) λk hk=>by cases hk).map (by simp only[kbulk];omega) λt a' ⟨h,hp⟩=>⟨sY (n.toNat+1) _ _ _ _ _ ⟨_,_,_,h1,λh=>absurd h hr,λ_=>⟨_,_,_,g1,_,_,_,g4,by rw[show n=((n.toNat:Nat):Int) by omega];exact h⟩⟩,hp⟩
def Sh(l:List YB)(n:Nat):Prop:=l.length=n∧∀x∈l,x.length<=2
theorem Sh.sum:∀{l:List YB} {n:Nat},Sh l n->ep l<=3*n
 |[],n,h=>by simp[ep]
 |x::r,n,h=>by
  obtain⟨h1,h2⟩:=h;have :=h2 x (by simp);have :=Sh.sum (l:=r) (n:=n-1) ⟨by simp at h1;omega,λy hy=>h2 y<|by simp[hy]⟩;simp only[ep];simp at h1;omega
variable{n:Nat}
theorem Sh.set{l:List YB}{x:YB}(h:Sh l n)(hx:x.length<=2):Sh (l.set i x) n:=⟨by simpa using h.1,λy hy=>by
 rcases List.mem_or_eq_of_mem_set hy with h1|h1
 ·exact h.2 y h1
 ·subst h1;exact hx⟩
theorem Sh.get{l:List YB}(h:Sh l n)(hi:i<n):∃s,l[i]?=some s:=by
 obtain⟨s,hs,_⟩|h':=aV l i
 ·exact⟨s,hs⟩
 ·have :=h.1;omega
theorem MU{n:Int}(h0:0<=n)(h1:n<=100000000):∃l,lA n l∧Sh l n.toNat:=by
 have loop:∀k i (l:List YB),n.toNat-i<=k->i<=n.toNat->Sh l i->∃r,gy (k+1) n l i r∧Sh r n.toNat:=λk=>by
  induction k with
  |zero=>intro i l hi hle hl;exact⟨l,jR 0 _ _ _ _ ⟨λh=>by omega,λ_=>rfl⟩,by rw[show n.toNat=i by omega];exact hl⟩
  | succ k ihk=>
   intro i l hi hle hl;by_cases h:(i:Int)<n
   ·obtain⟨r,e,hr⟩:=ihk (i+1) (l++[[32]]) (by omega) (by omega) ⟨by simp[hl.1],λx hx=>by
     rcases List.mem_append.1 hx with h1|h1
     ·exact hl.2 x h1
     ·simp at h1;subst h1;simp⟩
    exact⟨r,jR (k+1) _ _ _ _ ⟨λ_=>⟨by simp[hl.1];omega,by omega,e⟩,λh'=>absurd h h'⟩,hr⟩
   ·exact⟨l,jR (k+1) _ _ _ _ ⟨λh'=>absurd h' h,λ_=>I⟩,by rw[show n.toNat=i by omega];exact hl⟩
 obtain⟨r,e,hr⟩:=loop n.toNat 0 [] (by omega) (by omega) ⟨rfl,λx hx=>by cases hx⟩;exact⟨r,wq _ _ _ e,hr⟩
def zA(t:Tree)(i:Int)(first:YB):YB:=if t.kind=1 then[10,10]else if 0<i then[32]else if t.kind=8∨t.kind=22∨t.kind=16∨t.kind=18 then[]else if t.kind=2 then(if(2:Int)<t.kids.length then[]else[32])else if t.kind=17∨t.kind=21 then first else[32]
theorem Nx(t:Tree)(i:Int)(first:YB):lK t i first (zA t i first):=by
 refine vP 1 _ _ _ _ ?_
 repeat' first|(refine And.intro (λ_=>?_) λ_=>?_)|(refine vn 0 _ _ _ _ ?_)
 all_goals simp_all[zA]
 all_goals (intro h;omega)
theorem IU(t:Tree)(i:Int)(first:YB)(hf:first.length<=2):(zA t i first).length<=2:=by
 unfold zA
 repeat' split
 all_goals first|exact hf|simp
theorem sj{n:Int}(G:0<=n)(a b c:Nat)(z:Int):f0 n a b c z<=b+n:=by
 unfold f0;repeat' split
 all_goals omega
theorem RO{k n:Int}(G:0<=n):dJ k n<=6+n:=by
 have a1:=sj G 2 6 2<|-1;have O:=sj G 0 3 0<|-1;have Z:=sj G 1 2 0<|-1;have a4:=sj G 1 3 0 1;have a5:=sj G 1 2 0 1;have a6:=sj G 1 0 0 1;have a7:=sj G 3 3 0 3;have a8:=sj G 2 4 0 2;have a9:=sj G 2 1 0 2;have J:=sj G 0 1 0 0;simp only[dJ]
 repeat' first|omega|split
theorem KB(hs:shapeK t=true):(t.kind=1->dJ t.kind t.kids.length=3)∧(t.kind=2->6<=dJ t.kind t.kids.length)∧(t.kind=4∨t.kind=8∨t.kind=22->dJ t.kind t.kids.length=2)∧(t.kind≠17->1<=dJ t.kind t.kids.length):=by
 have h:=uK hs;refine⟨λG=>?_,λG=>?_,λG=>?_,λG=>?_⟩
 ·rw[G];simp only[dJ];simp
 ·rw[G]at h⊢;simp only[dJ,f0]at h⊢;simp at h⊢;repeat' split
  all_goals first|omega|(simp_all;omega)
 ·rcases G with G|G|G<;>(rw[G]at h⊢;simp only[dJ,f0]at h⊢;simp at h⊢;repeat' split)<;>first|omega|(simp_all;done)|(simp_all;omega)
 ·have key:∀k n:Int,0<=n->k≠17->0<=dJ k n->1<=dJ k n:=λk n O G h=>by
   have q:∀(a b c:Nat) z,1<=b->f0 n a b c z=-1∨1<=f0 n a b c z:=λa b c z hb=>by
    unfold f0;repeat' split
    all_goals omega
   have a1:=q 2 6 2 (-1) (by decide);have Z:=q 0 3 0 (-1) (by decide);have a3:=q 1 2 0 (-1) (by decide);have a4:=q 1 3 0 1 (by decide);have a5:=q 1 2 0 1 (by decide);have a7:=q 3 3 0 3 (by decide);have a8:=q 2 4 0 2 (by decide);have a9:=q 2 1 0 2 (by decide);have J:=q 0 1 0 0 (by decide)
   revert h
   simp only[dJ]
   repeat' first|(intro h;omega)|split
  exact key _ _ (by omega) G h
section
variable{t:Tree}{N:Nat}{us:YT}
theorem Oy:∀k i (l:List YB),N-i<=k->Sh l N->∃l',gh (k+1) t l i us (.node t.kind t.text l' us)∧Sh l' N:=λk=>by
 induction k with
 |zero=>intro i l hi hl;exact⟨l,jd 0 _ _ _ _ _ ⟨λh=>by have :=hl.1;omega,λ_=>rfl⟩,hl⟩
 | succ k ihk=>
  intro i l hi hl;by_cases h:i<l.length
  ·obtain⟨s,hs⟩:=hl.get (i:=i) (by have :=hl.1;omega);obtain⟨l',e,h'⟩:=ihk (i+1) (l.set i []) (by omega) (hl.set<|by simp);exact⟨l',jd (k+1) _ _ _ _ _ ⟨λ_=>⟨s,hs,e⟩,λh'=>absurd h h'⟩,h'⟩
  ·exact⟨l,jd (k+1) _ _ _ _ _ ⟨λh'=>absurd h' h,λ_=>I⟩,hl⟩
theorem Hr:∀k i (l:List YB),N-i<=k->Sh l N->∃l',ee (k+1) t l i us (.node t.kind t.text l' us)∧Sh l' N:=λk=>by
 induction k with
 |zero=>intro i l hi hl;exact⟨l,jh 0 _ _ _ _ _ ⟨λh=>by have :=hl.1;omega,λ_=>rfl⟩,hl⟩
 | succ k ihk=>
  intro i l hi hl;by_cases h:i<l.length
  ·obtain⟨s,hs⟩:=hl.get (i:=i) (by have :=hl.1;omega);obtain⟨l',e,h'⟩:=ihk (i+1) (l.set i []) (by omega) (hl.set<|by simp);exact⟨l',jh (k+1) _ _ _ _ _ ⟨λ_=>⟨s,hs,e⟩,λh'=>absurd h h'⟩,h'⟩
  ·exact⟨l,jh (k+1) _ _ _ _ _ ⟨λh'=>absurd h' h,λ_=>I⟩,hl⟩
theorem Cm(hs:shapeK t=true)(hN:N=(dJ t.kind t.kids.length).toNat){l:List YB}(G:Sh l N):∃O,ec (N+2) t l us (.node t.kind t.text O us)∧Sh O N:=by
 obtain⟨g1,g2,g3,g4⟩:=KB hs;have e0:([]:YB).length<=2:=by simp
 by_cases h1:t.kind=1
 ·have :=g1 h1;obtain⟨s,hs⟩:=G.get (i:=2) (by omega);exact⟨_,cc (N+1) _ _ _ _ ⟨λ_=>⟨s,hs,rfl⟩,λh=>absurd h1 h⟩,G.set<|by simp⟩
 by_cases h2:t.kind=2
 ·have :=g2 h2;have l1:=G.set (i:=2) e0;have l2:=l1.set (i:=3) e0;have l3:=l2.set (i:=4) e0;obtain⟨s,hs⟩:=G.get (i:=2) (by omega);obtain⟨s',hs'⟩:=l1.get (i:=3) (by omega);obtain⟨s2,hs2⟩:=l2.get (i:=4) (by omega);obtain⟨O,e,h'⟩:=Oy (t:=t) (us:=us) N 6 _ (by omega) l3;exact⟨O,cc (N+1) _ _ _ _ ⟨λh=>absurd h h1,λ_=>⟨λ_=>⟨s,hs,s',hs',s2,hs2,e⟩,λh=>absurd h2 h⟩⟩,h'⟩
 by_cases Z:t.kind=4
 ·have :=g3 (by simp[Z]);obtain⟨s,hs⟩:=G.get (i:=1) (by omega);exact⟨_,cc (N+1) _ _ _ _ ⟨λh=>absurd h h1,λ_=>⟨λh=>absurd h h2,λ_=>⟨λ_=>⟨s,hs,I⟩,λh=>absurd Z h⟩⟩⟩,G.set e0⟩
 by_cases h8:t.kind=8
 ·have :=g3 (by simp[h8]);obtain⟨s,hs⟩:=G.get (i:=1) (by omega);exact⟨_,cc (N+1) _ _ _ _ ⟨λh=>absurd h h1,λ_=>⟨λh=>absurd h h2,λ_=>⟨λh=>absurd h Z,λ_=>⟨λ_=>⟨s,hs,I⟩,λh=>absurd h8 h⟩⟩⟩⟩,G.set e0⟩
 by_cases J:t.kind=22
 ·have :=g3 (by simp[J]);obtain⟨s,hs⟩:=G.get (i:=1) (by omega);exact⟨_,cc (N+1) _ _ _ _ ⟨λh=>absurd h h1,λ_=>⟨λh=>absurd h h2,λ_=>⟨λh=>absurd h Z,λ_=>⟨λh=>absurd h h8,λ_=>⟨λ_=>⟨s,hs,I⟩,λh=>absurd J h⟩⟩⟩⟩⟩,G.set e0⟩
 by_cases h16:t.kind=16
 ·obtain⟨O,e,h'⟩:=Hr (t:=t) (us:=us) N 1 _ (by omega) G;exact⟨O,cc (N+1) _ _ _ _ ⟨λh=>absurd h h1,λ_=>⟨λh=>absurd h h2,λ_=>⟨λh=>absurd h Z,λ_=>⟨λh=>absurd h h8,λ_=>⟨λh=>absurd h J,λ_=>⟨λ_=>e,λh=>absurd h16 h⟩⟩⟩⟩⟩⟩,h'⟩
 by_cases h18:t.kind=18
 ·obtain⟨O,e,h'⟩:=Hr (t:=t) (us:=us) N 1 _ (by omega) G;exact⟨O,cc (N+1) _ _ _ _ ⟨λh=>absurd h h1,λ_=>⟨λh=>absurd h h2,λ_=>⟨λh=>absurd h Z,λ_=>⟨λh=>absurd h h8,λ_=>⟨λh=>absurd h J,λ_=>⟨λh=>absurd h h16,λ_=>⟨λ_=>e,λh=>absurd h18 h⟩⟩⟩⟩⟩⟩⟩,h'⟩
 ·exact⟨l,cc (N+1) _ _ _ _ ⟨λh=>absurd h h1,λ_=>⟨λh=>absurd h h2,λ_=>⟨λh=>absurd h Z,λ_=>⟨λh=>absurd h h8,λ_=>⟨λh=>absurd h J,λ_=>⟨λh=>absurd h h16,λ_=>⟨λh=>absurd h h18,λ_=>I⟩⟩⟩⟩⟩⟩⟩,G⟩
end
theorem uJ{l:YT}(h:l[i]?=some u):kbulk (l.take<|i+1)=kbulk (l.take i)+tbulk u:=by rw[List.take_add_one,h,gm];simp[kbulk]
theorem LB:∀t:Tree,tbulk t<=1000000->shapeK t=true->∀first,first.length<=2->∃u,gP t first u∧tbulk u+3<=25*tbulk t∧u.kind=t.kind∧bareK u=bareK t:=da λt ih ht hs first hf=>by
 have hk:=bw t;have hbt:=bm t;have h0:=uK hs;have h6:=RO (k:=t.kind) (n:=(t.kids.length:Int)) (by omega);obtain⟨g1,g2,g3,g4⟩:=KB hs;obtain⟨bl,hbl,hsh⟩:=MU h0 (by omega);have loop:∀k i (done rest:YT),t.kids.length-i<=k->done.length=i->i<=t.kids.length->rest.length=t.kids.length-i->kbulk done+3*i<=25*kbulk (t.kids.take i)->done.map bareK=(t.kids.take i).map bareK->∃M r,eh M t first bl (done++rest) i r∧tbulk r+3<=25*tbulk t∧r.kind=t.kind∧bareK r=bareK t:=λk=>by
  have last:∀i (done rest:YT),¬i<t.kids.length->done.length=i->i<=t.kids.length->rest.length=t.kids.length-i->kbulk done+3*i<=25*kbulk (t.kids.take i)->done.map bareK=(t.kids.take i).map bareK->∃M r,eh M t first bl (done++rest) i r∧tbulk r+3<=25*tbulk t∧r.kind=t.kind∧bareK r=bareK t:=λi done rest hi hd hle hr hb hbr=>by
   have hr0:rest=[]:=List.length_eq_zero_iff.1 (by omega);subst hr0;rw[aau];rw[List.take_of_length_le<|by omega]at hb hbr;have fin:∀l',Sh l' (dJ t.kind t.kids.length).toNat->tbulk (.node t.kind t.text l' done)+3<=25*tbulk t∧(Tree.node t.kind t.text l' done).kind=t.kind∧bareK (.node t.kind t.text l' done)=bareK t:=λl' hl'=>by have :=hl'.sum;exact⟨by simp only[tbulk];omega,rfl,LP hbr⟩
   by_cases h17:t.kind=17
   ·obtain⟨l',e,h'⟩:=Cm (us:=done) hs rfl hsh;exact⟨_,_,fN _ _ _ _ _ _ _ ⟨λh=>absurd h hi,λ_=>⟨λh=>absurd h17 h,λ_=>e⟩⟩,fin l' h'⟩
   ·by_cases h21:t.kind=21
    ·obtain⟨l',e,h'⟩:=Cm (us:=done) hs rfl hsh;exact⟨_,_,fN _ _ _ _ _ _ _ ⟨λh=>absurd h hi,λ_=>⟨λ_=>⟨λh=>absurd h21 h,λ_=>e⟩,λh=>absurd h h17⟩⟩,fin l' h'⟩
    ·obtain⟨l',e,h'⟩:=Cm (us:=done) hs rfl<|hsh.set (i:=0) hf;have :=g4 h17;obtain⟨s,hs0⟩:=hsh.get (i:=0) (by omega);exact⟨_,_,fN _ _ _ _ _ _ _ ⟨λh=>absurd h hi,λ_=>⟨λ_=>⟨λ_=>⟨s,hs0,e⟩,λh=>absurd h h21⟩,λh=>absurd h h17⟩⟩,fin l' h'⟩
  induction k with
  |zero=>intro i done rest hi hd hle hr hb hbr;exact last i done rest (by omega) hd hle hr hb hbr
  | succ k ihk=>
   intro i done rest hi hd hle hr hb hbr;obtain⟨u,hu,hul⟩|h':=aV t.kids i
   ·have hbu:=aF hu;obtain⟨v,hv,hvb,_,hvr⟩:=ih i u hu (by omega) (CU hs hu).1 _ (IU t i first hf)
    match rest,hr with
    |z::rest',hr=>
     obtain⟨M,r,e,hb2⟩:=ihk (i+1) (done++[v]) rest' (by omega) (by simp[hd]) (by omega) (by simp at hr;omega) (by rw[uJ hu,gm];simp only[kbulk];omega)<|KQ hu hbr hvr;refine⟨M+1,r,fN M _ _ _ _ _ _ ⟨λ_=>⟨u,hu,_,Nx t i first,v,hv,z,by simp[<-hd],by omega,?_⟩,λh=>absurd hul h⟩,hb2⟩;have :(done++z::rest').set i v=done++[v]++rest':=by simp[<-hd]
     rw[this];exact e
    |[],hr=>simp at hr;omega
   ·exact last i done rest h' hd hle hr hb hbr
 obtain⟨M,r,e,hb⟩:=loop t.kids.length 0 [] (List.replicate t.kids.length<|.node 0 [] [] []) (by omega) rfl (by omega) (by simp) (by simp[kbulk]) (by simp);exact⟨r,vz (M+1) _ _ _ ⟨_,xt (by omega) (by omega),bl,hbl,uy M _ _ _ _ ⟨by omega,by simpa using e⟩⟩,hb⟩
theorem Ks(t:Tree)(ht:tbulk t<=1000000):∃u,kG t u∧tbulk u<=25*tbulk t∧(u.kind=t.kind∨u.kind=0)∧(u.kind≠0->bareK u=bareK t):=by
 have h1:=CY t (by omega);have :=bU t;cases hs:shapeK t with
 |false=>rw[hs]at h1;exact⟨.node 0 [] [] [],ot 0 _ _ ⟨_,h1,λ_=>rfl,λh=>(by cases h)⟩,by rw[tb0];simp;omega,.inr rfl,λh=>absurd rfl h⟩
 |true=>
  rw[hs]at h1;obtain⟨u,O,hb,G,J⟩:=LB t ht hs [] (by simp);exact⟨u,ot 0 _ _ ⟨_,h1,λh=>(by cases h),λ_=>⟨u,O,rfl⟩⟩,by omega,.inl G,λ_=>J⟩
theorem FA:∀(l:List YB) (i:Nat) (x:YB),ep (l.set i x)<=ep l+x.length
 |[],i,x=>by simp[ep]
 |y::r,0,x=>by simp only[List.set_cons_zero,ep];omega
 |y::r,i+1,x=>by have :=FA r i x;simp only[List.set_cons_succ,ep];omega
theorem Ms:∀t:Tree,tbulk t<=1000000->∀{a:Int},Dc L a->Gt L (λu a'=>jy L a t u L a'∧u.kind=t.kind∧bareK u=bareK t) (6*tbulk t):=da λt ih ht a hd=>by
 have hk:=bw t;have hl:=Dd t;have hbt:=bm t;have kids:∀k i (done:YT) (ls:List YB) (a:Int),t.kids.length-i<=k->i<=t.kids.length->done.length=i->kbulk done<=6*kbulk (t.kids.take i)->done.map bareK=(t.kids.take i).map bareK->ep ls<=6*ep t.leads->Dc L a->∃M,Gt L (λu a'=>fR M t L a (done++t.kids.drop i) i ls u L a'∧u.kind=t.kind∧bareK u=bareK t) (6*tbulk t):=λk=>by
  have last:∀i (done:YT) (ls:List YB) (a:Int),¬i<t.kids.length->i<=t.kids.length->done.length=i->kbulk done<=6*kbulk (t.kids.take i)->done.map bareK=(t.kids.take i).map bareK->ep ls<=6*ep t.leads->Dc L a->∃M,Gt L (λu a'=>fR M t L a (done++t.kids.drop i) i ls u L a'∧u.kind=t.kind∧bareK u=bareK t) (6*tbulk t):=λi done ls a hi hle hdn hb hbr hls hd=>by
   rw[List.drop_of_length_le (by omega),aau];rw[List.take_of_length_le<|by omega]at hb hbr;exact⟨1,_,a,⟨qu 0 _ _ _ _ _ _ _ _ _ ⟨λh=>absurd h (by omega),λ_=>⟨rfl,rfl,rfl⟩⟩,rfl,LP hbr⟩,hd,by simp only[tbulk];omega⟩
  induction k with
  |zero=>intro i done ls a hi hle hdn hb hbr hls hd;exact last i done ls a (by omega) hle hdn hb hbr hls hd
  | succ k ihk=>
   intro i done ls a hi hle hdn hb hbr hls hd;obtain⟨u,hu,hul⟩|h':=aV t.kids i
   ·have hbu:=aF hu;obtain⟨v,a1,⟨q1,_,qb⟩,q2,q3⟩:=ih i u hu (by omega) hd;obtain⟨M,hM⟩:=ihk (i+1) (done++[v]) ls a1 (by omega) (by omega) (by simp[hdn]) (by rw[uJ hu,gm];simp only[kbulk];omega) (KQ hu hbr qb) hls q2;have hg:(done++t.kids.drop i)[i]?=some u:=by rw[List.getElem?_append_right (by omega),hdn];simpa using hu
    refine⟨M+1,hM.map (aaf _) λw b ⟨h,hw⟩=>⟨qu M _ _ _ _ _ _ _ _ _ ⟨λ_=>⟨u,hg,_,_,_,q1,u,hg,?_⟩,λh'=>absurd (by simp[hdn];omega) h'⟩,hw⟩⟩;have :(done++t.kids.drop i).set i v=done++[v]++t.kids.drop (i+1):=by rw[aX hu];simp[<-hdn]
    rw[this];exact h
   ·exact last i done ls a h' hle hdn hb hbr hls hd
 have lead:∀k i (ls:List YB) (a:Int),t.leads.length-i<=k->i<=t.leads.length->ls.length=t.leads.length->ep ls<=ep t.leads+5*i->Dc L a->∃M,Gt L (λu a'=>dZ M t L a ls i u L a'∧u.kind=t.kind∧bareK u=bareK t) (6*tbulk t):=λk=>by
  have hll:=AJ t.leads;have last:∀i (ls:List YB) (a:Int),¬i<t.leads.length->i<=t.leads.length->ls.length=t.leads.length->ep ls<=ep t.leads+5*i->Dc L a->∃M,Gt L (λu a'=>dZ M t L a ls i u L a'∧u.kind=t.kind∧bareK u=bareK t) (6*tbulk t):=λi ls a hi hle hlen hb hd=>by obtain⟨M,hM⟩:=kids t.kids.length 0 [] ls a (by omega) (by omega) rfl (by simp[kbulk]) (by simp) (by omega) hd;exact⟨M+1,hM.map (aaf _) λw b ⟨h,hw⟩=>⟨lJ M _ _ _ _ _ _ _ _ ⟨λh'=>absurd h' (by omega),λ_=>⟨by omega,by simpa using h⟩⟩,hw⟩⟩
  induction k with
  |zero=>intro i ls a hi hle hlen hb hd;exact last i ls a (by omega) hle hlen hb hd
  | succ k ihk=>
   intro i ls a hi hle hlen hb hd;obtain⟨x,hx,hxl⟩|h':=aV ls i
   ·obtain⟨n,a1,h1,h2,h3⟩:=eb hd (n:=9) (by omega) (by omega);by_cases hn:n=1
    ·obtain⟨s,a2,g1,g2,g3⟩:=kX h3 [[32,35,32,99,10],[32,32],[10,9],[35,10]] (by decide) (by decide);have hs5:=jJ g2 (by decide);have :=FA ls i s;obtain⟨M,hM⟩:=ihk (i+1) (ls.set i s) a2 (by omega) (by omega) (by simpa using hlen) (by omega) g3;exact⟨M+1,hM.map (aaf _) λw b ⟨h,hw⟩=>⟨lJ M _ _ _ _ _ _ _ _ ⟨λ_=>⟨_,_,_,h1,λ_=>⟨_,_,_,g1,x,hx,h⟩,λh'=>absurd hn h'⟩,λh'=>absurd hxl h'⟩,hw⟩⟩
    ·obtain⟨M,hM⟩:=ihk (i+1) ls a1 (by omega) (by omega) hlen (by omega) h3;exact⟨M+1,hM.map (aaf _) λw b ⟨h,hw⟩=>⟨lJ M _ _ _ _ _ _ _ _ ⟨λ_=>⟨_,_,_,h1,λh'=>absurd h' hn,λ_=>h⟩,λh'=>absurd hxl h'⟩,hw⟩⟩
   ·exact last i ls a (by omega) hle hlen hb hd
 obtain⟨M,hM⟩:=lead t.leads.length 0 t.leads a (by omega) (by omega) rfl (by omega) hd;exact hM.map (aaf _) λw b ⟨h,hw⟩=>⟨yc M _ _ _ _ _ _ ⟨by omega,h⟩,hw⟩
theorem Nb(hd:Dc L a)(name:YB)(hname:name.length<=5):Gt L (λt a'=>lV L a name t L a'∧((t.kind=1∨t.kind=0)∧(t.kind≠0->xR t))) 300000:=by
 obtain⟨n,a1,h1,h2,h3⟩:=eb hd (n:=4) (by omega) (by omega);have loop:∀(k:Nat) (a:Int) (l:YT),Dc L a->l.length+k<=100->kbulk l+k*500<=1500->(∀f∈l,uB f)->Gt L (λt a'=>ii (k+1) name L a l (k:Int) t L a'∧((t.kind=1∨t.kind=0)∧(t.kind≠0->xR t))) 300000:=λk=>by
  induction k with
  |zero=>
   intro a l hd hl hb hok;have ht:tbulk (.node 1 name [] l)<=1506:=by rw[tbK];omega
   obtain⟨u,hu,hub,huk,hubr⟩:=Ks (.node 1 name [] l) (by omega);have hP:xR (.node 1 name [] l):=hok;obtain⟨z,a2,g1,g2,g3⟩:=eb hd (n:=2) (by omega) (by omega);by_cases hz:z=0
   ·exact(Ms u (by omega) g3).map (by omega) λw b ⟨h,hw⟩=>⟨kJ 0 _ _ _ _ _ _ _ _ ⟨λh'=>by omega,λ_=>⟨u,hu,_,_,_,g1,λ_=>⟨_,_,_,h,I,I,I⟩,λh'=>absurd hz h'⟩⟩,by rw[hw.1];exact huk,λhn=>hP.bare<|hw.2.trans (hubr<|by rwa [hw.1]at hn)⟩
   ·exact⟨u,a2,⟨kJ 0 _ _ _ _ _ _ _ _ ⟨λh'=>by omega,λ_=>⟨u,hu,_,_,_,g1,λh'=>absurd h' hz,λ_=>⟨I,I,I⟩⟩⟩,huk,λhn=>hP.bare<|hubr hn⟩,g3,by omega⟩
  | succ k ihk=>
   intro a l hd hl hb hok;obtain⟨t,b,⟨q1,qp⟩,q2,q3⟩:=SB hd;exact(ihk b (l++[t]) q2 (by simp;omega) (by rw[gm];simp only[kbulk];omega) (λf hf=>by
    rcases List.mem_append.1 hf with hf|hf
    ·exact hok f hf
    ·rw[List.mem_singleton]at hf;subst hf;exact qp)).map (aaf _) λw c ⟨h,hw⟩=>⟨kJ (k+1) _ _ _ _ _ _ _ _ ⟨λ_=>⟨_,_,_,q1,by simp;omega,by omega,by rw[show((k+1:Nat):Int)-1=(k:Int) by omega];exact h⟩,λh=>by omega⟩,hw⟩
 exact(loop n.toNat a1 [] h3 (by simp;omega) (by simp only[kbulk];omega) λf hf=>by cases hf).map (aaf _) λw b ⟨h,hw⟩=>⟨xq (n.toNat+1) _ _ _ _ _ _ ⟨_,_,_,h1,by rw[show n=((n.toNat:Nat):Int) by omega];exact h⟩,hw⟩
def Mok(p:YT):Prop:=∀t∈p,t.kind=1∧shapeK t=true
def Mpo(p:YT):Prop:=Mok p∧∀t∈p,xR t
theorem Jf(l:YI)(hl:l.length<=1000000):∃p,lu l p∧kbulk p<=1000000∧Mpo p:=by
 have hd0:Dc l 0:=⟨by omega,by omega,by omega⟩;obtain⟨n,a1,h1,h2,h3⟩:=eb hd0 (n:=4) (by omega) (by omega);have loop:∀(k:Nat) (a:Int) (p:List Tree),Dc l a->p.length+k<=3->kbulk p+k*300001<=900003->Mpo p->∃r,bX (k+1) l a p (k:Int) r∧kbulk r<=900003∧Mpo r:=λk=>by
  induction k with
  |zero=>intro a p hd hp hb hmk;exact⟨p,jW 0 _ _ _ _ _ ⟨λh=>by omega,λ_=>rfl⟩,by omega,hmk⟩
  | succ k ihk=>
   intro a p hd hp hb hmk;have hb2:kbulk p+k*300001+300001<=900003:=aao (Nat.le_of_eq (by rw[Nat.succ_mul,aav])) hb;have hb3:kbulk p+k*300001<=900003:=aao (Nat.le_add_right _ _) hb2;obtain⟨x,hx,_⟩|h':=aV [[(65:UInt8)],[66],[67]] p.length
   rotate_left
   ·simp at h';omega
   have hx5:x.length<=5:=jJ (List.mem_of_getElem? hx) (by decide);obtain⟨t,a2,⟨q1,qk⟩,q2,q3⟩:=Nb hd x hx5;obtain⟨z,a3,g1,g2,g3⟩:=eb q2 (n:=8) (by omega) (by omega);have step:∀u:Tree,tbulk u<=300001->((u.kind=1∨u.kind=0)∧(u.kind≠0->xR u))->∃b r,fP u b∧((b=true)->(p++[u]).length<=1000000000∧InI (((k+1:Nat):Int)-1)∧bX (k+1) l a3 (p++[u]) (((k+1:Nat):Int)-1) r)∧((b=false)->InI (((k+1:Nat):Int)-1)∧bX (k+1) l a3 p (((k+1:Nat):Int)-1) r)∧kbulk r<=900003∧Mpo r:=λu hu huk=>by
    obtain⟨b,hb',hbs⟩:=Ny u (by omega);have e:((k+1:Nat):Int)-1=(k:Int):=by omega
    rw[e];cases b with
    | true=>
     have hus:=hbs rfl;have hu1:u.kind=1:=by
      rcases huk.1 with h|h
      ·exact h
      ·have :=uK hus;rw[h]at this;simp[dJ]at this
     obtain⟨r,hr,hrb⟩:=ihk a3 (p++[u]) g3 (by simp;omega) (by clear hb;rw[gm];simp only[kbulk];omega) ⟨λt ht=>by
      rcases List.mem_append.1 ht with h|h
      ·exact hmk.1 t h
      ·rw[List.mem_singleton]at h;subst h;exact⟨hu1,hus⟩,λt ht=>by
      rcases List.mem_append.1 ht with h|h
      ·exact hmk.2 t h
      ·rw[List.mem_singleton]at h;subst h;exact huk.2 (by omega)⟩
     exact⟨true,r,hb',λ_=>⟨by simp;omega,by omega,hr⟩,λh=>(by cases h),hrb⟩
    |false=>
     obtain⟨r,hr,hrb⟩:=ihk a3 p g3 (by omega) hb3 hmk;exact⟨false,r,hb',λh=>(by cases h),λ_=>⟨by omega,hr⟩,hrb⟩
   by_cases hz:z=7
   ·have hub:tbulk (.node t.kind [65] t.leads t.kids)<=300001:=by have :=bm t;simp only[tbulk,aac,aae];omega
    obtain⟨b,r,e1,e2,e3,e4⟩:=step _ hub qk;exact⟨r,jW (k+1) _ _ _ _ _ ⟨λ_=>⟨x,hx,_,_,_,q1,_,_,_,g1,λ_=>⟨b,e1,e2,e3⟩,λh=>absurd hz h⟩,λh=>by omega⟩,e4⟩
   ·obtain⟨b,r,e1,e2,e3,e4⟩:=step t (by omega) qk;exact⟨r,jW (k+1) _ _ _ _ _ ⟨λ_=>⟨x,hx,_,_,_,q1,_,_,_,g1,λh=>absurd h hz,λ_=>⟨b,e1,e2,e3⟩⟩,λh=>by omega⟩,e4⟩
 obtain⟨r,hr,hrb,hrm⟩:=loop n.toNat a1 [] h3 (by simp;omega) (by simp only[kbulk];omega) ⟨λt h=>(by cases h),λt h=>(by cases h)⟩;exact⟨r,ws (n.toNat+1) _ _ ⟨_,_,sI 0 _ _ _ ⟨by omega,I,I⟩,_,_,_,h1,by rw[show n=((n.toNat:Nat):Int) by omega];exact hr⟩,by omega,hrm⟩
abbrev FE:=ak
def pe(a b:Int):Int:=if a<b then-1 else if b<a then 1 else 0
def eY:YI->YI->Int
 |[],[]=>0
 |[],_::_=>-1
 |_::_,[]=>1
 |a::r,b::s=>if pe a b≠0 then pe a b else eY r s
def kA(a b:FE):Int:=if pe a.At.Module b.At.Module≠0 then pe a.At.Module b.At.Module else if eY a.At.Path b.At.Path≠0 then eY a.At.Path b.At.Path else pe a.Kind b.Kind
theorem ifz{c d:Int}(h:c=0):(if c≠0 then c else d)=d:=if_neg (by simp[h])
theorem ifn{c d:Int}(h:c≠0):(if c≠0 then c else d)=c:=if_pos h
structure Tot {α:Type} (c:α->α->Int):Prop where
 eq:∀a b,c a b=0↔a=b
 an:∀a b,c a b<0↔0<c b a
 tr:∀a b d,c a b<0->c b d<0->c a d<0
theorem wJ:Tot pe:=⟨λa b=>by unfold pe;split<;>(try split)<;>omega,λa b=>by unfold pe;(repeat' split)<;>omega,λa b d=>by unfold pe;(repeat' split)<;>omega⟩
theorem GW:∀a b:YI,eY a b=0↔a=b
 |[],[]=>by simp[eY]
 |[],_::_=>by simp[eY]
 |_::_,[]=>by simp[eY]
 | a::r,b::s=>by
  simp only[eY,List.cons.injEq];have h1:=wJ.eq a b;have h2:=GW r s;split
  ·rename_i h;exact⟨λe=>absurd e h,λe=>absurd (h1.2 e.1) h⟩
  ·rename_i h;have h':pe a b=0:=Decidable.not_not.1 h;exact⟨λe=>⟨h1.1 h',h2.1 e⟩,λe=>h2.2 e.2⟩
theorem GU:∀a b:YI,eY a b<0↔0<eY b a
 |[],[]=>by simp[eY]
 |[],_::_=>by simp[eY]
 |_::_,[]=>by simp[eY]
 | a::r,b::s=>by
  have h1:=wJ.an a b;have h2:=wJ.eq a b;have h3:=wJ.eq b a;have h4:=GU r s;simp only[eY];by_cases h:a=b
  ·subst h;rw[ifz<|h2.2 rfl,ifz<|h2.2 rfl];exact h4
  ·rw[ifn λe=>h<|h2.1 e,ifn λe=>h (h3.1 e).symm];exact h1
theorem HV:∀a b d:YI,eY a b<0->eY b d<0->eY a d<0
 |[],[],d,h,_=>by simp[eY]at h
 |[],_::_,[],_,h=>by simp[eY]at h
 |[],_::_,_::_,_,_=>by simp[eY]
 |_::_,[],d,h,_=>by simp[eY]at h
 |_::_,_::_,[],_,h=>by simp[eY]at h
 | a::r,b::s,d::t,h,k=>by
  simp only[eY]at h k⊢;have h1:=wJ.eq a b;have h2:=wJ.eq b d;have h3:=wJ.eq a d;have h4:=wJ.tr a b d;by_cases e:a=b
  ·subst e;rw[ifz<|h1.2 rfl]at h;by_cases e2:a=d
   ·subst e2;rw[ifz<|h1.2 rfl]at k⊢;exact HV r s t h k
   ·rw[ifn λx=>e2<|h3.1 x]at k⊢;exact k
  ·rw[ifn λx=>e<|h1.1 x]at h;by_cases e2:b=d
   ·subst e2;rw[ifn λx=>e<|h1.1 x];exact h
   ·rw[ifn λx=>e2<|h2.1 x]at k;have :=h4 h k;rw[ifn (c:=pe a d)<|by omega];exact this
theorem Tf:Tot eY:=⟨GW,GU,HV⟩
theorem xQ:Tot kA:=by
 have z:=wJ;have l:=Tf;refine⟨λa b=>?_,λa b=>?_,λa b d=>?_⟩
 ·obtain⟨⟨m,p⟩,k⟩:=a;obtain⟨⟨m',p'⟩,k'⟩:=b;simp only[kA,ak.mk.injEq,mP.mk.injEq];have h1:=z.eq m m';have h2:=l.eq p p';have h3:=z.eq k k';by_cases e1:pe m m'=0
  ·rw[ifz e1];by_cases e2:eY p p'=0
   ·rw[ifz e2];exact⟨λe=>⟨⟨h1.1 e1,h2.1 e2⟩,h3.1 e⟩,λe=>h3.2 e.2⟩
   ·rw[ifn e2];exact⟨λe=>absurd e e2,λe=>absurd (h2.2 e.1.2) e2⟩
  ·rw[ifn e1];exact⟨λe=>absurd e e1,λe=>absurd (h1.2 e.1.1) e1⟩
 ·simp only[kA];have h1:=z.eq a.At.Module b.At.Module;have h1':=z.eq b.At.Module a.At.Module;have h2:=l.eq a.At.Path b.At.Path;have h2':=l.eq b.At.Path a.At.Path;have g1:=z.an a.At.Module b.At.Module;have g2:=l.an a.At.Path b.At.Path;have g3:=z.an a.Kind b.Kind;by_cases e1:a.At.Module=b.At.Module
  ·rw[ifz<|h1.2 e1,ifz<|h1'.2 e1.symm];by_cases e2:a.At.Path=b.At.Path
   ·rw[ifz<|h2.2 e2,ifz<|h2'.2 e2.symm];exact g3
   ·rw[ifn λe=>e2<|h2.1 e,ifn λe=>e2 (h2'.1 e).symm];exact g2
  ·rw[ifn λe=>e1<|h1.1 e,ifn λe=>e1 (h1'.1 e).symm];exact g1
 ·simp only[kA];have h1:=z.eq a.At.Module b.At.Module;have h2:=z.eq b.At.Module d.At.Module;have h3:=z.eq a.At.Module d.At.Module;have p1:=l.eq a.At.Path b.At.Path;have p2:=l.eq b.At.Path d.At.Path;have p3:=l.eq a.At.Path d.At.Path;have t1:=z.tr a.At.Module b.At.Module d.At.Module;have t2:=l.tr a.At.Path b.At.Path d.At.Path;have t3:=z.tr a.Kind b.Kind d.Kind;intro h k;by_cases e1:a.At.Module=b.At.Module
  ·rw [ifz<|h1.2 e1]at h;by_cases e2:b.At.Module=d.At.Module
   ·rw[ifz<|h2.2 e2]at k;rw[ifz<|h3.2 (e1.trans e2)];by_cases f1:a.At.Path=b.At.Path
    ·rw[ifz<|p1.2 f1]at h;by_cases f2:b.At.Path=d.At.Path
     ·rw[ifz<|p2.2 f2]at k;rw[ifz<|p3.2 (f1.trans f2)];exact t3 h k
     ·rw[ifn λe=>f2<|p2.1 e]at k;rw[f1,ifn λe=>f2<|p2.1 e];exact k
    ·rw[ifn λe=>f1<|p1.1 e]at h;by_cases f2:b.At.Path=d.At.Path
     ·rw[<-f2,ifn λe=>f1<|p1.1 e];exact h
     ·rw[ifn λe=>f2<|p2.1 e]at k;have :=t2 h k;rw[ifn (c:=eY a.At.Path d.At.Path)<|by omega];exact this
   ·rw[ifn λe=>e2<|h2.1 e]at k;rw[e1,ifn λe=>e2<|h2.1 e];exact k
  ·rw[ifn λe=>e1<|h1.1 e]at h;by_cases e2:b.At.Module=d.At.Module
   ·rw[<-e2,ifn λe=>e1<|h1.1 e];exact h
   ·rw[ifn λe=>e2<|h2.1 e]at k;have :=t1 h k;rw[ifn (c:=pe a.At.Module d.At.Module)<|by omega];exact this
def leE(a b:FE):Prop:=¬kA b a<0
theorem sm{a b:FE}(h:kA a b<0):leE a b:=λk=>by have :=(xQ.an a b).1 h;omega
theorem Fs(a:FE):leE a a:=λh=>by have :=(xQ.eq a a).2 rfl;omega
theorem mI{a b d:FE}(h:leE a b)(k:leE b d):leE a d:=by
 by_cases G:a=b
 ·rw[G];exact k
 by_cases J:b=d
 ·rw[<-J];exact h
 have h1:=xQ.an a b;have h2:=xQ.an b a;have h3:=xQ.an b d;have h4:=xQ.an d b;have O:=xQ.eq a b;have Z:=xQ.eq b d;unfold leE at h k;exact sm (xQ.tr a b d (by have :kA a b≠0:=λe=>G<|O.1 e;omega) (by have :kA b d≠0:=λe=>J<|Z.1 e;omega))
abbrev dE(l:List FE):Prop:=l.Pairwise leE
theorem Fp(a b:Int):lP a b (pe a b):=by
 have G:∀z,si z false:=λz=>Ec 0 _ _ (by simp);unfold pe;refine BV 0 _ _ _ (⟨_,G a,_,G b,λh=>(by cases h),λ_=>⟨λh=>(by cases h),λ_=>⟨λh=>?_,λh=>⟨λh'=>?_,λh'=>?_⟩⟩⟩⟩)
 ·rw[if_pos h]
 ·rw[if_neg h,if_pos h']
 ·rw[if_neg h,if_neg h']
theorem tq{α:Type}(l:List α)(i:Nat):(∃x r,l.drop i=x::r∧l[i]?=some x∧l.drop (i+1)=r∧i<l.length)∨(l.drop i=[]∧l.length<=i):=by
 by_cases h:i<l.length
 ·exact .inl ⟨l[i],l.drop<|i+1,aam h,List.getElem?_eq_getElem h,I,h⟩
 ·exact .inr ⟨List.drop_of_length_le (by omega),by omega⟩
theorem Rn(p q:YI)(hp:p.length<=1000000000):pi p q (eY p q):=by
 have loop:∀k i,p.length-i<=k->i<=p.length->kv (k+1) p q i (eY (p.drop i)<|q.drop i):=λk=>by
  induction k with
  | zero=>
   intro i hi hip;have e:p.drop i=[]:=List.drop_of_length_le (by omega);rw[e];refine mW 0 _ _ _ _ (⟨λh=>absurd h (by omega),λ_=>⟨λh=>?_,λh=>?_⟩⟩)
   ·rcases tq q i with⟨x,r,e1,_⟩|⟨e1,e2⟩
    ·rw[e1];rfl
    ·omega
   ·rcases tq q i with⟨x,r,e1,_,_,e2⟩|⟨e1,e2⟩
    ·omega
    ·rw[e1];rfl
  | succ k ih=>
   intro i hi hip;rcases tq p i with⟨x,r,e1,e2,e3,e4⟩|⟨e1,e2⟩
   ·refine mW (k+1) _ _ _ _ (⟨λh=>⟨x,e2,λh'=>?_,λh'=>?_⟩,λh=>absurd e4 h⟩)
    ·have :q.drop i=[]:=List.drop_of_length_le h';rw[e1,this];rfl
    ·rcases tq q i with⟨y,s,g1,g2,g3,g4⟩|⟨g1,g2⟩
     ·refine⟨y,g2,_,Fp x y,λhz=>?_,λhz=>⟨by omega,?_⟩⟩
      ·rw[e1,g1,eY,ifn hz]
      ·rw[e1,g1,eY,ifz hz,<-e3,<-g3];exact ih (i+1) (by omega) (by omega)
     ·omega
   ·rw[e1];refine mW (k+1) _ _ _ _ (⟨λh=>absurd h (by omega),λ_=>⟨λh=>?_,λh=>?_⟩⟩)
    ·rcases tq q i with⟨y,s,g1,_⟩|⟨g1,g2⟩
     ·rw[g1];rfl
     ·omega
    ·rcases tq q i with⟨y,s,g1,_,_,g4⟩|⟨g1,g2⟩
     ·omega
     ·rw[g1];rfl
 have :=loop p.length 0 (by omega) (by omega);exact zF (p.length+1) _ _ _ (by simpa using this)
abbrev PbE(a:FE):Prop:=a.At.Path.length<=1000000000
theorem yG{a b:FE}(h:PbE a):fx a b (kA a b):=by
 unfold kA;refine yE 0 _ _ _<|⟨_,Fp _ _,λh1=>?_,λh1=>⟨_,Rn _ _ h,λh2=>?_,λh2=>⟨_,Fp _ _,?_⟩⟩⟩
 ·rw[ifn h1]
 ·rw[ifz h1,ifn h2]
 ·rw[ifz h1,ifz h2]
theorem gO{α:Type}{pre post:List α}{x:α}(h:pre.length=n):(pre++x::post)[n]?=some x:=by
 subst h;rw[List.getElem?_append_right<|aaf _];simp
theorem pz{α:Type}{pre post:List α}{x y:α}(h:pre.length=n):(pre++x::post).set n y=pre++y::post:=by
 subst h;rw[List.set_append_right _ _<|aaf _];simp
theorem GL:∀(X Y pre mid post:List FE) (i:Nat) (p1 p2 p3:Int),X.length=Y.length->p1+(i:Int)=(pre.length:Nat)->p2+(i:Int)=(pre.length+X.length+mid.length:Nat)->p3=((i+X.length:Nat):Int)->pre.length+X.length+X.length+mid.length+Y.length+i<=1000000000->
  L0_slices_swapRangeCmpFunc (X.length+1) p1 p2 p3 (pre++X++mid++Y++post) i (pre++Y++mid++X++post)
 |[],[],pre,mid,post,i,p1,p2,p3,_,h1,h2,h3,_=>lg 0 _ _ _ _ _ _ (⟨λh=>absurd h (by simp at h3;omega),λ_=>by simp⟩)
 |[],_::_,_,_,_,_,_,_,_,h,_,_,_,_=>by simp at h
 |_::_,[],_,_,_,_,_,_,_,h,_,_,_,_=>by simp at h
 | x::X,y::Y,pre,mid,post,i,p1,p2,p3,hl,h1,h2,h3,hb=>by
  simp only[aac]at hl h2 h3 hb;have ih:=GL X Y (pre++[y]) (mid++[x]) post (i+1) p1 p2 p3 (by omega) (by simp;omega) (by simp;omega) (by omega) (by simp;omega);have e0:pre++(x::X)++mid++(y::Y)++post=(pre++x::X++mid)++y::(Y++post):=by simp
  have e1:pre++(x::X)++mid++(y::Y)++post=pre++x::(X++mid++y::Y++post):=by simp
  have s1:(pre++(x::X)++mid++(y::Y)++post).set pre.length y=(pre++y::X++mid)++y::(Y++post):=by rw[e1,pz rfl];simp
  have s2:((pre++(x::X)++mid++(y::Y)++post).set pre.length y).set (pre.length+(X.length+1)+mid.length) x=pre++[y]++X++(mid++[x])++Y++post:=by rw[s1,pz (by simp;omega)];simp
  have g1:(pre++(x::X)++mid++(y::Y)++post)[pre.length+(X.length+1)+mid.length]?=some y:=by rw[e0];exact gO (by simp;omega)
  have g2:(pre++(x::X)++mid++(y::Y)++post)[pre.length]?=some x:=by rw[e1];exact gO rfl
  have g3:((pre++(x::X)++mid++(y::Y)++post).set pre.length y)[pre.length+(X.length+1)+mid.length]?=some y:=by rw[s1];exact gO (by simp;omega)
  refine lg (X.length+1) _ _ _ _ _ _ (⟨λ_=>⟨⟨by omega,by omega⟩,⟨by omega,by omega⟩,⟨by omega,by omega⟩,pre.length+(X.length+1)+mid.length,by omega,y,g1,⟨by omega,by omega⟩,pre.length,h1,x,g2,pre.length,h1,x,g2,pre.length+(X.length+1)+mid.length,by omega,y,g3,by omega,?_⟩,λh=>absurd (by omega) h⟩);rw[s2];simpa using ih
theorem Eh(pre X mid Y post:List FE)(G:X.length=Y.length)(hb:pre.length+X.length+mid.length+Y.length<=400000000){p1 p2 p3:Int}(h1:p1=(pre.length:Nat))(h2:p2=(pre.length+X.length+mid.length:Nat))(J:p3=(X.length:Nat)):dn (pre++X++mid++Y++post) p1 p2 p3 (pre++Y++mid++X++post):=
 rS_slices_swapRangeCmpFunc (X.length+1) _ _ _ _ _ (GL X Y pre mid post 0 p1 p2 p3 G (by omega) (by omega) (by omega)<|by omega)
theorem FW:∀(n:Nat) (X Y pre post:List FE) (p2:Int),X.length+Y.length<=n->0<X.length->0<Y.length->p2=(pre.length+X.length:Nat)->pre.length+X.length+Y.length<=400000000->
  ∃M,dN M p2 (pre++X++Y++post) (X.length:Nat) (Y.length:Nat)<|pre++Y++X++post
 |0,X,Y,pre,post,p2,hn,hx,hy,_,_=>by omega
 | n+1,X,Y,pre,post,p2,hn,hx,hy,h2,hb=>by
  rcases Nat.lt_trichotomy X.length Y.length with h|h|h
  ·obtain⟨Y1,Y2,rfl,hl1,hl2⟩:∃Y1 Y2,Y=Y1++Y2∧Y1.length=Y.length-X.length∧Y2.length=X.length:=⟨Y.take<|Y.length-X.length,Y.drop<|Y.length-X.length,by simp,by simp,by simp;omega⟩;simp only[aab]at hl1 h hn hb hy;obtain⟨M,hM⟩:=FW n Y2 Y1 pre (X++post) p2 (by omega) (by omega) (by omega) (by omega) (by omega);have hs:=Eh pre X Y1 Y2 post (by omega) (by omega) (p1:=p2-(X.length:Nat)) (p2:=p2+((Y1.length+Y2.length:Nat):Int)-(X.length:Nat)) (p3:=(X.length:Nat)) (by omega) (by omega) rfl;refine⟨M+1,iK M _ _ _ _ _<|⟨λ_=>⟨λh'=>absurd h' (by simp;omega),λ_=>⟨⟨by omega,by omega⟩,⟨by simp;omega,by simp;omega⟩,⟨by simp;omega,by simp;omega⟩,_,by simpa using hs,⟨by simp;omega,by simp;omega⟩,?_⟩⟩,λh'=>absurd h' (by simp;omega)⟩⟩;have e:((Y1++Y2).length:Int)-(X.length:Nat)=(Y1.length:Nat):=by simp;omega
   rw[e,show((X.length:Nat):Int)=(Y2.length:Nat) by omega];simpa using hM
  ·have hs:=Eh pre X [] Y post h (by simp;omega) (p1:=p2-(X.length:Nat)) (p2:=p2) (p3:=(X.length:Nat)) (by omega) (by simp;omega) rfl;exact⟨1,iK 0 _ _ _ _ _<|⟨λh'=>absurd (by omega) h',λ_=>⟨⟨by omega,by omega⟩,_,by simpa using hs,I⟩⟩⟩
  ·obtain⟨X1,X2,rfl,hl1,hl2⟩:∃X1 X2,X=X1++X2∧X1.length=Y.length∧X2.length=X.length-Y.length:=⟨X.take Y.length,X.drop Y.length,by simp,by simp;omega,by simp⟩;simp only[aab]at hl2 h hn hb hx h2;obtain⟨M,hM⟩:=FW n X2 X1 (pre++Y) post p2 (by omega) (by omega) (by omega) (by simp;omega) (by simp;omega);have hs:=Eh pre X1 X2 Y post hl1 (by omega) (p1:=p2-((X1.length+X2.length:Nat):Int)) (p2:=p2) (p3:=(Y.length:Nat)) (by omega) (by omega) (by omega);refine⟨M+1,iK M _ _ _ _ _<|⟨λ_=>⟨λ_=>⟨⟨by simp;omega,by simp;omega⟩,_,by simpa using hs,⟨by simp;omega,by simp;omega⟩,?_⟩,λh'=>absurd (by simp;omega) h'⟩,λh'=>absurd h' (by simp;omega)⟩⟩;have e:((X1++X2).length:Int)-(Y.length:Nat)=(X2.length:Nat):=by simp;omega
   rw[e,show((Y.length:Nat):Int)=(X1.length:Nat) by omega];simpa using hM
theorem Ss(pre X Y post:List FE)(hx:0<X.length)(hy:0<Y.length)(hb:pre.length+X.length+Y.length<=400000000){p1 p2 p3:Int}(h1:p1=(pre.length:Nat))(h2:p2=(pre.length+X.length:Nat))(J:p3=(pre.length+X.length+Y.length:Nat)):jX (pre++X++Y++post) p1 p2 p3 (pre++Y++X++post):=by obtain⟨M,G⟩:=FW (X.length+Y.length) X Y pre post p2 (aaf _) hx hy h2 hb;refine un M _ _ _ _ _ (⟨⟨by omega,by omega⟩,⟨by omega,by omega⟩,?_⟩);rw[show p2-p1=(X.length:Nat) by omega,show p3-p2=(Y.length:Nat) by omega];exact G
variable{b:List FE}
theorem zc{a:List FE}(G:dE a)(hb:dE b)(h:∀x∈a,∀y∈b,leE x y):dE (a++b):=List.pairwise_append.2 ⟨G,hb,h⟩
theorem jQ{a:List FE}(h:dE<|a++b):dE a:=(List.pairwise_append.1 h).1
theorem jx{a:List FE}(h:dE<|a++b):dE b:=(List.pairwise_append.1 h).2.1
theorem pT{a:List FE}(h:dE<|a++b):∀x∈a,∀y∈b,leE x y:=(List.pairwise_append.1 h).2.2
theorem Ln{pre post:List FE}{a b i:Int}(ha:a=(pre.length:Nat))(hi:InI<|i+1):∀(n:Nat) (P Q:List FE) (x:FE),P.length=n->PbE x->dE (P++Q)->(∀q∈Q,leE x q)->pre.length+n+Q.length+1<=1000000000->
  ∃S:List FE,S.Perm (P++x::Q)∧dE S∧∀M r,bW M a b (i+1) (pre++S++post) r->∃M',dr M' a b (pre++(P++x::Q)++post) ((pre.length+n:Nat):Int) i r
 |0,P,Q,x,hl,hx,hs,hq,hb=>by
  have :P=[]:=List.eq_nil_of_length_eq_zero hl;subst this;exact⟨x::Q,List.Perm.refl _,List.pairwise_cons.2 ⟨hq,hs⟩,λM r h=>⟨M+1,eZ M _ _ _ _ _ _<|⟨λh'=>absurd h' (by omega),λ_=>⟨hi,h⟩⟩⟩⟩
 | n+1,P,Q,x,hl,hx,hs,hq,hb=>by
  obtain⟨P',p,rfl⟩:∃P' p,P=P'++[p]:=⟨P.dropLast,P.getLast (λh=>by subst h;simp at hl),(List.dropLast_concat_getLast _).symm⟩;simp only[aab,aac,aae]at hl;have hl':P'.length=n:=by omega
  have g1:(pre++(P'++[p]++x::Q)++post)[pre.length+(n+1)]?=some x:=by rw[show pre++(P'++[p]++x::Q)++post=(pre++P'++[p])++x::(Q++post) by simp];exact gO (by simp;omega)
  have e2:pre++(P'++[p]++x::Q)++post=(pre++P')++p::(x::Q++post):=by simp
  have g2:(pre++(P'++[p]++x::Q)++post)[pre.length+n]?=some p:=by rw[e2];exact gO (by simp;omega)
  have i1:InI (((pre.length+(n+1):Nat):Int)-1):=⟨by omega,by omega⟩;by_cases hc:kA x p<0
  ·have s1:(pre++(P'++[p]++x::Q)++post).set (pre.length+(n+1)) p=(pre++P')++p::(p::Q++post):=by
    rw[show pre++(P'++[p]++x::Q)++post=(pre++P'++[p])++x::(Q++post) by simp,pz (by simp;omega)];simp
   have s2:((pre++(P'++[p]++x::Q)++post).set (pre.length+(n+1)) p).set (pre.length+n) x=pre++(P'++x::(p::Q))++post:=by rw[s1,pz (by simp;omega)];simp
   have g3:((pre++(P'++[p]++x::Q)++post).set (pre.length+(n+1)) p)[pre.length+n]?=some p:=by rw[s1];exact gO (by simp;omega)
   obtain⟨S,h1,h2,h3⟩:=Ln (pre:=pre) (post:=post) (b:=b) ha hi n P' (p::Q) x hl' hx (by simpa using hs) (λq hq'=>by
    rcases List.mem_cons.1 hq' with rfl|h
    ·exact sm hc
    ·exact hq q h) (by simp;omega)
   refine⟨S,h1.trans ?_,h2,λM r h=>?_⟩
   ·rw[aaq];exact List.Perm.append_left _<|List.Perm.swap _ _ _
   ·obtain⟨M',hM⟩:=h3 M r h;refine⟨M'+1,eZ M' _ _ _ _ _ _<|⟨λ_=>⟨_,I,x,g1,i1,pre.length+n,by omega,p,g2,_,yG hx,λ_=>⟨i1,i1,pre.length+n,by omega,p,g2,_,I,x,g1,_,I,x,g1,pre.length+n,by omega,p,g3,i1,?_⟩,λh=>absurd hc h⟩,λh=>absurd (by omega) h⟩⟩;rw[s2,show((pre.length+(n+1):Nat):Int)-1=((pre.length+n:Nat):Int) by omega];exact hM
  ·refine⟨P'++[p]++x::Q,List.Perm.refl _,?_,λM r h=>⟨M+1,eZ M _ _ _ _ _ _<|⟨λ_=>⟨_,I,x,g1,i1,pre.length+n,by omega,p,g2,_,yG hx,λh=>absurd h hc,λ_=>⟨hi,h⟩⟩,λh=>absurd (by omega) h⟩⟩⟩;refine zc (jQ hs) (List.pairwise_cons.2 ⟨hq,jx hs⟩) λu hu v hv=>?_;have hup:leE u p:=by
    rcases List.mem_append.1 hu with h|h
    ·exact pT (jQ hs) u h p (by simp)
    ·simp only[List.mem_singleton]at h;rw[h];exact Fs p
   rcases List.mem_cons.1 hv with rfl|h
   ·exact mI hup hc
   ·exact pT hs u hu v h
theorem KU{pre post:List FE}{a b:Int}(ha:a=(pre.length:Nat)):∀(R P:List FE),dE P->(∀x∈R,PbE x)->b=(pre.length+P.length+R.length:Nat)->pre.length+P.length+R.length+1<=1000000000->
  ∃S:List FE,S.Perm (P++R)∧dE S∧∃M,bW M a b ((pre.length+P.length:Nat):Int) (pre++P++R++post)<|pre++S++post
 |[],P,hP,_,hb,hl=>⟨P,by simp,hP,1,fb 0 _ _ _ _ _<|⟨λh=>absurd h (by simp at hb;omega),λ_=>by simp⟩⟩
 | x::R,P,hP,hR,hb,hl=>by
  simp only[aac]at hb hl;obtain⟨S1,h1,h2,h3⟩:=Ln (pre:=pre) (post:=R++post) (a:=a) (b:=b) (i:=((pre.length+P.length:Nat):Int)) ha ⟨by omega,by omega⟩ P.length P [] x rfl (hR x (by simp)) (by simpa using hP) (λq hq=>by simp at hq) (by simp;omega);have hl1:=h1.length_eq;simp only[aab,aac,aae]at hl1;obtain⟨S,g1,g2,M,hM⟩:=KU (post:=post) ha R S1 h2 (λy hy=>hR y (by simp[hy])) (b:=b) (by omega) (by omega);obtain⟨M',hM'⟩:=h3 M (pre++S++post) (by
   rw[show((pre.length+P.length:Nat):Int)+1=((pre.length+S1.length:Nat):Int) by omega];simpa using hM)
  refine⟨S,g1.trans ?_,g2,M'+1,fb M' _ _ _ _ _<|⟨λ_=>by simpa using hM',λh=>absurd (by omega) h⟩⟩;have :=h1.append_right R;simpa using this
theorem JJ(pre X post:List FE)(J:∀x∈X,PbE x)(G:pre.length+X.length+1<=1000000000){b:Int}(O:a=(pre.length:Nat))(hb:b=(pre.length+X.length:Nat)):∃S:List FE,S.Perm X∧dE S∧dw (pre++X++post) a b (pre++S++post):=by
 cases X with
 |nil=>
  simp only[aae]at hb G;exact⟨[],List.Perm.refl _,List.Pairwise.nil,jw 1 _ _ _ _<|⟨⟨by omega,by omega⟩,fb 0 _ _ _ _ _<|⟨λh=>absurd h (by omega),λ_=>I⟩⟩⟩
 |cons x R=>
  simp only[aac]at hb G;obtain⟨S,h1,h2,M,Z⟩:=KU (pre:=pre) (post:=post) (a:=a) (b:=b) O R [x] (List.pairwise_singleton _ _) (λy hy=>J y<|by simp[hy]) (by simp;omega) (by simp;omega);refine⟨S,h1,h2,jw M _ _ _ _<|⟨⟨by omega,by omega⟩,?_⟩⟩;rw[show a+1=((pre.length+[x].length:Nat):Int) by simp;omega];simpa using Z
theorem tp{A:List FE}(h:dE A){j:Nat}{u v:FE}(J:A[i]?=some u)(hv:A[j]?=some v)(O:i<=j):leE u v:=by
 obtain⟨h1,rfl⟩:=List.getElem?_eq_some_iff.1 J;obtain⟨h2,rfl⟩:=List.getElem?_eq_some_iff.1 hv;rcases Nat.lt_or_ge i j with G|G
 ·exact List.pairwise_iff_getElem.1 h i j h1 h2 G
 ·have :i=j:=by omega
  subst this;exact Fs _
theorem vX{A:List FE}{u:FE}(h:u∈A):∃i:Nat,i<A.length∧A[i]?=some u:=by obtain⟨i,hi,rfl⟩:=aat h;exact⟨i,hi,List.getElem?_eq_getElem hi⟩
theorem xO{pre A post:List FE}{t:Nat}{u:FE}(h:A[t]?=some u):(pre++(A++post))[pre.length+t]?=some u:=by have ht:=(List.getElem?_eq_some_iff.1 h).1;rw[List.getElem?_append_right (by omega),show pre.length+t-pre.length=t by omega,List.getElem?_append_left ht,h]
theorem EJ{l B:List FE}{x:FE}{a z:Nat}(hx:l[a]?=some x)(hB:∀t u,B[t]?=some u->l[z+t]?=some u)(hp:∀u∈B,PbE u)(hz:z+B.length<=400000000):∀(k i j:Nat),j-i<=k->i<=j->j<=B.length->(∀u,0<i->B[i-1]?=some u->leE u x)->(∀u,B[j]?=some u->leE x u)->
  ∃s,s<=B.length∧(∀u,0<s->B[s-1]?=some u->leE u x)∧(∀u,B[s]?=some u->leE x u)∧∀M r,dp M l (a:Nat) ((z+s:Nat):Int) r->∃M',bK M' l (a:Nat) ((z+i:Nat):Int) ((z+j:Nat):Int) r
 |0,i,j,hk,hij,hj,h1,h2=>by
  have :i=j:=by omega
  subst this;exact⟨i,hj,h1,h2,λM r h=>⟨M+1,gX M _ _ _ _ _<|⟨λh'=>absurd h' (by omega),λ_=>h⟩⟩⟩
 | k +1,i,j,hk,hij,hj,h1,h2=>by
  by_cases e:i=j
  ·subst e;exact⟨i,hj,h1,h2,λM r h=>⟨M+1,gX M _ _ _ _ _<|⟨λh'=>absurd h' (by omega),λ_=>h⟩⟩⟩
  ·have hq:(z+i+(z+j))/2=z+(i+j)/2:=by omega
   have hlt:(i+j)/2<B.length:=by omega
   obtain⟨u,hu⟩:∃u,B[(i+j)/2]?=some u:=⟨_,List.getElem?_eq_getElem hlt⟩;have hlu:=hB _ u hu;have hpu:=hp u<|List.mem_of_getElem? hu;have step:∀{M r},(kA u x<0->bK M l (a:Nat) ((z+((i+j)/2+1):Nat):Int) ((z+j:Nat):Int) r)->(¬kA u x<0->bK M l (a:Nat) ((z+i:Nat):Int) ((z+(i+j)/2:Nat):Int) r)->bK (M+1) l (a:Nat) ((z+i:Nat):Int) ((z+j:Nat):Int) r:=λ{M r} q1 q2=>by
    refine gX M _ _ _ _ _ (⟨λ_=>⟨⟨by omega,by omega⟩,z+i+(z+j),by omega,by omega,by omega,u,by rw[hq];exact hlu,a,I,x,hx,_,yG hpu,λh=>⟨by omega,?_⟩,λh=>?_⟩,λh=>absurd (by omega) h⟩)
    ·rw[hq];exact q1 h
    ·rw[hq];exact q2 h
   by_cases hc:kA u x<0
   ·obtain⟨s,g1,g2,g3,g4⟩:=EJ hx hB hp hz k ((i+j)/2+1) j (by omega) (by omega) hj (λv _ hv=>by
     rw[Nat.add_sub_cancel,hu]at hv;cases hv;exact sm hc) h2
    refine⟨s,g1,g2,g3,λM r h=>?_⟩;obtain⟨M',hM⟩:=g4 M r h;exact⟨M'+1,step (λ_=>hM) λh=>absurd hc h⟩
   ·obtain⟨s,g1,g2,g3,g4⟩:=EJ hx hB hp hz k i ((i+j)/2) (by omega) (by omega) (by omega) h1 (λv hv=>by
     rw[hu]at hv;cases hv;exact hc)
    refine⟨s,g1,g2,g3,λM r h=>?_⟩;obtain⟨M',hM⟩:=g4 M r h;exact⟨M'+1,step (λh=>absurd h hc) λ_=>hM⟩
theorem Fc{l A:List FE}{x:FE}{a z:Nat}(hx:l[z]?=some x)(hA:∀t u,A[t]?=some u->l[a+t]?=some u)(hp:PbE x)(hz:a+A.length<=400000000):∀(k i j:Nat),j-i<=k->i<=j->j<=A.length->(∀u,0<i->A[i-1]?=some u->leE u x)->(∀u,A[j]?=some u->leE x u)->
  ∃s,s<=A.length∧(∀u,0<s->A[s-1]?=some u->leE u x)∧(∀u,A[s]?=some u->leE x u)∧∀M r,dt M l (z:Nat) ((a+s:Nat):Int) r->∃M',bJ M' l (z:Nat) ((a+i:Nat):Int) ((a+j:Nat):Int) r
 |0,i,j,hk,hij,hj,h1,h2=>by
  have :i=j:=by omega
  subst this;exact⟨i,hj,h1,h2,λM r h=>⟨M+1,gW M _ _ _ _ _<|⟨λh'=>absurd h' (by omega),λ_=>h⟩⟩⟩
 | k +1,i,j,hk,hij,hj,h1,h2=>by
  by_cases e:i=j
  ·subst e;exact⟨i,hj,h1,h2,λM r h=>⟨M+1,gW M _ _ _ _ _<|⟨λh'=>absurd h' (by omega),λ_=>h⟩⟩⟩
  ·have hq:(a+i+(a+j))/2=a+(i+j)/2:=by omega
   have hlt:(i+j)/2<A.length:=by omega
   obtain⟨u,hu⟩:∃u,A[(i+j)/2]?=some u:=⟨_,List.getElem?_eq_getElem hlt⟩;have hlu:=hA _ u hu;have step:∀{M r},(¬kA x u<0->bJ M l (z:Nat) ((a+((i+j)/2+1):Nat):Int) ((a+j:Nat):Int) r)->(kA x u<0->bJ M l (z:Nat) ((a+i:Nat):Int) ((a+(i+j)/2:Nat):Int) r)->bJ (M+1) l (z:Nat) ((a+i:Nat):Int) ((a+j:Nat):Int) r:=λ{M r} q1 q2=>by
    refine gW M _ _ _ _ _ (⟨λ_=>⟨⟨by omega,by omega⟩,a+i+(a+j),by omega,by omega,by omega,z,I,x,hx,u,by rw[hq];exact hlu,_,yG hp,λh=>⟨by omega,?_⟩,λh=>?_⟩,λh=>absurd (by omega) h⟩)
    ·rw[hq];exact q1 h
    ·rw[hq];exact q2 h
   by_cases hc:kA x u<0
   ·obtain⟨s,g1,g2,g3,g4⟩:=Fc hx hA hp hz k i ((i+j)/2) (by omega) (by omega) (by omega) h1 (λv hv=>by
     rw[hu]at hv;cases hv;exact sm hc)
    refine⟨s,g1,g2,g3,λM r h=>?_⟩;obtain⟨M',hM⟩:=g4 M r h;exact⟨M'+1,step (λh=>absurd hc h) λ_=>hM⟩
   ·obtain⟨s,g1,g2,g3,g4⟩:=Fc hx hA hp hz k ((i+j)/2+1) j (by omega) (by omega) hj (λv _ hv=>by
     rw[Nat.add_sub_cancel,hu]at hv;cases hv;exact hc) h2
    refine⟨s,g1,g2,g3,λM r h=>?_⟩;obtain⟨M',hM⟩:=g4 M r h;exact⟨M'+1,step (λ_=>hM) λh=>absurd h hc⟩
theorem FG{l:List FE}{p1 p3:Int}{a m k0 lo hi0:Nat}(hp:∀u∈l,PbE u)(hl:l.length<=400000000)(hhi:hi0<=m)(hq:∀c,lo<=c->c<hi0->c<l.length∧c+1<=k0/2+m∧k0/2+m-1-c<l.length):∀(k i j:Nat),j-i<=k->i<=j->lo<=i->j<=hi0->(∀u v,lo<i->l[i-1]?=some u->l[k0/2+m-i]?=some v->leE u v)->(∀u v,j<hi0->l[j]?=some u->l[k0/2+m-1-j]?=some v->leE v u)->
  ∃s,lo<=s∧s<=hi0∧i<=s∧s<=j∧(∀u v,lo<s->l[s-1]?=some u->l[k0/2+m-s]?=some v->leE u v)∧(∀u v,s<hi0->l[s]?=some u->l[k0/2+m-1-s]?=some v->leE v u)∧∀M r,ba M l p1 (m:Nat) p3 k0 (s:Nat) (s:Nat) r->∃M',ba M' l p1 (m:Nat) p3 k0 (i:Nat) (j:Nat) r
 |0,i,j,hk,hij,hi,hj,h1,h2=>by
  have :i=j:=by omega
  subst this;exact⟨i,hi,hj,aaf _,aaf _,h1,h2,λM r h=>⟨M,h⟩⟩
 | k +1,i,j,hk,hij,hi,hj,h1,h2=>by
  by_cases e:i=j
  ·subst e;exact⟨i,hi,hj,aaf _,aaf _,h1,h2,λM r h=>⟨M,h⟩⟩
  ·obtain⟨q1,q2,q3⟩:=hq ((i+j)/2) (by omega) (by omega);obtain⟨u,hu⟩:∃u,l[(i+j)/2]?=some u:=⟨_,List.getElem?_eq_getElem q1⟩;obtain⟨v,hv⟩:∃v,l[k0/2+m-1-(i+j)/2]?=some v:=⟨_,List.getElem?_eq_getElem q3⟩;have hpv:=hp v<|List.mem_of_getElem? hv;have step:∀{M r},(¬kA v u<0->ba M l p1 (m:Nat) p3 k0 (((i+j)/2+1:Nat):Int) (j:Nat) r)->(kA v u<0->ba M l p1 (m:Nat) p3 k0 (i:Nat) (((i+j)/2:Nat):Int) r)->ba (M+1) l p1 (m:Nat) p3 k0 (i:Nat) (j:Nat) r:=λ{M r} w1 w2=>
    rL2_slices_symMergeCmpFunc M _ _ _ _ _ _ _ _ (⟨λ_=>⟨⟨by omega,by omega⟩,i+j,by omega,by omega,by omega,⟨by omega,by omega⟩,k0/2+m-1-(i+j)/2,by omega,v,hv,u,hu,_,yG hpv,λh=>⟨by omega,w1 h⟩,λh=>w2 h⟩,λh=>absurd (by omega) h⟩)
   by_cases hc:kA v u<0
   ·obtain⟨s,g0,g0',gi,gj,g1,g2,g3⟩:=FG (p1:=p1) (p3:=p3) (a:=a) hp hl hhi hq k i ((i+j)/2) (by omega) (by omega) hi (by omega) h1 (λu' v' _ hu' hv'=>by
     rw[hu]at hu';rw[hv]at hv';cases hu';cases hv';exact sm hc)
    refine⟨s,g0,g0',gi,by omega,g1,g2,λM r h=>?_⟩;obtain⟨M',hM⟩:=g3 M r h;exact⟨M'+1,step (λh=>absurd hc h) λ_=>hM⟩
   ·obtain⟨s,g0,g0',gi,gj,g1,g2,g3⟩:=FG (p1:=p1) (p3:=p3) (a:=a) hp hl hhi hq k ((i+j)/2+1) j (by omega) (by omega) (by omega) hj (λu' v' _ hu' hv'=>by
     rw[Nat.add_sub_cancel,hu]at hu';rw[show k0/2+m-((i+j)/2+1)=k0/2+m-1-(i+j)/2 by omega,hv]at hv';cases hu';cases hv';exact hc) h2
    refine⟨s,g0,g0',by omega,gj,g1,g2,λM r h=>?_⟩;obtain⟨M',hM⟩:=g3 M r h;exact⟨M'+1,step (λ_=>hM) λh=>absurd h hc⟩
theorem Mc{post:List FE}:∀(B1 B2 pre:List FE) (x:FE) (z e:Int),z=(pre.length:Nat)->e=(pre.length+1+B1.length:Nat)->pre.length+B1.length+B2.length+1<=400000000->dp (B1.length+1) (pre++x::(B1++B2)++post) z e (pre++(B1++x::B2)++post)
 |[],B2,pre,x,z,e,G,J,hb=>by simp only[aae]at J;exact lT 0 _ _ _ _ (⟨⟨by omega,by omega⟩,λh=>absurd h (by omega),λ_=>by simp⟩)
 |y::B1,B2,pre,x,z,e,G,J,hb=>by
  simp only[aac]at J hb;have ih:=Mc (post:=post) B1 B2 (pre++[y]) x (z+1) e (by simp;omega) (by simp;omega) (by simp;omega);have e0:pre++x::(y::B1++B2)++post=(pre++[x])++y::(B1++B2++post):=by simp
  have Z:pre++x::(y::B1++B2)++post=pre++x::(y::B1++B2++post):=by simp
  have g1:(pre++x::(y::B1++B2)++post)[pre.length+1]?=some y:=by rw[e0];exact gO (by simp)
  have g2:(pre++x::(y::B1++B2)++post)[pre.length]?=some x:=by rw[Z];exact gO rfl
  have s1:(pre++x::(y::B1++B2)++post).set pre.length y=(pre++[y])++y::(B1++B2++post):=by rw[Z,pz rfl];simp
  have g3:((pre++x::(y::B1++B2)++post).set pre.length y)[pre.length+1]?=some y:=by rw[s1];exact gO (by simp)
  have s2:((pre++x::(y::B1++B2)++post).set pre.length y).set (pre.length+1) x=pre++[y]++x::(B1++B2)++post:=by rw[s1,pz<|by simp];simp
  have O:InI (z+1):=⟨by omega,by omega⟩;refine lT (B1.length+1) _ _ _ _ (⟨⟨by omega,by omega⟩,λ_=>⟨O,O,pre.length+1,by omega,y,g1,pre.length,G,x,g2,pre.length,G,x,g2,pre.length+1,by omega,y,g3,O,?_⟩,λh=>absurd (by omega) h⟩);rw[s2];simpa using ih
theorem Ma{post pre:List FE}:∀(n:Nat) (A1 A2 B:List FE) (x:FE) (z e:Int),A2.length=n->z=(pre.length+A1.length+n:Nat)->e=(pre.length+A1.length:Nat)->pre.length+A1.length+A2.length+1<=400000000->dt (n+1) (pre++(A1++A2++x::B)++post) z e (pre++(A1++x::(A2++B))++post)
 |0,A1,A2,B,x,z,e,J,O,he,hb=>by have :A2=[]:=List.eq_nil_of_length_eq_zero J;subst this;exact lN 0 _ _ _ _ (⟨λh=>absurd h (by omega),λ_=>by simp⟩)
 |n+1,A1,A2,B,x,z,e,J,O,he,hb=>by
  obtain⟨A',p,rfl⟩:∃A' p,A2=A'++[p]:=⟨A2.dropLast,A2.getLast (λh=>by subst h;simp at J),(List.dropLast_concat_getLast _).symm⟩;simp only[aab,aac,aae]at J hb;have ih:=Ma (post:=post) (pre:=pre) n A1 A' (p::B) x (z-1) e (by omega) (by omega) he (by omega);have e0:pre++(A1++(A'++[p])++x::B)++post=(pre++A1++A'++[p])++x::(B++post):=by simp
  have e1:pre++(A1++(A'++[p])++x::B)++post=(pre++A1++A')++p::(x::B++post):=by simp
  have Z:(pre++A1++A').length=pre.length+A1.length+n:=by simp;omega
  have G:(pre++A1++A'++[p]).length=pre.length+A1.length+(n+1):=by simp;omega
  have g1:(pre++(A1++(A'++[p])++x::B)++post)[pre.length+A1.length+(n+1)]?=some x:=by rw[e0];exact gO G
  have g2:(pre++(A1++(A'++[p])++x::B)++post)[pre.length+A1.length+n]?=some p:=by rw[e1];exact gO Z
  have s1:(pre++(A1++(A'++[p])++x::B)++post).set (pre.length+A1.length+(n+1)) p=(pre++A1++A')++p::(p::B++post):=by rw[e0,pz G];simp
  have g3:((pre++(A1++(A'++[p])++x::B)++post).set (pre.length+A1.length+(n+1)) p)[pre.length+A1.length+n]?=some p:=by rw[s1];exact gO Z
  have s2:((pre++(A1++(A'++[p])++x::B)++post).set (pre.length+A1.length+(n+1)) p).set (pre.length+A1.length+n) x=pre++(A1++A'++x::(p::B))++post:=by rw[s1,pz Z];simp
  have i1:InI (z-1):=⟨by omega,by omega⟩;refine lN (n+1) _ _ _ _ (⟨λ_=>⟨i1,i1,pre.length+A1.length+n,by omega,p,g2,pre.length+A1.length+(n+1),O,x,g1,pre.length+A1.length+(n+1),O,x,g1,pre.length+A1.length+n,by omega,p,g3,i1,?_⟩,λh=>absurd (by omega) h⟩);rw[s2];simpa using ih
theorem CE{A1 B2:List FE}(G:dE A1)(J:dE B2)(h:∀u v,A1[A1.length-1]?=some u->B2[0]?=some v->leE u v):∀u∈A1,∀v∈B2,leE u v:=λu O v hv=>by
 obtain⟨i,hi,gi⟩:=vX O;obtain⟨j,Z,gj⟩:=vX hv;obtain⟨x,hx⟩:∃x,A1[A1.length-1]?=some x:=⟨_,List.getElem?_eq_getElem<|by omega⟩;obtain⟨y,hy⟩:∃y,B2[0]?=some y:=⟨_,List.getElem?_eq_getElem<|by omega⟩;exact mI (tp G gi hx<|by omega) (mI (h x y hx hy)<|tp J hy gj<|by omega)
theorem ML(A1 A2 B1 B2:List FE):(A1++B1++(A2++B2)).Perm (A1++A2++(B1++B2)):=by rw[aaq,aaq];refine List.Perm.append_left _ ?_;rw[<-aaq,<-aaq];exact List.Perm.append_right _ List.perm_append_comm
theorem DD:∀(n:Nat) (pre A B post:List FE),A.length+B.length<=n->0<A.length->0<B.length->dE A->dE B->(∀x∈A,PbE x)->(∀x∈B,PbE x)->(∀x∈pre,PbE x)->(∀x∈post,PbE x)->pre.length+A.length+B.length+post.length+1<=100000000->
  ∃C:List FE,C.Perm (A++B)∧dE C∧cW (pre++A++B++post) (pre.length:Nat) ((pre.length+A.length:Nat):Int) ((pre.length+A.length+B.length:Nat):Int) (pre++C++post)
 |0,pre,A,B,post,hn,ha,hb,_,_,_,_,_,_,_=>by omega
 | n + 1,pre,A,B,post,hn,ha,hb,hA,hB,pA,pB,pp,pq,hl=>by
  have i1:InI (((pre.length+A.length:Nat):Int)-((pre.length:Nat):Int)):=⟨by omega,by omega⟩;by_cases a1:A.length=1
  ·obtain⟨x,rfl⟩:∃x,A=[x]:=by
    match A,a1 with
    |[x],_=>exact⟨x,rfl⟩
   obtain⟨s,h1,h2,h3,h4⟩:=EJ (l:=pre++[x]++B++post) (B:=B) (x:=x) (a:=pre.length) (z:=pre.length+1) (by rw[show pre++[x]++B++post=pre++x::(B++post) by simp];exact gO rfl) (λt u hu=>by have :=xO (pre:=pre++[x]) (post:=post) hu;simpa[aav]using this) pB (by omega) B.length 0 B.length (by omega) (by omega) (aaf _) (λu h=>by omega) (λu h=>by rw[List.getElem?_eq_none (aaf _)]at h;cases h)
   have h5:=Mc (post:=post) (B.take s) (B.drop s) pre x ((pre.length:Nat):Int) ((pre.length+1+s:Nat):Int) rfl (by rw[aak];congr 1;omega) (by rw[aak,aal];omega);rw[aas]at h5;obtain⟨M,hM⟩:=h4 _ _ (by rw[show pre++[x]++B++post=pre++x::B++post by simp];exact h5);refine⟨B.take s++x::B.drop s,?_,?_,eX M _ _ _ _ _<|⟨i1,λ_=>?_,λh=>absurd (by simp;omega) h⟩⟩
   ·have :=List.perm_middle (a:=x) (l₁:=B.take s) (l₂:=B.drop s);rw[aas]at this;exact this
   ·have hs:dE (B.take s++B.drop s):=by rw[aas];exact hB
    have hx1:∀u∈B.take s,leE u x:=λu hu=>by
     obtain⟨i,hi,gi⟩:=vX hu;rw[aak]at hi;rw[List.getElem?_take,if_pos<|by omega]at gi;obtain⟨y,hy⟩:∃y,B[s-1]?=some y:=⟨_,List.getElem?_eq_getElem<|by omega⟩;exact mI (tp hB gi hy<|by omega) (h2 y (by omega) hy)
    have hx2:∀u∈B.drop s,leE x u:=λu hu=>by
     obtain⟨i,hi,gi⟩:=vX hu;rw[aal]at hi;rw[List.getElem?_drop]at gi;obtain⟨y,hy⟩:∃y,B[s]?=some y:=⟨_,List.getElem?_eq_getElem<|by omega⟩;exact mI (h3 y hy) (tp hB hy gi<|by omega)
    refine zc (jQ hs) (List.pairwise_cons.2 ⟨hx2,jx hs⟩) λu hu v hv=>?_;rcases List.mem_cons.1 hv with rfl|h
    ·exact hx1 u hu
    ·exact pT hs u hu v h
   ·simpa using hM
  by_cases b1:B.length=1
  ·obtain⟨x,rfl⟩:∃x,B=[x]:=by
    match B,b1 with
    |[x],_=>exact⟨x,rfl⟩
   obtain⟨s,h1,h2,h3,h4⟩:=Fc (l:=pre++A++[x]++post) (A:=A) (x:=x) (a:=pre.length) (z:=pre.length+A.length) (by rw[show pre++A++[x]++post=(pre++A)++x::post by simp];exact gO (by simp)) (λt u hu=>by have :=xO (pre:=pre) (post:=[x]++post) hu;simpa using this) (pB x (by simp)) (by omega) A.length 0 A.length (by omega) (by omega) (aaf _) (λu h=>by omega) (λu h=>by rw[List.getElem?_eq_none (aaf _)]at h;cases h)
   have h5:=Ma (post:=post) (pre:=pre) (A.length-s) (A.take s) (A.drop s) [] x ((pre.length+A.length:Nat):Int) ((pre.length+s:Nat):Int) (by rw[aal]) (by rw[aak];congr 1;omega) (by rw[aak];congr 1;omega) (by rw[aak,aal];omega);rw[aas,aau]at h5;obtain⟨M,hM⟩:=h4 _ _ (by rw[show pre++A++[x]++post=pre++(A++[x])++post by simp];exact h5);refine⟨A.take s++x::A.drop s,?_,?_,eX M _ _ _ _ _<|⟨i1,λh=>absurd h (by omega),λ_=>⟨⟨by simp;omega,by simp;omega⟩,λ_=>?_,λh=>absurd (by simp;omega) h⟩⟩⟩
   ·have :=List.perm_middle (a:=x) (l₁:=A.take s) (l₂:=A.drop s);rw[aas]at this;exact this.trans<|List.perm_append_comm (l₁:=[x]) (l₂:=A)
   ·have hs:dE (A.take s++A.drop s):=by rw[aas];exact hA
    have hx1:∀u∈A.take s,leE u x:=λu hu=>by
     obtain⟨i,hi,gi⟩:=vX hu;rw[aak]at hi;rw[List.getElem?_take,if_pos<|by omega]at gi;obtain⟨y,hy⟩:∃y,A[s-1]?=some y:=⟨_,List.getElem?_eq_getElem<|by omega⟩;exact mI (tp hA gi hy<|by omega) (h2 y (by omega) hy)
    have hx2:∀u∈A.drop s,leE x u:=λu hu=>by
     obtain⟨i,hi,gi⟩:=vX hu;rw[aal]at hi;rw[List.getElem?_drop]at gi;obtain⟨y,hy⟩:∃y,A[s]?=some y:=⟨_,List.getElem?_eq_getElem<|by omega⟩;exact mI (h3 y hy) (tp hA hy gi<|by omega)
    refine zc (jQ hs) (List.pairwise_cons.2 ⟨hx2,jx hs⟩) λu hu v hv=>?_;rcases List.mem_cons.1 hv with rfl|h
    ·exact hx1 u hu
    ·exact pT hs u hu v h
   ·simpa using hM
  obtain⟨l,hld⟩:∃l,l=pre++A++B++post:=⟨_,rfl⟩;have hpl:∀u∈l,PbE u:=λu hu=>by
   rw[hld]at hu;simp only[aai]at hu;rcases hu with((h|h)|h)|h
   ·exact pp u h
   ·exact pA u h
   ·exact pB u h
   ·exact pq u h
  have hll:l.length=pre.length+A.length+B.length+post.length:=by rw[hld];simp;omega
  have gA:∀t u,A[t]?=some u->l[pre.length+t]?=some u:=λt u hu=>by have :=xO (pre:=pre) (post:=B++post) hu;rw[hld];simpa using this
  have gB:∀t u,B[t]?=some u->l[pre.length+A.length+t]?=some u:=λt u hu=>by have :=xO (pre:=pre++A) (post:=post) hu;rw[hld];simpa using this
  obtain⟨a,had⟩:∃a,a=pre.length:=⟨_,rfl⟩;obtain⟨m,hmd⟩:∃m,m=pre.length+A.length:=⟨_,rfl⟩;obtain⟨b,hbd⟩:∃b,b=pre.length+A.length+B.length:=⟨_,rfl⟩;obtain⟨mid,hmid⟩:∃mid,mid=(a+b)/2:=⟨_,rfl⟩;have hm1:a+2<=m:=by omega
  have hm2:m+2<=b:=by omega
  obtain⟨lo,hlo⟩:∃lo,lo=if mid<m then a else a:=⟨_,rfl⟩
  have key:∀lo hi0,(m<mid+1->m=hi0∨True)->lo<=hi0->a<=lo->hi0<=m->hi0<=mid->(∀c,lo<=c->c<hi0->m+c+1<=mid+m∧mid+m-c<=b)->(lo=a∨mid+m-lo=b)->(hi0=m∨hi0=mid)->
    ∃C:List FE,C.Perm (A++B)∧dE C∧∃M,ba M l (a:Nat) (m:Nat) (b:Nat) (a+b) (lo:Nat) (hi0:Nat) (pre++C++post):=λlo hi0 _ hlh hal hhm hhd hq hlo hhi=>by
   obtain⟨s,g0,g1,_,_,g2,g3,g4⟩:=FG (l:=l) (p1:=(a:Nat)) (p3:=(b:Nat)) (a:=a) (m:=m) (k0:=a+b) (lo:=lo) (hi0:=hi0) hpl (by omega) hhm (λc h1 h2=>by have :=hq c h1 h2;rw[<-hmid];omega) (hi0-lo) lo hi0 (aaf _) hlh (aaf _) (aaf _) (λu v h=>by omega) (λu v h=>by omega);rw[<-hmid]at g2 g3;have hsm:mid+m-s<=b:=by
    rcases Nat.lt_or_ge s hi0 with h|h
    ·have :=hq s g0 h;omega
    ·by_cases e:lo=s
     ·rcases hlo with h|h<;>omega
     ·have :=hq (s-1) (by omega) (by omega);omega
   have hsm2:m<=mid+m-s:=by omega
   have hA':A=A.take (s-a)++A.drop (s-a):=(aas _ _).symm;have hB':B=B.take (mid-s)++B.drop (mid-s):=(aas _ _).symm;obtain⟨A1,hA1⟩:∃X,X=A.take (s-a):=⟨_,rfl⟩;obtain⟨A2,hA2⟩:∃X,X=A.drop (s-a):=⟨_,rfl⟩;obtain⟨B1,hB1⟩:∃X,X=B.take (mid-s):=⟨_,rfl⟩;obtain⟨B2,hB2⟩:∃X,X=B.drop (mid-s):=⟨_,rfl⟩;rw[<-hA1,<-hA2]at hA';rw[<-hB1,<-hB2]at hB';have l1:A1.length=s-a:=by rw[hA1,aak];omega
   have l2:A2.length=m-s:=by rw[hA2,aal];omega
   have l3:B1.length=mid-s:=by rw[hB1,aak];omega
   have l4:B2.length=b-(mid+m-s):=by rw[hB2,aal];omega
   have sA:dE (A1++A2):=hA'▸hA;have sB:dE (B1++B2):=hB'▸hB;have cross1:∀u∈A1,∀v∈B2,leE u v:=CE (jQ sA) (jx sB) λu v hu hv=>by
    have h1:0<A1.length:=by have :=(List.getElem?_eq_some_iff.1 hu).1;omega
    have h2:0<B2.length:=(List.getElem?_eq_some_iff.1 hv).1;have hu':A[s-a-1]?=some u:=by rw[hA',List.getElem?_append_left (by omega),<-l1];exact hu
    have hv':B[mid-s]?=some v:=by rw[hB',List.getElem?_append_right (by omega),show mid-s-B1.length=0 by omega];exact hv
    have hu2:=gA _ _ hu';have hv2:=gB _ _ hv';refine g2 u v ?_ ?_ ?_
    ·rcases hlo with h|h
     ·omega
     ·rcases Nat.lt_or_ge lo s with h'|h'
      ·exact h'
      ·omega
    ·rw[show s-1=pre.length+(s-a-1) by omega];exact hu2
    ·rw[show mid+m-s=pre.length+A.length+(mid-s) by omega];exact hv2
   have cross2:∀u∈B1,∀v∈A2,leE u v:=CE (jQ sB) (jx sA) λu v hu hv=>by
    have h1:0<B1.length:=by have :=(List.getElem?_eq_some_iff.1 hu).1;omega
    have h2:0<A2.length:=(List.getElem?_eq_some_iff.1 hv).1;have hu':B[mid-s-1]?=some u:=by rw[hB',List.getElem?_append_left (by omega),<-l3];exact hu
    have hv':A[s-a]?=some v:=by rw[hA',List.getElem?_append_right (by omega),show s-a-A1.length=0 by omega];exact hv
    have hu2:=gB _ _ hu';have hv2:=gA _ _ hv';refine g3 v u (by rcases hhi with h|h<;>omega) ?_ ?_
    ·rw[show s=pre.length+(s-a) by omega];exact hv2
    ·rw[show mid+m-1-s=pre.length+A.length+(mid-s-1) by omega];exact hu2
   have pA1:∀x∈A1,PbE x:=λx hx=>pA x (by rw[hA'];simp[hx]);have pA2:∀x∈A2,PbE x:=λx hx=>pA x (by rw[hA'];simp[hx]);have pB1:∀x∈B1,PbE x:=λx hx=>pB x (by rw[hB'];simp[hx]);have pB2:∀x∈B2,PbE x:=λx hx=>pB x (by rw[hB'];simp[hx]);have half1:∃C1:List FE,C1.Perm (A1++B1)∧dE C1∧∀M r,cQ M (m:Nat) (b:Nat) (a+b) (s:Nat) (pre++C1++(A2++B2++post)) r->dq (M+1) (a:Nat) (m:Nat) (b:Nat) (a+b) (s:Nat) (pre++A1++B1++(A2++B2++post)) r:=by
    by_cases h:0<A1.length∧0<B1.length
    ·obtain⟨C1,c1,c2,c3⟩:=DD n pre A1 B1 (A2++B2++post) (by omega) h.1 h.2 (jQ sA) (jQ sB) pA1 pB1 pp (λx hx=>by
      simp only[aai]at hx;rcases hx with(h|h)|h
      ·exact pA2 x h
      ·exact pB2 x h
      ·exact pq x h) (by simp;omega)
     refine⟨C1,c1,c2,λM r hM=>lR M _ _ _ _ _ _ _<|⟨λ_=>⟨λ_=>⟨_,?_,hM⟩,λh'=>absurd (by rw[<-hmid];omega) h'⟩,λh'=>absurd (by omega) h'⟩⟩;rw[<-hmid,had,show s=pre.length+A1.length by omega,show mid=pre.length+A1.length+B1.length by omega];exact c3
    ·refine⟨A1++B1,List.Perm.refl _,?_,λM r hM=>?_⟩
     ·rcases(by omega:A1.length=0∨B1.length=0)with h'|h'
      ·rw[List.eq_nil_of_length_eq_zero h',aax];exact jQ sB
      ·rw[List.eq_nil_of_length_eq_zero h',aau];exact jQ sA
     ·rw[<-aaq pre A1 B1]at hM;exact lR M _ _ _ _ _ _ _ (⟨λ_=>⟨λh'=>absurd h' (by rw[<-hmid];omega),λ_=>hM⟩,λ_=>hM⟩)
   obtain⟨C1,c1,c2,c3⟩:=half1;have hc1:=c1.length_eq;rw[aab]at hc1;have half2:∃C2:List FE,C2.Perm (A2++B2)∧dE C2∧cQ 1 (m:Nat) (b:Nat) (a+b) (s:Nat) (pre++C1++(A2++B2++post)) (pre++C1++C2++post):=by
    have es:(((a+b)/2:Nat):Int)+((m:Nat):Int)-((s:Nat):Int)=((mid+m-s:Nat):Int):=by rw[<-hmid];omega
    by_cases h:0<A2.length∧0<B2.length
    ·obtain⟨C2,d1,d2,d3⟩:=DD n (pre++C1) A2 B2 post (by omega) h.1 h.2 (jx sA) (jx sB) pA2 pB2 (λx hx=>by
      rcases List.mem_append.1 hx with h|h
      ·exact pp x h
      ·rcases List.mem_append.1 (c1.mem_iff.1 h)with h|h
       ·exact pA1 x h
       ·exact pB1 x h) pq (by simp;omega)
     refine⟨C2,d1,d2,lQ 0 _ _ _ _ _ _<|⟨λ_=>⟨λ_=>⟨_,?_,I⟩,λh'=>absurd (by rw[es];omega) h'⟩,λh'=>absurd (by rw[es,<-hmid];omega) h'⟩⟩;rw[es,<-hmid];have e1:(pre++C1).length=mid:=by simp;omega
     rw[e1,show mid+A2.length=mid+m-s by omega,show mid+m-s+B2.length=b by omega]at d3;simpa using d3
    ·refine⟨A2++B2,List.Perm.refl _,?_,?_⟩
     ·rcases(by omega:A2.length=0∨B2.length=0)with h'|h'
      ·rw[List.eq_nil_of_length_eq_zero h',aax];exact jx sB
      ·rw[List.eq_nil_of_length_eq_zero h',aau];exact jx sA
     ·rw[show pre++C1++(A2++B2++post)=pre++C1++(A2++B2)++post by simp];exact lQ 0 _ _ _ _ _ _ (⟨λ_=>⟨λh'=>absurd h' (by rw[es];omega),λ_=>I⟩,λ_=>I⟩)
   obtain⟨C2,d1,d2,d3⟩:=half2;have hperm:(C1++C2).Perm (A++B):=by
    have :=(List.Perm.append c1 d1).trans<|ML A1 A2 B1 B2;rw[hA',hB'];exact this
   refine⟨C1++C2,hperm,zc c2 d2 λu hu v hv=>?_,?_⟩
   ·rcases List.mem_append.1 (c1.mem_iff.1 hu)with h|h<;>rcases List.mem_append.1 (d1.mem_iff.1 hv)with h'|h'
    ·exact pT sA u h v h'
    ·exact cross1 u h v h'
    ·exact cross2 u h v h'
    ·exact pT sB u h v h'
   ·have h5:=c3 1 _ d3;have es:(((a+b)/2:Nat):Int)+((m:Nat):Int)-((s:Nat):Int)=((mid+m-s:Nat):Int):=by rw[<-hmid];omega
    have hrot:ba 3 l (a:Nat) (m:Nat) (b:Nat) (a+b) (s:Nat) (s:Nat) (pre++(C1++C2)++post):=by
     have e6:pre++(C1++C2)++post=pre++C1++C2++post:=by simp
     rw[e6];refine rL2_slices_symMergeCmpFunc 2 _ _ _ _ _ _ _ _ (⟨λh=>absurd h (by omega),λ_=>⟨⟨by rw[es];omega,by rw[es];omega⟩,λh=>⟨λh'=>?_,λh'=>?_⟩,λh=>?_⟩⟩)
     ·rw[es]at h'⊢;have hr:=Ss (pre++A1) A2 B1 (B2++post) (by omega) (by omega) (by simp;omega) (p1:=(s:Nat)) (p2:=(m:Nat)) (p3:=((mid+m-s:Nat):Int)) (by simp;omega) (by simp;omega) (by simp;omega);refine⟨pre++A1++B1++(A2++B2++post),?_,h5⟩;have e7:l=pre++A1++A2++B1++(B2++post):=by rw[hld,hA',hB'];simp
      rw[e7,show pre++A1++B1++(A2++B2++post)=pre++A1++B1++A2++(B2++post) by simp];exact hr
     ·rw[es]at h';have :B1=[]:=List.eq_nil_of_length_eq_zero (by omega);rw[show l=pre++A1++B1++(A2++B2++post) by rw[hld,hA',hB',this];simp];exact h5
     ·have :A2=[]:=List.eq_nil_of_length_eq_zero (by omega);rw[show l=pre++A1++B1++(A2++B2++post) by rw[hld,hA',hB',this];simp];exact h5
    obtain⟨M,hM⟩:=g4 3 _ hrot;exact⟨M,hM⟩
  rw[<-hld,<-hbd,<-hmd,<-had];have ek:((a:Nat):Int)+((b:Nat):Int)=((a+b:Nat):Int):=by omega
  by_cases hc:mid<m
  ·obtain⟨C,k1,k2,M,k3⟩:=key (mid+m-b) mid (λ_=>.inr trivial) (by omega) (by omega) (by omega) (aaf _) (λc h1 h2=>by omega) (.inr<|by omega)<|.inr rfl;refine⟨C,k1,k2,eX M _ _ _ _ _<|⟨⟨by omega,by omega⟩,λh=>absurd h (by omega),λ_=>⟨⟨by omega,by omega⟩,λh=>absurd h (by omega),λ_=>⟨⟨by omega,by omega⟩,a+b,ek,by omega,by omega,⟨by rw[<-hmid];omega,by rw[<-hmid];omega⟩,λ_=>⟨⟨by rw[<-hmid];omega,by rw[<-hmid];omega⟩,⟨by rw[<-hmid];omega,by rw[<-hmid];omega⟩,?_⟩,λh=>absurd (by rw[<-hmid];omega) h⟩⟩⟩⟩;rw[<-hmid,show((mid:Nat):Int)+((m:Nat):Int)-((b:Nat):Int)=((mid+m-b:Nat):Int) by omega];exact k3
  ·obtain⟨C,k1,k2,M,k3⟩:=key a m (λ_=>.inr trivial) (by omega) (aaf _) (aaf _) (by omega) (λc h1 h2=>by omega) (.inl rfl)<|.inl rfl;refine⟨C,k1,k2,eX M _ _ _ _ _<|⟨⟨by omega,by omega⟩,λh=>absurd h (by omega),λ_=>⟨⟨by omega,by omega⟩,λh=>absurd h (by omega),λ_=>⟨⟨by omega,by omega⟩,a+b,ek,by omega,by omega,⟨by rw[<-hmid];omega,by rw[<-hmid];omega⟩,λh=>absurd h (by rw[<-hmid];omega),λ_=>⟨⟨by rw[<-hmid];omega,by rw[<-hmid];omega⟩,k3⟩⟩⟩⟩⟩
structure BlkE (s:Nat) (l:List FE) (bs:List (List FE)) (last:List FE):Prop where
 e:l=bs.flatten++last
 b:∀x∈bs,x.length=s∧dE x
 l:last.length<s∧dE last
theorem AI{s:Nat}:∀{bs:List<|List FE},(∀x∈bs,x.length=s∧dE x)->bs.flatten.length=bs.length*s
 |[],_=>by simp
 |b::r,h=>by
  rw[List.flatten_cons,aab,AI (λx hx=>h x<|by simp[hx]),(h b<|by simp).1,aac,Nat.succ_mul];omega
theorem OV(hn:n<=90000000):∀(k:Nat) (pre R:List FE),R.length<=k->pre.length+R.length=n->(∀x∈R,PbE x)->(∃bs:List<|List FE,pre=bs.flatten∧∀x∈bs,x.length=20∧dE x)->
  ∃l' bs last,l'.Perm (pre++R)∧BlkE 20 l' bs last∧∀M r,cx M (n:Nat) l' 20 r->∃M',fM M' (n:Nat) (pre++R) pre.length (pre.length+20) r:=λk=>by
 induction k with
 |zero=>
  intro pre R hk hpn hR ⟨bs,hb1,hb2⟩;have :R=[]:=List.eq_nil_of_length_eq_zero (by omega);subst this;obtain⟨S,h1,h2,h3⟩:=JJ pre [] [] (by simp) (by simp at hpn⊢;omega) (a:=(pre.length:Nat)) (b:=(n:Nat)) rfl (by simp at hpn⊢;omega);have :S=[]:=List.Perm.eq_nil h1;subst this;refine⟨pre++[],bs,[],List.Perm.refl _,⟨by rw[hb1],hb2,by decide,List.Pairwise.nil⟩,λM r h=>⟨M+1,iO M _ _ _ _ _<|⟨λh'=>absurd h' (by simp at hpn;omega),λ_=>⟨_,by simpa using h3,by simpa using h⟩⟩⟩⟩
 | succ k ih=>
  intro pre R hk hpn hR hbs;by_cases hc:20<=R.length
  ·obtain⟨Ra,Rb,rfl,g1⟩:∃Ra Rb,R=Ra++Rb∧Ra.length=20:=⟨R.take 20,R.drop 20,by simp,by simp;omega⟩;simp only[aab]at hk hpn hc;obtain⟨S,h1,h2,h3⟩:=JJ pre Ra Rb (λx hx=>hR x (by simp[hx])) (by omega) (a:=(pre.length:Nat)) (b:=((pre.length+20:Nat):Int)) rfl (by rw[g1]);have hS:=h1.length_eq;obtain⟨bs,hb1,hb2⟩:=hbs;obtain⟨l',bs',last,f1,f2,f3⟩:=ih (pre++S) Rb (by omega) (by simp;omega) (λx hx=>hR x (by simp[hx])) ⟨bs++[S],by rw[hb1];simp,λx hx=>by
    rcases List.mem_append.1 hx with h|h
    ·exact hb2 x h
    ·simp only[List.mem_singleton]at h;subst h;exact⟨by omega,h2⟩⟩
   refine⟨l',bs',last,f1.trans ?_,f2,λM r h=>?_⟩
   ·rw[aaq];exact List.Perm.append_left _<|List.Perm.append_right _ h1
   ·obtain⟨M',hM⟩:=f3 M r h;rw[aab,hS,g1]at hM;exact⟨M'+1,iO M' _ _ _ _ _<|⟨λ_=>⟨_,by simpa using h3,by omega,hM⟩,λh'=>absurd (by omega) h'⟩⟩
  ·obtain⟨S,h1,h2,h3⟩:=JJ pre R [] hR (by omega) (a:=(pre.length:Nat)) (b:=(n:Nat)) rfl (by omega);have hS:=h1.length_eq;obtain⟨bs,hb1,hb2⟩:=hbs;refine⟨pre++S,bs,S,List.Perm.append_left _ h1,⟨by rw[hb1],hb2,by omega,h2⟩,λM r h=>⟨M+1,iO M _ _ _ _ _<|⟨λh'=>absurd h' (by omega),λ_=>⟨_,by simpa using h3,by simpa using h⟩⟩⟩⟩
theorem Py{s:Nat}(hn:n<=90000000)(hs:0<s)(hsn:s<n):∀(k:Nat) (bs:List<|List FE) (pre last:List FE),bs.length<=k->pre.length+bs.flatten.length+last.length=n->(∀x∈pre,PbE x)->(∀x∈bs.flatten,PbE x)->(∀x∈last,PbE x)->(∀x∈bs,x.length=s∧dE x)->(last.length<s∧dE last)->(∃ps:List<|List FE,pre=ps.flatten∧∀x∈ps,x.length=2*s∧dE x)->
  ∃l' bs' last',l'.Perm (pre++bs.flatten++last)∧BlkE (2*s) l' bs' last'∧∀M r,cx M (n:Nat) l' ((s:Int)*2) r->∃M',fG M' (n:Nat) (pre++bs.flatten++last) (pre.length:Nat) ((pre.length+2*s:Nat):Int) (s:Nat) r:=λk=>by
 induction k with
 |zero=>
  intro bs pre last hk hpn pp pb pl hb hl ⟨ps,hp1,hp2⟩;have :bs=[]:=List.eq_nil_of_length_eq_zero (by omega);subst this;simp only[List.flatten_nil,aae,Nat.add_zero,aau]at hpn⊢;exact⟨pre++last,ps,last,List.Perm.refl _,⟨by rw[hp1],hp2,by omega,hl.2⟩,λM r h=>⟨M+1,fp M _ _ _ _ _ _<|⟨λh'=>absurd h' (by omega),λ_=>⟨⟨by omega,by omega⟩,λh'=>absurd h' (by omega),λ_=>⟨⟨by omega,by omega⟩,h⟩⟩⟩⟩⟩
 | succ k ih=>
  intro bs pre last hk hpn pp pb pl hb hl hps
  match bs,hk,hpn,pb,hb with
  |[],hk,hpn,pb,hb=>exact ih [] pre last (by simp) hpn pp pb pl hb hl hps
  | [b1],hk,hpn,pb,hb=>
   have h1:=hb b1 (by simp);simp only[List.flatten_cons,List.flatten_nil,aau]at hpn pb⊢;obtain⟨ps,hp1,hp2⟩:=hps;by_cases hl0:last=[]
   ·subst hl0;simp only[aae,Nat.add_zero,aau]at hpn⊢;exact⟨pre++b1,ps,b1,List.Perm.refl _,⟨by rw[hp1],hp2,by omega,h1.2⟩,λM r h=>⟨M+1,fp M _ _ _ _ _ _<|⟨λh'=>absurd h' (by omega),λ_=>⟨⟨by omega,by omega⟩,λh'=>absurd h' (by omega),λ_=>⟨⟨by omega,by omega⟩,h⟩⟩⟩⟩⟩
   ·have hlp:0<last.length:=List.length_pos_iff.2 hl0;obtain⟨C,c1,c2,c3⟩:=DD (b1.length+last.length) pre b1 last [] (aaf _) (by omega) hlp h1.2 hl.2 pb pl pp (by simp) (by simp;omega);have hC:=c1.length_eq;rw[aab]at hC;refine⟨pre++C,ps,C,?_,⟨by rw[hp1],hp2,by omega,c2⟩,λM r h=>⟨M+1,fp M _ _ _ _ _ _<|⟨λh'=>absurd h' (by omega),λ_=>⟨⟨by omega,by omega⟩,λh'=>⟨pre++C,?_,⟨by omega,by omega⟩,h⟩,λh'=>absurd (by omega) h'⟩⟩⟩⟩
    ·rw[aaq];exact List.Perm.append_left _ c1
    ·rw[h1.1,show pre.length+s+last.length=n by omega]at c3;rw[show((pre.length:Nat):Int)+((s:Nat):Int)=((pre.length+s:Nat):Int) by omega];simpa using c3
  | b1::b2::r0,hk,hpn,pb,hb=>
   have h1:=hb b1 (by simp);have h2:=hb b2 (by simp);simp only[List.flatten_cons,aab,aac]at hpn hk;have pb':∀x,x∈b1∨x∈b2∨x∈r0.flatten->PbE x:=λx hx=>pb x (by simpa[List.flatten_cons]using hx);obtain⟨C,c1,c2,c3⟩:=DD (b1.length+b2.length) pre b1 b2 (r0.flatten++last) (aaf _) (by omega) (by omega) h1.2 h2.2 (λx hx=>pb' x (.inl hx)) (λx hx=>pb' x (.inr (.inl hx))) pp (λx hx=>by
    rcases List.mem_append.1 hx with h|h
    ·exact pb' x<|.inr<|.inr h
    ·exact pl x h) (by simp only[aab];omega)
   have hC:=c1.length_eq;rw[aab]at hC;obtain⟨ps,hp1,hp2⟩:=hps;obtain⟨l',bs',last',f1,f2,f3⟩:=ih r0 (pre++C) last (by omega) (by simp only[aab];omega) (λx hx=>by
    rcases List.mem_append.1 hx with h|h
    ·exact pp x h
    ·rcases List.mem_append.1 (c1.mem_iff.1 h)with h|h
     ·exact pb' x<|.inl h
     ·exact pb' x (.inr (.inl h))) (λx hx=>pb' x (.inr (.inr hx))) pl (λx hx=>hb x (by simp[hx])) hl ⟨ps++[C],by rw[hp1];simp,λx hx=>by
    rcases List.mem_append.1 hx with h|h
    ·exact hp2 x h
    ·simp only[List.mem_singleton]at h;subst h;exact⟨by omega,c2⟩⟩
   refine⟨l',bs',last',f1.trans ?_,f2,λM r h=>?_⟩
   ·have :=List.Perm.append_left pre<|List.Perm.append_right (r0.flatten++last) c1;simpa[List.flatten_cons]using this
   ·obtain⟨M',hM⟩:=f3 M r h;rw[h1.1,h2.1]at c3;rw[aab,show C.length=2*s by omega]at hM;refine⟨M'+1,fp M' _ _ _ _ _ _<|⟨λ_=>⟨⟨by omega,by omega⟩,pre++C++r0.flatten++last,?_,⟨by omega,by omega⟩,⟨by omega,by omega⟩,?_⟩,λh'=>absurd (by omega) h'⟩⟩
    ·rw[show((pre.length:Nat):Int)+((s:Nat):Int)=((pre.length+s:Nat):Int) by omega,show pre.length+2*s=pre.length+s+s by omega];simpa[List.flatten_cons]using c3
    ·rw[show((pre.length+2*s:Nat):Int)+2*((s:Nat):Int)=((pre.length+2*s+2*s:Nat):Int) by omega];exact hM
theorem OE(hn:n<=90000000):∀(k s:Nat) (l:List FE) (bs:List<|List FE) (last:List FE),n-s<=k->0<s->s<=180000000->l.length=n->(∀x∈l,PbE x)->BlkE s l bs last->∃r,r.Perm l∧dE r∧∃M,cx M (n:Nat) l (s:Nat) r:=λk=>by
 induction k using Nat.strongRecOn with
 | ind k ih=>
  intro s l bs last hk hs hs2 hl hp hB;have hlen:=congrArg List.length hB.e;rw[aab,AI hB.b]at hlen;by_cases hc:s<n
  ·obtain⟨l',bs',last',f1,f2,f3⟩:=Py hn hs hc bs.length bs [] last (aaf _) (by rw[AI hB.b,aae];omega) (by simp) (λx hx=>hp x (by rw[hB.e];simp only[aai];exact .inl hx)) (λx hx=>hp x (by rw[hB.e];simp only[aai];exact .inr hx)) hB.b hB.l ⟨[],rfl,by simp⟩;have f1':l'.Perm l:=by rw[hB.e];simpa using f1
   obtain⟨r,g1,g2,M,g3⟩:=ih (n-2*s) (by omega) (2*s) l' bs' last' (aaf _) (by omega) (by omega) (by rw[f1'.length_eq];exact hl) (λx hx=>hp x<|f1'.mem_iff.1 hx) f2;obtain⟨M',hM⟩:=f3 M r (by rw[show((s:Nat):Int)*2=((2*s:Nat):Int) by omega];exact g3);refine⟨r,g1.trans f1',g2,M'+1,mF M' _ _ _ _<|⟨λ_=>⟨⟨by omega,by omega⟩,?_⟩,λh=>absurd (by omega) h⟩⟩;rw[show 2*((s:Nat):Int)=(([]:List FE).length+2*s:Nat) by simp];rw[hB.e];simpa using hM
  ·refine⟨l,List.Perm.refl _,?_,1,mF 0 _ _ _ _<|⟨λh=>absurd h (by omega),λ_=>I⟩⟩
   match bs,hB,hlen with
   |[],hB,_=>rw[hB.e];simpa using hB.l.2
   |[b],hB,hlen=>
    have h1:=hB.b b (by simp);simp only[aac,aae,Nat.zero_add,Nat.one_mul]at hlen;have :last=[]:=List.eq_nil_of_length_eq_zero (by omega);rw[hB.e,this];simpa using h1.2
   |b::b'::r,hB,hlen=>
    simp only[aac,Nat.succ_mul]at hlen;omega
theorem QX(l:List FE)(G:l.length<=90000000)(J:∀x∈l,PbE x):∃r,fJ l r∧r.Perm l∧dE r:=by
 obtain⟨O,bs,last,h1,h2,Z⟩:=OV G l.length [] l (aaf _) (by simp) J ⟨[],rfl,by simp⟩;rw[aax]at h1;obtain⟨r,g1,g2,M,g3⟩:=OE G l.length 20 O bs last (by omega) (by decide) (by decide) h1.length_eq (λx hx=>J x<|h1.mem_iff.1 hx) h2;obtain⟨M',hM⟩:=Z M r g3;exact⟨r,tU 0 _ _ (⟨r,ue M' _ _ _ (by simpa using hM),I⟩),g1.trans h1,g2⟩
theorem CH:∀{p:YT},Mok p->bn p=true
 |[],_=>rfl
 |t::r,h=>by
  obtain⟨h1,h2⟩:=h t (by simp);simp only[bn,h1,h2,CH (p:=r) λx hx=>h x<|by simp[hx]];rfl
mutual
def nodL:Tree->YT
 |.node k s l ks=>.node k s l ks::nodLs ks
def nodLs:YT->YT
 |[]=>[]
 |t::r=>nodL t++nodLs r
end
theorem Cf(t:Tree):nodL t=t::nodLs t.kids:=by cases t;simp only[nodL,Tree.kids]
mutual
theorem nodL_len:∀t:Tree,(nodL t).length<=tbulk t
 |.node k s l ks=>by have :=nodLs_len ks;simp only[nodL,tbulk,aac];omega
theorem nodLs_len:∀l:YT,(nodLs l).length<=kbulk l
 |[]=>by simp[nodLs,kbulk]
 |t::r=>by have :=nodL_len t;have :=nodLs_len r;simp only[nodLs,kbulk,aab];omega
end
theorem Do:∀{l:YT} {i:Nat} {u v:Tree},l[i]?=some u->v∈nodL u->v∈nodLs l
 |[],i,u,v,h,_=>by simp at h
 |t::r,0,u,v,h,hv=>by simp only[List.getElem?_cons_zero,aad]at h;subst h;simp only[nodLs,aai];exact .inl hv
 |t::r,i+1,u,v,h,hv=>by simp only[nodLs,aai];exact .inr (Do (by simpa using h) hv)
theorem FO:∀(q:YI) (t u:Tree),atK t q=some u->u∈nodL t
 |[],t,u,h=>by simp only[atK,aad]at h;subst h;rw[Cf];simp
 |i::q,t,u,h=>by
  simp only[atK]at h;split at h
  ·cases h
  split at h
  ·cases h
  rename_i y hy;rw[Cf];exact List.mem_cons_of_mem _<|Do hy<|FO q y u h
theorem PG:∀t:Tree,tbulk t<=100000000->iW t (nodL t):=da λt ih ht=>by
 have hk:=bw t;have loop:∀k i (l:YT),t.kids.length-i<=k->l.length+kbulk (t.kids.drop i)<=200000000->iu (k+1) t l i (l++nodLs (t.kids.drop i)):=λk=>by
  induction k with
  |zero=>
   intro i l hi hl;refine pR 0 _ _ _ _ (⟨λh=>by omega,λh=>?_⟩);rw[List.drop_of_length_le (by omega),nodLs,aau]
  | succ k ihk=>
   intro i l hi hl;refine pR (k+1) _ _ _ _ (⟨λh=>?_,λh=>?_⟩)
   ·obtain⟨u,hu⟩:∃u,t.kids[i]?=some u:=⟨_,List.getElem?_eq_getElem h⟩;have hd:t.kids.drop i=u::t.kids.drop (i+1):=by
     obtain⟨hlt,hg⟩:=List.getElem?_eq_some_iff.1 hu;rw[aam hlt,hg]
    have hb:=aF hu;have hn:=nodL_len u;rw[hd,kbulk]at hl;refine⟨u,hu,_,ih i u hu (by omega),by rw[aab];omega,?_⟩;have :=ihk (i+1) (l++nodL u) (by omega) (by rw[aab];omega)
    rwa [aaq,<-nodLs,<-hd]at this
   ·rw[List.drop_of_length_le (by omega),nodLs,aau]
 have hb:=bm t;have :=loop t.kids.length 0 [t] (by omega) (by rw[List.drop_zero];simp only[List.length_singleton];omega);rw[List.drop_zero,List.singleton_append,<-Cf]at this;exact xu _ _ _<|this
theorem JG:∀t,tyK t->∃m,iz m t ((leafK t).kind !=9):=da λt ih h=>by
 rcases jk h with⟨G,_,u,J,O⟩|⟨G,_,_⟩
 ·obtain⟨Z,_⟩:=jo G J;obtain⟨m,hm⟩:=ih 0 u (by rw[J];rfl) O;exact⟨m+1,pM m _ _<|⟨λ_=>⟨u,by rw[J];rfl,by rw[Z];exact hm⟩,λh=>absurd G h⟩⟩
 ·exact⟨1,pM 0 _ _<|⟨λh=>absurd h G,λ_=>by rw[rE G]⟩⟩
theorem Pr(h:tyK t):me t ((leafK t).kind !=9):=by
 obtain⟨m,G⟩:=JG t h;exact wV m _ _<|G
theorem Bo:∀{l:List ac},(∀y∈l,formD y=true)->formDs l=true
 |[],_=>rfl
 |y::r,h=>by simp only[formDs,h y (by simp),Bo (l:=r) λz G=>h z<|by simp[G]];rfl
theorem Hv{n:Nat}:∀{l:List ac},(∀y∈l,wD y<=n)->wDs l<=l.length*n
 |[],_=>by simp[wDs]
 |y::r,h=>by
  have h1:=h y (by simp);have h2:=Hv (l:=r) (λz G=>h z<|by simp[G]);simp only[wDs,aac,Nat.add_mul];omega
def Qd(L:YI)(t:Tree)(n:Nat):Prop:=∀a,Dc L a->∃x a',fU L a t x L a'∧Dc L a'∧((leafK t).kind≠9->ik (knK t) x)∧formD x=true∧wD x<=n
theorem ET(h:tyK t)(h8:t.kind≠8):Qd L t 3:=λa ha=>by
 have J:=rE h8;have hli:lisK t=0:=by cases t;simp only[Tree.kind]at h8;simp only[lisK,if_neg h8]
 have G:knK t=⟨t.kind,0⟩:=by rw[knK,J,hli];rfl
 have hty:5<=t.kind∧t.kind<=9:=by have :=h.2;simpa[gN]using this
 by_cases h6:t.kind=6
 ·obtain⟨r,a',O,g2,Z⟩:=eb ha (n:=3) (by omega) (by omega);obtain⟨k,rfl⟩:∃k:Nat,r=k:=⟨r.toNat,by omega⟩;obtain⟨s,hs,hsl⟩:∃s,([[],[97],[98,99]]:List YB)[k]?=some s∧s.length<=2:=by
   rcases(by omega:k=0∨k=1∨k=2)with rfl|rfl|rfl
   ·exact⟨_,rfl,by decide⟩
   ·exact⟨_,rfl,by decide⟩
   ·exact⟨_,rfl,by decide⟩
  refine⟨⟨2,0,s,[]⟩,a',iw 0 _ _ _ _ _ _<|⟨λ_=>⟨_,_,_,O,k,rfl,s,hs,rfl,rfl,rfl⟩,λh=>absurd h6 h⟩,Z,λ_=>?_,by simp[formD],by simp only[wD,wDs];omega⟩;rw[G,h6];simp[ik,wS]
 by_cases h7:t.kind=7
 ·obtain⟨r,a',O,g2,Z⟩:=eb ha (n:=2) (by omega) (by omega);refine⟨⟨3,r,[],[]⟩,a',iw 0 _ _ _ _ _ _<|⟨λh=>absurd h h6,λ_=>⟨λ_=>⟨_,_,_,O,rfl,rfl,rfl⟩,λh=>absurd h7 h⟩⟩,Z,λ_=>?_,?_,by simp[wD,wDs]⟩
  ·rw[G,h7];simp[ik,wS]
  ·rcases(by omega:r=0∨r=1)with rfl|rfl<;>simp[formD]
 ·obtain⟨r,a',O,g2,Z⟩:=eb ha (n:=9) (by omega) (by omega);refine⟨dI<|r-4,a',iw 0 _ _ _ _ _ _ (⟨λh=>absurd h h6,λ_=>⟨λh=>absurd h h7,λ_=>⟨λh=>absurd h h8,λ_=>⟨_,_,_,O,by constructor<;>omega,_,wO _,rfl,rfl,rfl⟩⟩⟩⟩),Z,λh9=>?_,by simp[dI,formD],by simp[dI,wD,wDs]⟩;rw[J]at h9;rw[G,show t.kind=5 by omega];simp[ik,wS,dI]
theorem Qm(h:tyK t)(hl:lisK t<=1):Qd L t 7:=by
 by_cases h8:t.kind=8
 ·rcases jk h with⟨_,_,u,hu,hty⟩|⟨h8',_,_⟩
  ·obtain⟨e1,e2⟩:=jo h8 hu;have hu8:u.kind≠8:=λhk=>by
    rcases jk hty with⟨_,_,v,hv,_⟩|⟨hn,_,_⟩
    ·obtain⟨_,e4⟩:=jo hk hv;omega
    ·exact hn hk
   have hlf:=ET (L:=L) hty hu8;have hk0:t.kids[0]?=some u:=by rw[hu];rfl
   have loop:∀(n:Nat) (a:Int) (l:List ac),n<=2->Dc L a->l.length+n<=100->∃l' a',ij (n+1) t L a l (n:Int) ⟨4,0,[],l++l'⟩ L a'∧Dc L a'∧l'.length=n∧∀y∈l',((leafK u).kind≠9->ik (knK u) y)∧formD y=true∧wD y<=3:=λn=>by
    induction n with
    |zero=>
     intro a l _ ha _;exact⟨[],a,pN 0 _ _ _ _ _ _ _ _ (⟨λh=>by omega,λ_=>⟨by rw[aau],rfl,rfl⟩⟩),ha,rfl,λy hy=>by cases hy⟩
    | succ n ih=>
     intro a l hn ha hlen;obtain⟨x,a1,g1,g2,g3⟩:=hlf a ha;obtain⟨l',a2,k1,k2,k3,k4⟩:=ih a1 (l++[x]) (by omega) g2 (by simp;omega);refine⟨x::l',a2,pN (n+1) _ _ _ _ _ _ _ _ (⟨λ_=>⟨u,hk0,_,_,_,g1,by simp;omega,by constructor<;>omega,?_⟩,λh=>by omega⟩),k2,by simp[k3],λy hy=>?_⟩
     ·rw[show((n+1:Nat):Int)-1=(n:Int) by omega];simpa using k1
     ·rcases List.mem_cons.1 hy with rfl|hy
      ·exact g3
      ·exact k4 y hy
   intro a ha;obtain⟨r,a1,g1,g2,g3⟩:=eb ha (n:=3) (by omega) (by omega);obtain⟨n,rfl⟩:∃n:Nat,r=n:=⟨r.toNat,by omega⟩;obtain⟨l',a2,k1,k2,k3,k4⟩:=loop n a1 [] (by omega) g3 (by simp;omega);rw[aax]at k1;refine⟨⟨4,0,[],l'⟩,a2,iw (n+1) _ _ _ _ _ _ (⟨λh=>by omega,λ_=>⟨λh=>by omega,λ_=>⟨λ_=>⟨_,_,_,g1,k1⟩,λh=>absurd h8 h⟩⟩⟩),k2,λh9=>?_,?_,?_⟩
   ·rw[e1]at h9;have :=Db (k:=knK u) (by simp[knK]) λy hy=>(k4 y hy).1 h9;have e:knK t=⟨(knK u).simple,(knK u).lists+1⟩:=by
     simp only[knK,e1,e2];rfl
    rw[e];exact this
   ·have :=Bo λy hy=>(k4 y hy).2.1;simp[formD,this]
   ·have :=Hv λy hy=>(k4 y hy).2.2;simp only[wD,aae];omega
  ·exact absurd h8 h8'
 ·intro a ha;obtain⟨x,a',g1,g2,g3,g4,g5⟩:=ET (L:=L) h h8 a ha;exact⟨x,a',g1,g2,g3,g4,by omega⟩
theorem MB{p:YT}(h:Typed p)(Z:bn p=true){d:Nat}{f:Tree}(h1:p[i]?=some t)(h2:t.kids[d]?=some f)(J:f.kind=2)(hs:shapeK f=true){l:List ac}(O:l.length+2=f.kids.length)
  (hd:∀(k:Nat) (q:Kn),(cF p (i:Int) f).params[k]?=some q->∃x,l[k]?=some x∧ik q x) (hv:∀y∈l,gq y=true) {fu:Int} (G:0<=fu) (hf1:fu<=3000):(dR p i d l fu).2.2=0∨(dR p i d l fu).2.2=3∨(dR p i d l fu).2.2=21:=by
 obtain⟨c1,c2⟩:=Al h1 h2 l.length;have hc:th p i d l.length=true:=by rw[th,Z,c1,J];simp only[Bool.true_and,aaa,aap,aaj];exact⟨trivial,O.symm⟩
 rw[dR,if_pos ⟨hc,G,by omega,List.all_eq_true.2 hv⟩,c2];exact(Is h h1 h2 J hs O hd 16385 fu.toNat).2
theorem Sb (L M:List Int) (fu:Int):nu L M fu true:=by
 have hL:∀l,js l (decide<|((l.length:Nat):Int)<=120):=λl=>yj 0 _ _<|rfl;by_cases h1:((L.length:Nat):Int)<=120
 rotate_left
 ·exact cV 0 _ _ _ _<|⟨_,hL L,λ_=>⟨_,aw9,rfl⟩,λh=>absurd (of_decide_eq_true h) h1⟩
 by_cases h2:((M.length:Nat):Int)<=120
 rotate_left
 ·exact cV 0 _ _ _ _<|⟨_,hL L,λh=>absurd h1<|of_decide_eq_false h,λ_=>⟨_,hL M,λ_=>⟨_,aw9,rfl⟩,λh=>absurd (of_decide_eq_true h) h2⟩⟩
 by_cases f0:fu<0
 ·exact cV 0 _ _ _ _<|⟨_,hL L,λh=>absurd h1<|of_decide_eq_false h,λ_=>⟨_,hL M,λh=>absurd h2<|of_decide_eq_false h,λ_=>⟨λ_=>⟨_,aw9,rfl⟩,λh=>absurd f0 h⟩⟩⟩
 by_cases f1:3000<fu
 ·exact cV 0 _ _ _ _<|⟨_,hL L,λh=>absurd h1<|of_decide_eq_false h,λ_=>⟨_,hL M,λh=>absurd h2<|of_decide_eq_false h,λ_=>⟨λh=>absurd h f0,λ_=>⟨λ_=>⟨_,aw9,rfl⟩,λh=>absurd f1 h⟩⟩⟩⟩
 obtain⟨p,p1,p2,p3⟩:=Jf L (by omega);have hp:=CH p3.1;obtain⟨nm,_,e1⟩:=(Ni (p:=p)<|by omega).2 hp;have hfl:=(Od hp (by omega) nm 0 []).1.fa;have hfb:=PD (p:=p) nm 0 [];simp only[aae,Nat.zero_add]at hfl;obtain⟨r,g1,g2,_⟩:=QX (yQ p nm 0 []).fa (by omega) (λe he=>by have :=hfb e he;show e.At.Path.length<=1000000000;omega);by_cases hr:0<r.length
 ·exact cV 0 _ _ _ _ (⟨_,hL L,λh=>absurd h1<|of_decide_eq_false h,λ_=>⟨_,hL M,λh=>absurd h2<|of_decide_eq_false h,λ_=>⟨λh=>absurd h f0,λ_=>⟨λh=>absurd h f1,λ_=>⟨p,p1,r,e1 r g1,λ_=>⟨_,aw9,rfl⟩,λh=>absurd (by omega) h⟩⟩⟩⟩⟩)
 have hfa:(yQ p nm 0 []).fa=[]:=by have :=g2.length_eq;exact List.length_eq_zero_iff.1 (by omega)
 have hlen:=fD p;have runs:(∀t∈p,NoH t)->∃m,dD m M fu p 0 true:=λhh=>by
  have hT:=NJ hp hfa hh;have l2 :∀k i,k+i=p.length->∃m,dD m M fu p i true:=λk=>by
   induction k with
   |zero=>intro i hi;exact⟨1,my 0 _ _ _ _ _<|⟨λh=>by omega,λ_=>⟨_,aw9,rfl⟩⟩⟩
   | succ k ihk=>
    intro i hi;obtain⟨m2,hm2⟩:=ihk (i+1) (by omega);obtain⟨t,ht⟩:∃t,p[i]?=some t:=⟨_,List.getElem?_eq_getElem (by omega)⟩;have hbt:=bR ht;have hkt:=bw t;have hMP:xR t:=p3.2 t (List.mem_of_getElem? ht);have l3:∀j d,j+d=t.kids.length->∃m,bV m M fu p d i true:=λj=>by
     induction j with
     |zero=>intro d hd;exact⟨m2+1,il m2 _ _ _ _ _ _<|⟨t,ht,λh=>by omega,λ_=>⟨by omega,hm2⟩⟩⟩
     | succ j ihj=>
      intro d hd;obtain⟨m3,hm3⟩:=ihj (d+1) (by omega);obtain⟨f,hf⟩:∃f,t.kids[d]?=some f:=⟨_,List.getElem?_eq_getElem (by omega)⟩;by_cases h2f:f.kind=2
      rotate_left
      ·exact⟨m3+1,il m3 _ _ _ _ _ _<|⟨t,ht,λ_=>⟨t,ht,f,hf,λ_=>hm3,λh=>absurd h h2f⟩,λh=>by omega⟩⟩
      have hsf:=uC hp i t d f ht hf;obtain⟨s1,s2,_,_⟩:=mE hsf h2f;have hPO:uB f:=hMP f<|List.mem_of_getElem? hf;have hbf:=aF hf;have hkf:=bw f;have l4:∀n c,n+c+2=f.kids.length->∀(a:Int) (l:List ac) (b:Bool),Dc M a->l.length=c->(∀y∈l,gq y=true)->(b=true->∀(k:Nat) (q:Kn),k<c->(cF p (i:Int) f).params[k]?=some q->∃x,l[k]?=some x∧ik q x)->∃m,dC m M fu p f M a l b c i d true:=λn=>by
       induction n with
       |zero=>
        intro c hc a l b ha hlc hv hb;have hrun:=JX (p:=p) (by omega) (i:Int) (d:Int) l (by omega) fu;refine⟨m3+1,ig m3 _ _ _ _ _ _ _ _ _ _ _ _ (⟨λh=>by omega,λ_=>⟨_,_,_,hrun,λhbt=>?_,λ_=>⟨by omega,hm3⟩⟩⟩)⟩;have hpl:(cF p (i:Int) f).params.length=f.kids.length-2:=by simp[cF]
        have hfin:=MB hT hp ht hf h2f hsf (l:=l) (by omega) (λk q hq=>hb hbt k q (by have :=(List.getElem?_eq_some_iff.1 hq).1;omega) hq) hv (fu:=fu) (by omega) (by omega);refine⟨λe0=>⟨λe21=>⟨λe3=>?_,λ_=>⟨by omega,hm3⟩⟩,λ_=>⟨by omega,hm3⟩⟩,λ_=>⟨by omega,hm3⟩⟩;rcases hfin with h|h|h
        ·exact absurd h e0
        ·exact absurd h e3
        ·exact absurd h e21
       | succ n ihn=>
        intro c hc a l b ha hlc hv hb;obtain⟨u,hu⟩:∃u,f.kids[c]?=some u:=⟨_,List.getElem?_eq_getElem (by omega)⟩;obtain⟨v,_,hv1,hvt⟩:=s2 c u hu (by omega);have hv0:u.kids[0]?=some v:=by rw[hv1];rfl
        obtain⟨x,a',d1,d2,d3,d4,d5⟩:=Qm (L:=M) hvt (hPO c u v (by omega) hu hv0) a ha;have hvx:gq x=true:=by
         unfold gq;rw[d4,decide_eq_true<|by omega];rfl
        have hvl:∀y∈l++[x],gq y=true:=λy hy=>by
         rcases List.mem_append.1 hy with h|h
         ·exact hv y h
         ·rw[List.mem_singleton]at h;subst h;exact hvx
        have hpar:(leafK v).kind≠9->∀q,(cF p (i:Int) f).params[c]?=some q->ik q x:=λh9 q hq=>by simp only[cF,List.getElem?_map,Option.map_eq_some_iff]at hq;obtain⟨u',hu',rfl⟩:=hq;rw[List.getElem?_take_of_lt (by omega),hu]at hu';have :=Option.some.inj hu';subst this;rw[ce hv0,tyN,if_neg h9];exact d3 h9
        have hlc1:(l++[x]).length=c+1:=by simp[hlc]
        have hbn:∀b',(b'=true->b=true∧(leafK v).kind≠9)->b'=true->∀(k:Nat) (q:Kn),k<c+1->(cF p (i:Int) f).params[k]?=some q->∃x',(l++[x])[k]?=some x'∧ik q x':=λb' hb' hb1 k q hk hq=>by
         obtain⟨b0,b9⟩:=hb' hb1;by_cases hkc:k<c
         ·obtain⟨y,y1,y2⟩:=hb b0 k q hkc hq;exact⟨y,by rw[List.getElem?_append_left<|by omega];exact y1,y2⟩
         ·have :k=c:=by omega
          subst this;exact⟨x,by rw[List.getElem?_append_right (by omega),hlc];simp,hpar b9 q hq⟩
        have hpl:=Pr hvt;cases b with
        |false=>
         obtain⟨m,hm⟩:=ihn (c+1) (by omega) a' (l++[x]) false d2 hlc1 hvl (λh=>by cases h);exact⟨m+1,ig m _ _ _ _ _ _ _ _ _ _ _ _<|⟨λ_=>⟨λh=>(by cases h),λ_=>⟨u,hu,v,hv0,x,M,a',d1,by omega,by omega,hm⟩⟩,λh=>by omega⟩⟩
        |true=>
         obtain⟨m,hm⟩:=ihn (c+1) (by omega) a' (l++[x]) ((leafK v).kind !=9) d2 hlc1 hvl (hbn _ λh=>⟨rfl,by simpa using h⟩);exact⟨m+1,ig m _ _ _ _ _ _ _ _ _ _ _ _<|⟨λ_=>⟨λ_=>⟨u,hu,v,hv0,_,hpl,u,hu,v,hv0,x,M,a',d1,by omega,by omega,hm⟩,λh=>(by cases h)⟩,λh=>by omega⟩⟩
      obtain⟨m4,hm4⟩:=l4 (f.kids.length-2) 0 (by omega) 0 [] true ⟨by omega,by omega,by omega⟩ rfl (λy hy=>by cases hy) (λ_ k q hk=>by omega);exact⟨m4+1,il m4 _ _ _ _ _ _<|⟨t,ht,λ_=>⟨t,ht,f,hf,λh=>absurd h2f h,λ_=>⟨M,0,sI 0 _ _ _ (⟨by omega,I,I⟩),hm4⟩⟩,λh=>by omega⟩⟩
    obtain⟨m3,hm3⟩:=l3 t.kids.length 0 (by omega);exact⟨m3+1,my m3 _ _ _ _ _<|⟨λ_=>hm3,λh=>by omega⟩⟩
  exact l2 p.length 0 (by omega)
 have holes:∀k i,k+i=p.length->(∀j t,j<i->p[j]?=some t->NoH t)->∃m,fe m M fu p i true:=λk=>by
  induction k with
  | zero=>
   intro i hi hh;obtain⟨m,hm⟩:=runs (λt ht=>by obtain⟨j,hj,e⟩:=aat ht;exact hh j t (by omega) (by rw[List.getElem?_eq_getElem hj,e]))
   exact⟨m+1,mj m _ _ _ _ _<|⟨λh=>by omega,λ_=>hm⟩⟩
  | succ k ihk=>
   intro i hi hh;obtain⟨t,ht⟩:∃t,p[i]?=some t:=⟨_,List.getElem?_eq_getElem (by omega)⟩;have hbt:=bR ht;have hn:=PG t (by omega);have hnl:=nodL_len t;have l1:∀n j,n+j=(nodL t).length->(∀(a:Nat) u,a<j->(nodL t)[a]?=some u->u.kind≠15)->∃m,fg m M fu p (nodL t) j i true:=λn=>by
    induction n with
    | zero=>
     intro j hj hk;obtain⟨m,hm⟩:=ihk (i+1) (by omega) (λj' t' hj' ht'=>by
      by_cases hlt:j'<i
      ·exact hh j' t' hlt ht'
      ·have :j'=i:=by omega
       subst this;rw[ht]at ht';have :=Option.some.inj ht';subst this;intro q u hu;obtain⟨a,ha,e⟩:=aat (FO q t u hu);exact hk a u (by omega) (by rw[List.getElem?_eq_getElem ha,e]))
     exact⟨m+1,iA m _ _ _ _ _ _ _<|⟨λh=>by omega,λ_=>⟨by omega,hm⟩⟩⟩
    | succ n ihn=>
     intro j hj hk;obtain⟨u,hu⟩:∃u,(nodL t)[j]?=some u:=⟨_,List.getElem?_eq_getElem (by omega)⟩;by_cases h15:u.kind=15
     ·exact⟨1,iA 0 _ _ _ _ _ _ _<|⟨λ_=>⟨u,hu,λ_=>⟨_,aw9,I⟩,λh=>absurd h15 h⟩,λh=>by omega⟩⟩
     ·obtain⟨m,hm⟩:=ihn (j+1) (by omega) (λa v ha hv=>by
       by_cases hlt:a<j
       ·exact hk a v hlt hv
       ·have :a=j:=by omega
        subst this;rw[hu]at hv;have :=Option.some.inj hv;subst this;exact h15)
      exact⟨m+1,iA m _ _ _ _ _ _ _<|⟨λ_=>⟨u,hu,λh=>absurd h h15,λ_=>hm⟩,λh=>by omega⟩⟩
   obtain⟨m,hm⟩:=l1 (nodL t).length 0 (by omega) (λa u ha=>by omega);exact⟨m+1,mj m _ _ _ _ _<|⟨λ_=>⟨t,ht,_,hn,hm⟩,λh=>by omega⟩⟩
 obtain⟨m,hm⟩:=holes p.length 0 (by omega) (λj t hj=>by omega);exact cV m _ _ _ _ (⟨_,hL L,λh=>absurd h1<|of_decide_eq_false h,λ_=>⟨_,hL M,λh=>absurd h2<|of_decide_eq_false h,λ_=>⟨λh=>absurd h f0,λ_=>⟨λh=>absurd h f1,λ_=>⟨p,p1,r,e1 r g1,λh=>absurd h (by omega),λ_=>hm⟩⟩⟩⟩⟩)
open Go.RowKit Go.ChangeShapes Go.WideShapes Go.Deep
theorem KV:prog.cellsOf 3=1:=by kernel_rfl
variable{W:World}
theorem Sa{H:Type}{enc:TypeId×Value->H}{a0:Option Addr}{len cap:Nat}{d:DataW H}{p:List MemPlace}(h:DataW.Trod enc prog W 0 (λ_=>true) true 29 (.slice a0 len cap) d p):
  ∃zs:YI,len=zs.length∧len<=cap∧cap<=maxLen∧RowIn Any W 1 a0 zs.length (zs.map λz=>.int .i64 z):=by
 obtain⟨fuel,hf⟩:=h;rcases open_ints underlying29 underlying3 KV hf with⟨G,hx⟩|⟨a,len',cap',zs,G,hb,hl,hm,J,hx,hcell,hwf⟩
 ·simp[Value.cells]at G;obtain⟨rfl,rfl,rfl⟩:=G;exact⟨[],I,aaf _,aar _,RowIn.none_⟩
 ·simp[Value.cells]at G;obtain⟨rfl,rfl,rfl⟩:=G;simp only[if_true]at J;have O:(zs.take len).length=len:=by simp;omega
  refine⟨zs.take len,O.symm,hl,hm,by simp,λh0=>?_⟩;rw[O]at h0⊢;have hs:a.spot=none:=World.cell?_spot (a:=a) (by have :=hcell 0 (by omega);simpa[Addr.add]using this);obtain⟨b,off,spot⟩:=a;simp only at hs;subst hs;have Z:∀k,(⟨b,off,none⟩:Addr).add k=⟨b,off+k,none⟩:=λk=>by unfold Addr.add;split<;>simp_all
  refine⟨b,off,I,trivial,?_,λj hj=>?_⟩
  ·have :=hcell 0 (by omega);exact World.block_lt_of_cell? W ⟨b,off,none⟩ (by simpa[Addr.add]using this)
  ·have hj':j<len:=by omega
   have :=hcell j (by omega);rw[Z]at this;rw[this];simp[hj',List.getD_eq_getElem?_getD,show j<zs.length from by omega]
abbrev sb(W:World):Nat->Prop:=λb=>b<W.heap.size
theorem RowIn.live{sz:Nat}{A:Option Addr}(h:RowIn Any W sz A n xs):RowIn (sb W) W sz A n xs:=⟨h.1,λJ=>by obtain⟨b,off,h1,_,G,O⟩:=h.2 J;exact⟨b,off,h1,G,G,O⟩⟩
abbrev zE(W:World)(v:V)(x:Value):Prop:=VRel (sb W) W (λ_=>none) v x
theorem TE{l:YI}{A:Option Addr}{cap:Nat}(G:l.length<=cap)(J:cap<=maxLen)(hr:RowIn Any W 1 A l.length<|l.map λz=>.int .i64 z):zE W (.row 1<|l.map<|V.int .i64) (.slice A l.length cap):=by simp only[zE,VRel];exact⟨A,cap,_,by simp,by simpa using G,J,Ej l,by simpa using hr.live⟩
theorem TG(z:Int):zE W (.int .i64 z) (.int .i64 z):=by simp only[zE,VRel]
theorem TF{fid:FuncId}{us:List V}{b:Bool}(h:sO prog fid us<|.bool b)(G:∀p∈ze,VRel (sb W) W ρ0 (.box p.2 0) (.pointer<|some ⟨p.1,0,none⟩):=by exact λp hp=>nomatch hp)(hx:LRel (sb W) W (λ_=>none) us xs):Calls prog fid xs.toArray W λe W'=>e=.returned (.bool b)∧Ext W W':=by
 have J:HRel (sb W) W (λ_=>none) (⟨0,[]⟩:Hp).get:=NV ⟨λ_ h=>h,G⟩;refine(h.2.2 _ W _ xs J hx).mono ?_;rintro e W' ⟨x,S',ρ',v,H',rfl,rfl,h1,h2,Z⟩;simp only[VRel]at Z;subst Z;have O:∀b,¬∃id,own (λ_=>none) id ((⟨0,[]⟩:Hp).get id) b:=λb ⟨id,hb⟩=>by rw[yV]at hb;exact hb
 exact⟨I,Chg.ext ⟨h2.chg.os,h2.chg.tape,h2.chg.output,h2.chg.size,λb hb _=>h2.chg.block b hb<|O b⟩⟩
theorem lr1{u:V}(h:zE W u x):LRel (sb W) W (λ_=>none) [u] [x]:=⟨x,[],rfl,h,rfl⟩
theorem lrc{u:V}{us:List V}(h:zE W u x)(k:LRel (sb W) W (λ_=>none) us xs):LRel (sb W) W (λ_=>none) (u::us) (x::xs):=⟨x,xs,rfl,h,k⟩
open Go.RowKit Go.ChangeShapes Go.WideShapes Lx Sx
theorem Gk:prog.cellsOf 102=2:=by kernel_rfl
theorem LO:prog.cellsOf 3=1:=by kernel_rfl
theorem AD{n:String}{z:Int}{g:Nat}{r:List<|String×DataW Unit}{ps:List MemPlace}(hg:prog.globalNamed n=some g)(ht:(prog.globals[g]?).map (·.type)=some 102)(h:DataW.LaidVars prog W ((n,.agg [.lit<|.int .i64 z,.lit<|.int .i64 0])::r) ps):
  (∃qs,DataW.LaidVars prog W r qs)∧VRel (sb W) W ρ0 (.box [.int .i64 z,.int .i64 0] 0) (.pointer<|some ⟨g,0,none⟩):=by
 obtain⟨g',t,cs,fuel,p,q,h1,h2,G,h4,h5,_⟩:=h;rw[hg]at h1;injection h1 with h1;subst h1
 rw[ht]at h2;injection h2 with h2;subst h2
 refine⟨⟨q,h5⟩,?_⟩;obtain⟨y0,y1,n',hx,hl,h6,h7⟩:=trod_struct2 underlying102 h4;rw[Gk]at hl;simp only[LO]at h6 h7;obtain⟨a,O,f0,_⟩:=DataW.trod_int underlying3 h6;obtain⟨b,Z,f1,_⟩:=DataW.trod_int underlying3 h7;rw[f0,f1]at hx;simp only[Prod.mk.injEq,DataW.agg.injEq,List.cons.injEq,DataW.lit.injEq,Lit.int.injEq,true_and,and_true]at hx;obtain⟨⟨rfl,rfl⟩,_⟩:=hx;have hcs:cs.toList=[.int .i64 z,.int .i64 0]:=by
  match hc:cs.toList,hl with
  |[c0,c1],_=>
   rw[hc]at O Z;simp only[List.drop_zero,List.drop_succ_cons,List.take_succ_cons,List.take_zero,List.cons.injEq,and_true]at O Z;rw[O,Z]
 unfold World.var? at G;rw[hg]at G;simp only[Option.bind_some]at G;split at G
 ·rename_i cs' ty fz hb;injection G with G;subst G
  have J:g<W.heap.size:=by
   rcases Nat.lt_or_ge g W.heap.size with h|h
   ·exact h
   ·rw[Array.getElem?_eq_none h]at hb;cases hb
  simp only[VRel];refine⟨g,0,[.int .i64 z,.int .i64 0],rfl,J,J,by simp only[LRel,VRel];exact⟨_,_,rfl,rfl,_,_,rfl,rfl,rfl⟩,λj hj=>?_⟩;rw[<-hcs];simp[World.cell?,hb]
 ·cases G
theorem TC{W:World}{ps:List MemPlace} (h:DataW.LaidVars prog W [("semvcs/typing.integer",Rows.laid_semvcs_typing_integer),("semvcs/typing.text",Rows.laid_semvcs_typing_text),("semvcs/typing.boolean",Rows.laid_semvcs_typing_boolean)] ps):∀p∈ze,VRel (sb W) W ρ0 (.box p.2 0) (.pointer (some ⟨p.1,0,none⟩)):=by
 obtain⟨⟨q1,h1⟩,a1⟩:=AD (g:=0) (by kernel_rfl) (by kernel_rfl) h;obtain⟨⟨q2,h2⟩,a2⟩:=AD (g:=1) (by kernel_rfl) (by kernel_rfl) h1;obtain⟨_,a3⟩:=AD (g:=2) (by kernel_rfl) (by kernel_rfl) h2;intro p hp;simp only[ze,aah,List.not_mem_nil,or_false]at hp;rcases hp with rfl|rfl|rfl
 ·exact a1
 ·exact a2
 ·exact a3
def za(cs:Array Value):Obj->Obj
 |.cells _ t frozen=>.cells cs t frozen
 |o=>o
noncomputable def Rv:Nat:=(World.holding prog default ⟨#[],#[],[]⟩).heap.size
noncomputable def Lm (os:Os):World:=
 let w0:=World.holding prog os ⟨#[.cells #[.string ⟨#[105,110,118,97,108,105,100,32,115,121,110,116,97,120]⟩] 242,.cells #[.string ⟨#[118,97,108,117,101,32,111,117,116,32,111,102,32,114,97,110,103,101]⟩] 242],#[],[]⟩
 {w0 with heap:=(((((((w0.heap.modify 3<|za #[.iface 240<|.pointer<|some ⟨Rv,0,none⟩]).modify 4<|za #[.iface 240<|.pointer<|some ⟨Rv+1,0,none⟩]).modify 6<|za #[.int .u64 1,.int .u64 10,.int .u64 100,.int .u64 1000,.int .u64 10000,.int .u64 100000,.int .u64 1000000,.int .u64 10000000,.int .u64 100000000,.int .u64 1000000000,.int .u64 10000000000,.int .u64 100000000000,.int .u64 1000000000000,.int .u64 10000000000000,.int .u64 100000000000000,.int .u64 1000000000000000,.int .u64 10000000000000000,.int .u64 100000000000000000,.int .u64 1000000000000000000,.int .u64 10000000000000000000]).modify 7<|za #[.int .u8 0,.int .u8 1,.int .u8 28,.int .u8 2,.int .u8 29,.int .u8 14,.int .u8 24,.int .u8 3,.int .u8 30,.int .u8 22,.int .u8 20,.int .u8 15,.int .u8 25,.int .u8 17,.int .u8 4,.int .u8 8,.int .u8 31,.int .u8 27,.int .u8 13,.int .u8 23,.int .u8 21,.int .u8 19,.int .u8 16,.int .u8 7,.int .u8 26,.int .u8 12,.int .u8 18,.int .u8 6,.int .u8 11,.int .u8 5,.int .u8 10,.int .u8 9]).modify 8<|za #[.int .u8 0,.int .u8 1,.int .u8 56,.int .u8 2,.int .u8 57,.int .u8 49,.int .u8 28,.int .u8 3,.int .u8 61,.int .u8 58,.int .u8 42,.int .u8 50,.int .u8 38,.int .u8 29,.int .u8 17,.int .u8 4,.int .u8 62,.int .u8 47,.int .u8 59,.int .u8 36,.int .u8 45,.int .u8 43,.int .u8 51,.int .u8 22,.int .u8 53,.int .u8 39,.int .u8 33,.int .u8 30,.int .u8 24,.int .u8 18,.int .u8 12,.int .u8 5,.int .u8 63,.int .u8 55,.int .u8 48,.int .u8 27,.int .u8 60,.int .u8 41,.int .u8 37,.int .u8 16,.int .u8 46,.int .u8 35,.int .u8 44,.int .u8 21,.int .u8 52,.int .u8 32,.int .u8 23,.int .u8 11,.int .u8 54,.int .u8 26,.int .u8 40,.int .u8 15,.int .u8 34,.int .u8 20,.int .u8 31,.int .u8 10,.int .u8 25,.int .u8 14,.int .u8 19,.int .u8 9,.int .u8 13,.int .u8 8,.int .u8 7,.int .u8 6]).modify 0<|za #[.int .i64 5,.int .i64 0]).modify 1<|za #[.int .i64 6,.int .i64 0]).modify 2<|za #[.int .i64 7,.int .i64 0]}
theorem Th(os:Os)(args:Array Value):laidMet prog Rows.evalTypedRow.laid ((Lm os).forCall (λ_ _=>0) ⟨#[],args,[]⟩).memory:=
 laidMet_of_run' 8 (by kernel_rfl) (by kernel_rfl)
end Go.Proofs.YthnohcipianijaaGreatDoor
