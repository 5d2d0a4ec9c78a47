/- Contracts of the functions that the law reaches, part 8. -/
import Derived.Test.YtomplbgchbfjpaaGreatDoorEr7
set_option linter.unusedVariables false
set_option linter.unusedSimpArgs false
namespace Go.Proofs.YtomplbgchbfjpaaGreatDoor
open _root_.Go.Proofs.Tryz
open Go.RowKit Lx Sx
set_option maxRecDepth 100000
set_option maxHeartbeats 4000000
open Go.RowKit
variable{S:Nat→Prop}
variable{k:Nat}
variable{l:List UInt8}{t:Tree}
theorem NO:zG sq (EB Jf 10000 20 [.str Qz])=true:=by kernel_rfl
theorem DY:bi [sq]=true:=by decide+kernel
theorem FG:kbulk [sq]≤10000000:=by decide+kernel
theorem Pw(nm:List ((Int×List UInt8)×ac)):(qv [sq] nm 0 []).fa=[⟨⟨0,[0,1,1]⟩,6⟩,⟨⟨0,[1,2,2]⟩,3⟩]:=by kernel_rfl
theorem Em(nm:List ((Int×List UInt8)×ac)):(qv [sq] nm 0 [0,1]).rs=5∧(qv [sq] nm 0 [0,1]).rl=0:=⟨by kernel_rfl,by kernel_rfl⟩
def Qi:Tree:=(atK sq [0,1]).getD (.node 0 [] [] [])
theorem Qu:ia Qi.kind=true:=by decide+kernel
theorem Ow:II 4000 sq [0,1] Qi=true:=by kernel_rfl
theorem MY:re true:=by
 obtain⟨nm,_,U⟩:=(Av FG).2 DY;have Z:gm [sq] [⟨⟨0,[0,1,1]⟩,6⟩,⟨⟨0,[1,2,2]⟩,3⟩]:=U _ (by
  rw[Pw nm];refine Fo (by decide) (λx hx=>?_) (List.Perm.refl _) (List.pairwise_cons.2 ⟨λy hy=>?_,List.pairwise_singleton _ _⟩)
  ·simp only[List.mem_cons,List.not_mem_nil,or_false]at hx;rcases hx with rfl|rfl<;>decide
  ·simp only[List.mem_singleton]at hy;subst hy;unfold leE;decide)
 obtain⟨G,_,J⟩:=So (m:=0) (q:=[0,1]) DY FG rfl (NN Ow) Qu;have O:=J 0 (Em G).2 (by decide);have e3:ofN (qv [sq] G ((0:Nat):Int) [0,1])=(.node 5 [] [] [],0):=by
  unfold ofN;rw[show(qv [sq] G ((0:Nat):Int) [0,1]).rs=5 from(Em G).1,show(qv [sq] G ((0:Nat):Int) [0,1]).rl=0 from(Em G).2];rfl
 rw[e3]at O;exact wG 0 _ (⟨sq,0,0,OV NO,_,Z,_,_,O,λ_=>⟨λ_=>⟨λ_=>⟨λ_=>⟨_,rfl,λ_=>⟨_,rfl,_,xS _,λ_=>⟨_,rfl,λ_=>⟨_,rfl,_,xS _,rfl⟩,λh=>absurd rfl h⟩,λh=>(by cases h)⟩,λh=>absurd rfl h⟩,λh=>absurd rfl h⟩,λh=>absurd rfl h⟩,λh=>absurd rfl h⟩,λh=>absurd rfl h⟩)
theorem Ny:ny true:=MY
def Dc(L:List Int)(a:Int):Prop:=0≤a∧a≤L.length∧L.length≤1000000000
variable{a:Int}
theorem Rv{n:Int}(G:0<n)(J:n≤1000000000):∃r,qL a n r∧0≤r∧r<n:=by
 have h1:=Int.lt_tmod_of_pos a G;have h2:=Int.tmod_lt_of_pos a G;by_cases h:Int.tmod a n<0
 ·exact⟨_,tU 0 _ _ _ ⟨by omega,λ_=>⟨by omega,rfl⟩,λh'=>absurd h h'⟩,by omega,by omega⟩
 ·exact⟨_,tU 0 _ _ _ ⟨by omega,λh'=>absurd h' h,λ_=>rfl⟩,by omega,by omega⟩
variable{L:List Int}
theorem iv{n:Int}(O:Dc L a)(U:0<n)(G:n≤1000000000):∃r a',aP L a n r L a'∧(0≤r∧r<n)∧Dc L a':=by
 obtain⟨Z,h1,h2⟩:=O;by_cases h:(L.length:Int)≤a
 ·exact⟨0,a,pd 0 _ _ _ _ _ _ ⟨λ_=>⟨rfl,rfl,rfl⟩,λh'=>absurd h h'⟩,by omega,Z,h1,h2⟩
 ·obtain⟨x,hx,_⟩|h':=be L a.toNat
  ·obtain⟨r,hr,J⟩:=Rv (a:=x) U G;exact⟨r,a+1,pd 0 _ _ _ _ _ _ ⟨λh'=>absurd h' h,λ_=>⟨by omega,by omega,a.toNat,by omega,x,hx,r,hr,rfl,rfl,rfl⟩⟩,J,by omega,by omega,h2⟩
  ·omega
theorem lZ(G:Dc L a)(l:List (List UInt8))(U:0<l.length)(J:l.length≤1000000000):∃s a',bH L a l s L a'∧s∈l∧Dc L a':=by
 obtain⟨r,a',h1,h2,O⟩:=iv G (n:=(l.length:Int)) (by omega) (by omega);obtain⟨x,hx,_⟩|h':=be l r.toNat
 ·exact⟨x,a',yQ 0 _ _ _ _ _ _ ⟨_,_,_,h1,r.toNat,by omega,x,hx,rfl,rfl,rfl⟩,List.mem_of_getElem? hx,O⟩
 ·omega
def Gt(L:List Int)(C:Tree→Int→Prop)(B:Nat):Prop:=∃t a',C t a'∧Dc L a'∧tbulk t≤B
theorem Gt.map{C C':Tree→Int→Prop}{B B':Nat}(h:Gt L C B)(hb:B≤B')(k:∀t a',C t a'→C' t a'):Gt L C' B':=by
 obtain⟨t,a',h1,h2,G⟩:=h;exact⟨t,a',k t a' h1,h2,by omega⟩
theorem kI{l:List (List UInt8)}{s:List UInt8}(h:s∈l)(G:l.all (λx=>decide (x.length≤5))=true):s.length≤5:=by
 have :=List.all_eq_true.1 G s h;simpa using this
theorem tb0(k:Int)(s:List UInt8):tbulk (.node k s [] [])=s.length+1:=by simp[tbulk,fp,kbulk]
theorem tb1(k:Int)(s:List UInt8)(t:Tree):tbulk (.node k s [] [t])=s.length+tbulk t+1:=by simp[tbulk,fp,kbulk]
theorem tb2(k:Int)(s:List UInt8)(t u:Tree):tbulk (.node k s [] [t,u])=s.length+tbulk t+tbulk u+1:=by simp[tbulk,fp,kbulk];omega
theorem tb3(k:Int)(s:List UInt8)(t u v:Tree):tbulk (.node k s [] [t,u,v])=s.length+tbulk t+tbulk u+tbulk v+1:=by simp[tbulk,fp,kbulk];omega
theorem tbK(k:Int)(s:List UInt8)(l:List Tree):tbulk (.node k s [] l)=s.length+kbulk l+1:=by simp[tbulk,fp]
theorem Jr:∀(d:Nat) {a:Int},Dc L a→d≤100→Gt L (λt a'=>dA L a d t L a') (6+d):=λd=>by
 induction d with
 | zero=>
  intro a hd _;obtain⟨r,a1,h1,h2,h3⟩:=iv hd (n:=7) (by omega) (by omega);have top:∀{t a'},iV 1 0 r L a1 false t L a'→r≠0→r≠1→dA L a 0 t L a':=λh n0 n1=>lB 1 _ _ _ _ _ _ ⟨_,_,_,h1,λe=>absurd e n0,λ_=>by rw[show(r==1)=false by simpa using n1];exact h⟩;by_cases e0:r=0∨r=1
  ·refine⟨_,a1,lB 1 _ _ _ _ _ _ ⟨_,_,_,h1,λe=>bN 0 _ _ _ _ _ _ _ _ ⟨λ_=>⟨rfl,rfl,rfl⟩,λh=>nomatch h⟩,λe=>bN 0 _ _ _ _ _ _ _ _ ⟨λ_=>⟨rfl,rfl,rfl⟩,λh=>?_⟩⟩,h3,by rw[tb0];simp only[List.length_nil];omega⟩;rcases e0 with e0|e0
   ·exact absurd e0 e
   ·rw[e0]at h;cases h
  ·by_cases e2:r=2
   ·exact⟨_,a1,top (bN 0 _ _ _ _ _ _ _ _ ⟨λh=>(nomatch h),λ_=>⟨λ_=>⟨rfl,rfl,rfl⟩,λh=>absurd e2 h⟩⟩) (by omega) (by omega),h3,by rw[tb0];simp only[List.length_nil];omega⟩
   ·by_cases e3:r=3
    ·exact⟨_,a1,top (bN 0 _ _ _ _ _ _ _ _ ⟨λh=>(nomatch h),λ_=>⟨λh=>absurd h e2,λ_=>⟨λ_=>⟨rfl,rfl,rfl⟩,λh=>absurd e3 h⟩⟩⟩) (by omega) (by omega),h3,by rw[tb0];simp only[List.length_nil];omega⟩
    ·by_cases e4:r=4
     ·obtain⟨s,a2,g1,g2,g3⟩:=lZ h3 [[84],[85],[65,46,84],[66,46,85]] (by decide) (by decide);have :=kI g2 (by decide);exact⟨_,a2,top (bN 0 _ _ _ _ _ _ _ _ ⟨λh=>(nomatch h),λ_=>⟨λh=>absurd h e2,λ_=>⟨λh=>absurd h e3,λ_=>⟨λ_=>⟨_,_,_,g1,rfl,rfl,rfl⟩,λh=>absurd e4 h⟩⟩⟩⟩) (by omega) (by omega),g3,by rw[tb0];omega⟩
     ·exact⟨_,a1,top (bN 0 _ _ _ _ _ _ _ _ ⟨λh=>(nomatch h),λ_=>⟨λh=>absurd h e2,λ_=>⟨λh=>absurd h e3,λ_=>⟨λh=>absurd h e4,λ_=>⟨λ_=>⟨rfl,rfl,rfl⟩,λh=>by omega⟩⟩⟩⟩⟩) (by omega) (by omega),h3,by rw[tb0];simp only[List.length_nil];omega⟩
 | succ d ih=>
  intro a hd hd100;obtain⟨r,a1,h1,h2,h3⟩:=iv hd (n:=7) (by omega) (by omega);have top:∀{t a'},iV 1 ((d+1:Nat):Int) r L a1 false t L a'→r≠0→r≠1→dA L a ((d+1:Nat):Int) t L a':=λh n0 n1=>lB 1 _ _ _ _ _ _ ⟨_,_,_,h1,λe=>absurd e n0,λ_=>by rw[show(r==1)=false by simpa using n1];exact h⟩;by_cases e0:r=0∨r=1
  ·refine⟨_,a1,lB 1 _ _ _ _ _ _ ⟨_,_,_,h1,λe=>bN 0 _ _ _ _ _ _ _ _ ⟨λ_=>⟨rfl,rfl,rfl⟩,λh=>nomatch h⟩,λe=>bN 0 _ _ _ _ _ _ _ _ ⟨λ_=>⟨rfl,rfl,rfl⟩,λh=>?_⟩⟩,h3,by rw[tb0];simp only[List.length_nil];omega⟩;rcases e0 with e0|e0
   ·exact absurd e0 e
   ·rw[e0]at h;cases h
  ·by_cases e2:r=2
   ·exact⟨_,a1,top (bN 0 _ _ _ _ _ _ _ _ ⟨λh=>(nomatch h),λ_=>⟨λ_=>⟨rfl,rfl,rfl⟩,λh=>absurd e2 h⟩⟩) (by omega) (by omega),h3,by rw[tb0];simp only[List.length_nil];omega⟩
   ·by_cases e3:r=3
    ·exact⟨_,a1,top (bN 0 _ _ _ _ _ _ _ _ ⟨λh=>(nomatch h),λ_=>⟨λh=>absurd h e2,λ_=>⟨λ_=>⟨rfl,rfl,rfl⟩,λh=>absurd e3 h⟩⟩⟩) (by omega) (by omega),h3,by rw[tb0];simp only[List.length_nil];omega⟩
    ·by_cases e4:r=4
     ·obtain⟨s,a2,g1,g2,g3⟩:=lZ h3 [[84],[85],[65,46,84],[66,46,85]] (by decide) (by decide);have :=kI g2 (by decide);exact⟨_,a2,top (bN 0 _ _ _ _ _ _ _ _ ⟨λh=>(nomatch h),λ_=>⟨λh=>absurd h e2,λ_=>⟨λh=>absurd h e3,λ_=>⟨λ_=>⟨_,_,_,g1,rfl,rfl,rfl⟩,λh=>absurd e4 h⟩⟩⟩⟩) (by omega) (by omega),g3,by rw[tb0];omega⟩
     ·obtain⟨t,a2,g1,g2,g3⟩:=ih h3 (by omega);have g1':dA L a1 (((d+1:Nat):Int)-1) t L a2:=by rw[show((d+1:Nat):Int)-1=(d:Int) by omega];exact g1
      exact⟨_,a2,top (bN 0 _ _ _ _ _ _ _ _ ⟨λh=>(nomatch h),λ_=>⟨λh=>absurd h e2,λ_=>⟨λh=>absurd h e3,λ_=>⟨λh=>absurd h e4,λ_=>⟨λh=>by omega,λ_=>⟨by omega,_,_,_,g1',rfl,rfl,rfl⟩⟩⟩⟩⟩⟩) (by omega) (by omega),g2,by rw[tb1];simp only[List.length_nil];omega⟩
def eB:Nat→Nat
 |0=>6
 |d+1=>3*eB d+20
section
variable{L:List Int}{d a z:Int}{t:Tree}{a':Int}{m:Nat}
theorem up2(G:z≠0)(h1:z≠1)(h:kK m d L a z t L a'):dw (m+2) d L a z t L a':=
 rL0_semvcsmake_Expr (m+1) _ _ _ _ _ _ _ ⟨λe=>absurd e G,λ_=>nE m _ _ _ _ _ _ _ _ ⟨λe=>absurd (eq_of_beq e) h1,λ_=>h⟩⟩
theorem up6(h2:z≠2)(G:z≠3)(J:z≠4)(O:z≠5)(h:kO m d L a z t L a'):kK (m+4) d L a z t L a':=
 rL2_semvcsmake_Expr (m+3) _ _ _ _ _ _ _ ⟨λe=>absurd e h2,λ_=>gQ (m+2) _ _ _ _ _ _ _ ⟨λe=>absurd e G,λ_=>jO (m+1) _ _ _ _ _ _ _ ⟨λe=>absurd e J,λ_=>nF m _ _ _ _ _ _ _ ⟨λe=>absurd e O,λ_=>h⟩⟩⟩⟩
theorem up9(G:z≠6)(J:z≠7)(h:il m d L a z t L a'):kO (m+2) d L a z t L a':=
 rL6_semvcsmake_Expr (m+1) _ _ _ _ _ _ _ ⟨λe=>absurd e G,λ_=>nu m _ _ _ _ _ _ _ _ ⟨λe=>absurd (eq_of_beq e) J,λ_=>h⟩⟩
theorem Rd(G:z≠8)(h:jQ m d L a z t L a'):il (m+1) d L a z t L a':=so m _ _ _ _ _ _ _ ⟨λe=>absurd e G,λ_=>h⟩
theorem Sn(G:z≠9)(h:gN m d L a z t L a'):jQ (m+1) d L a z t L a':=rJ m _ _ _ _ _ _ _ ⟨λe=>absurd e G,λ_=>h⟩
theorem SQ(G:z≠10)(J:z≠11)(h:jV m d L a z t L a'):gN (m+2) d L a z t L a':=
 rL14_semvcsmake_Expr (m+1) _ _ _ _ _ _ _ ⟨λe=>absurd e G,λ_=>mC m _ _ _ _ _ _ _ _ ⟨λe=>absurd (eq_of_beq e) J,λ_=>h⟩⟩
end
theorem Bw{d z:Int}(M:Nat)(Z:Dc L a)(h0:0≤z)(h5:z≤5):Gt L (λt a'=>dw (M+8) d L a z t L a') 6:=by
 by_cases e0:z=0∨z=1
 ·obtain⟨s,J,G,U,O⟩:=lZ Z [[120],[121],[122]] (by decide) (by decide);have :=kI U (by decide);refine⟨_,J,rL0_semvcsmake_Expr (M+7) _ _ _ _ _ _ _ ⟨λe=>nE (M+6) _ _ _ _ _ _ _ _ ⟨λ_=>⟨_,_,_,G,rfl,rfl,rfl⟩,λh=>nomatch h⟩,λe=>nE (M+6) _ _ _ _ _ _ _ _ ⟨λ_=>⟨_,_,_,G,rfl,rfl,rfl⟩,λh=>?_⟩⟩,O,by rw[tb0];omega⟩;rcases e0 with e0|e0
  ·exact absurd e0 e
  ·rw[e0]at h;exact absurd h (by decide)
 have n0:z≠0:=by omega
 have n1:z≠1:=by omega
 by_cases e2:z=2
 ·obtain⟨s,J,G,U,O⟩:=lZ Z [[48],[49],[50],[49,48]] (by decide) (by decide);have :=kI U (by decide);exact⟨_,J,up2 n0 n1 (rL2_semvcsmake_Expr (M+5) _ _ _ _ _ _ _ ⟨λ_=>⟨_,_,_,G,rfl,rfl,rfl⟩,λh=>absurd e2 h⟩),O,by rw[tb0];omega⟩
 by_cases e3:z=3
 ·obtain⟨s,J,G,U,O⟩:=lZ Z [[34,34],[34,97,34],[34,35,32,98,34]] (by decide) (by decide);have :=kI U (by decide);exact⟨_,J,up2 n0 n1 (rL2_semvcsmake_Expr (M+5) _ _ _ _ _ _ _ ⟨λh=>absurd h e2,λ_=>gQ (M+4) _ _ _ _ _ _ _ ⟨λ_=>⟨_,_,_,G,rfl,rfl,rfl⟩,λh=>absurd e3 h⟩⟩),O,by rw[tb0];omega⟩
 by_cases e4:z=4
 ·obtain⟨r,J,G,U,O⟩:=iv Z (n:=2) (by omega) (by omega);exact⟨_,J,up2 n0 n1 (rL2_semvcsmake_Expr (M+5) _ _ _ _ _ _ _ ⟨λh=>absurd h e2,λ_=>gQ (M+4) _ _ _ _ _ _ _ ⟨λh=>absurd h e3,λ_=>jO (M+3) _ _ _ _ _ _ _ ⟨λ_=>⟨_,_,_,G,by omega,rfl,rfl,rfl⟩,λh=>absurd e4 h⟩⟩⟩),O,by rw[tb0];simp only[List.length_nil];omega⟩
 have e5:z=5:=by omega
 obtain⟨r,J,G,U,O⟩:=iv Z (n:=3) (by omega) (by omega);by_cases er:r=0
 ·exact⟨_,J,up2 n0 n1 (rL2_semvcsmake_Expr (M+5) _ _ _ _ _ _ _ ⟨λh=>absurd h e2,λ_=>gQ (M+4) _ _ _ _ _ _ _ ⟨λh=>absurd h e3,λ_=>jO (M+3) _ _ _ _ _ _ _ ⟨λh=>absurd h e4,λ_=>nF (M+2) _ _ _ _ _ _ _ ⟨λ_=>⟨_,_,_,G,λ_=>⟨rfl,rfl,rfl⟩,λh=>absurd er h⟩,λh=>absurd e5 h⟩⟩⟩⟩),O,by rw[tb0];simp only[List.length_nil];omega⟩
 ·exact⟨_,J,up2 n0 n1 (rL2_semvcsmake_Expr (M+5) _ _ _ _ _ _ _ ⟨λh=>absurd h e2,λ_=>gQ (M+4) _ _ _ _ _ _ _ ⟨λh=>absurd h e3,λ_=>jO (M+3) _ _ _ _ _ _ _ ⟨λh=>absurd h e4,λ_=>nF (M+2) _ _ _ _ _ _ _ ⟨λ_=>⟨_,_,_,G,λh=>absurd h er,λ_=>⟨rfl,rfl,rfl⟩⟩,λh=>absurd e5 h⟩⟩⟩⟩),O,by rw[tb0];simp⟩
theorem Ia(U:Dc L a):Gt L (λt a'=>aY L a 0 t L a') 6:=by
 obtain⟨r,a1,h1,h2,G⟩:=iv U (n:=14) (by omega) (by omega);by_cases J:5<r
 ·by_cases O:5<r-6
  ·exact(Bw 0 (d:=0) G (z:=0) (by omega) (by omega)).map (Nat.le_refl _) λt a' h=>kD 8 _ _ _ _ _ _ ⟨_,_,_,h1,λ_=>⟨λ_=>⟨by omega,λ_=>h,λh'=>absurd O h'⟩,λh'=>absurd J h'⟩,λh'=>by omega⟩
  ·exact(Bw 0 (d:=0) G (z:=r-6) (by omega) (by omega)).map (Nat.le_refl _) λt a' h=>kD 8 _ _ _ _ _ _ ⟨_,_,_,h1,λ_=>⟨λ_=>⟨by omega,λh'=>absurd h' O,λ_=>h⟩,λh'=>absurd J h'⟩,λh'=>by omega⟩
 ·exact(Bw 0 (d:=0) G (z:=r) (by omega) (by omega)).map (Nat.le_refl _) λt a' h=>kD 8 _ _ _ _ _ _ ⟨_,_,_,h1,λ_=>⟨λh'=>absurd h' J,λ_=>h⟩,λh'=>by omega⟩
theorem Bp{k:Int}{B:Nat}(h:Gt L (λt a'=>aY L a k t L a') B):Gt L (λt a'=>gp L a k t L a') (B+1):=by
 obtain⟨t,G,J,O,Z⟩:=h;cases U:yp t.kind with
 |true=>exact⟨t,G,tm 0 _ _ _ _ _ _ ⟨_,_,_,J,_,ze _,λh=>absurd (U.symm.trans h) (by decide),λ_=>⟨rfl,rfl,rfl⟩⟩,O,by omega⟩
 |false=>exact⟨_,G,tm 0 _ _ _ _ _ _ ⟨_,_,_,J,_,ze _,λ_=>⟨rfl,rfl,rfl⟩,λh=>absurd (U.symm.trans h) (by decide)⟩,O,by rw[tb1];simp only[List.length_nil];omega⟩
theorem Kr:∀d,6≤eB d
 |0=>Nat.le_refl _
 |d+1=>by have :=Kr d;simp only[eB];omega
theorem Qb:∀(d:Nat) {a:Int},Dc L a→d≤5→Gt L (λt a'=>aY L a d t L a') (eB d):=λd=>by
 induction d with
 |zero=>intro a hd _;exact Ia hd
 | succ d ih=>
  intro a hd hd5;obtain⟨z,a1,h1,h2,h3⟩:=iv hd (n:=14) (by omega) (by omega);have top:∀{M t a'},dw M ((d+1:Nat):Int) L a1 z t L a'→aY L a ((d+1:Nat):Int) t L a':=λ{M} {t} {a'} h=>kD M _ _ _ _ _ _ ⟨_,_,_,h1,λh'=>by omega,λ_=>h⟩;have sub:∀{a},Dc L a→Gt L (λt a'=>aY L a (((d+1:Nat):Int)-1) t L a') (eB d):=λ{a} h=>by rw[show((d+1:Nat):Int)-1=(d:Int) by omega];exact ih h (by omega)
  have hB:eB (d+1)=3*eB d+20:=rfl;have hp:=Kr d;by_cases c5:z≤5
  ·exact(Bw 0 (d:=((d+1:Nat):Int)) h3 (by omega) c5).map (by omega) λt a' h=>top h
  have n0:z≠0:=by omega
  have n1:z≠1:=by omega
  have n2:z≠2:=by omega
  have n3:z≠3:=by omega
  have n4:z≠4:=by omega
  have n5:z≠5:=by omega
  by_cases c7:z≤7
  ·
   obtain⟨s,a2,g1,g2,g3⟩:=lZ h3 [[102],[103],[104],[65,46,102],[66,46,103],[65,46,104]] (by decide) (by decide);have hs:=kI g2 (by decide);obtain⟨n,a3,g4,g5,g6⟩:=iv g3 (n:=4) (by omega) (by omega);have loop:∀(k:Nat) (a:Int) (l:List Tree),Dc L a→l.length+k≤100→Gt L (λt a'=>jU (k+1) ((d+1:Nat):Int) s L a l (k:Int) t L a') (s.length+1+kbulk l+k*(eB d+1)):=λk=>by
    induction k with
    |zero=>intro a l hd hl;exact⟨_,a,rz 0 _ _ _ _ _ _ _ _ _ ⟨λh=>by omega,λ_=>⟨rfl,rfl,rfl⟩⟩,hd,by rw[tbK];omega⟩
    |succ k ihk=>
     intro a l hd hl;obtain⟨t,b,q1,q2,q3⟩:=sub hd;refine(ihk b (l++[.node 17 [] [] [t]]) q2 (by simp;omega)).map ?_ λt' a' h=>rz (k+1) _ _ _ _ _ _ _ _ _ ⟨λ_=>⟨by omega,_,_,_,q1,by simp;omega,by omega,by rw[show((k+1:Nat):Int)-1=(k:Int) by omega];exact h⟩,λh=>by omega⟩;rw[ik,Nat.succ_mul];simp only[kbulk,tb1,List.length_nil];omega
   refine(loop n.toNat a3 [] g6 (by simp;omega)).map (by
    have :n.toNat*(eB d+1)≤3*(eB d+1):=Nat.mul_le_mul_right _ (by omega);simp only[kbulk];omega) λt a' h=>?_
   have h8:oL (n.toNat+2) ((d+1:Nat):Int) L a1 t L a':=yB (n.toNat+1) _ _ _ _ _ _ ⟨_,_,_,g1,_,_,_,g4,by rw[show n=((n.toNat:Nat):Int) by omega];exact h⟩;refine top (up2 n0 n1 (up6 n2 n3 n4 n5 (rL6_semvcsmake_Expr (n.toNat+3) _ _ _ _ _ _ _ ⟨λ_=>nu (n.toNat+2) _ _ _ _ _ _ _ _ ⟨λ_=>h8,λh=>nomatch h⟩,λh=>nu (n.toNat+2) _ _ _ _ _ _ _ _ ⟨λ_=>h8,λh'=>?_⟩⟩)));have :z≠7:=by simpa using h'
   omega
  have n6:z≠6:=by omega
  have n7:z≠7:=by omega
  have t9:∀{M t a'},il M ((d+1:Nat):Int) L a1 z t L a'→aY L a ((d+1:Nat):Int) t L a':=λh=>top (up2 n0 n1 (up6 n2 n3 n4 n5 (up9 n6 n7 h)));by_cases c8:z=8
  ·
   obtain⟨n,a3,g4,g5,g6⟩:=iv h3 (n:=3) (by omega) (by omega);have loop:∀(k:Nat) (a:Int) (l:List Tree),Dc L a→l.length+k≤100→Gt L (λt a'=>jN (k+1) ((d+1:Nat):Int) L a l (k:Int) t L a') (1+kbulk l+k*(eB d)):=λk=>by
    induction k with
    |zero=>intro a l hd hl;exact⟨_,a,rk 0 _ _ _ _ _ _ _ _ ⟨λh=>by omega,λ_=>⟨rfl,rfl,rfl⟩⟩,hd,by rw[tbK];simp only[List.length_nil];omega⟩
    |succ k ihk=>
     intro a l hd hl;obtain⟨t,b,q1,q2,q3⟩:=sub hd;refine(ihk b (l++[t]) q2 (by simp;omega)).map ?_ λt' a' h=>rk (k+1) _ _ _ _ _ _ _ _ ⟨λ_=>⟨by omega,_,_,_,q1,by simp;omega,by omega,by rw[show((k+1:Nat):Int)-1=(k:Int) by omega];exact h⟩,λh=>by omega⟩;rw[ik,Nat.succ_mul];simp only[kbulk];omega
   exact(loop (1+n).toNat a3 [] g6 (by simp;omega)).map (by
    have :(1+n).toNat*eB d≤3*eB d:=Nat.mul_le_mul_right _ (by omega);simp only[kbulk];omega) λt a' h=>t9 (so ((1+n).toNat+1) _ _ _ _ _ _ _ ⟨λ_=>⟨_,_,_,g4,by omega,by rw[show(((1+n).toNat:Nat):Int)=1+n by omega]at h;exact h⟩,λh'=>absurd c8 h'⟩)
  by_cases c9:z=9
  ·obtain⟨t1,b1,q1,r1,s1⟩:=sub h3;obtain⟨t2,b2,q2,r2,s2⟩:=sub r1;obtain⟨t3,b3,q3,r3,s3⟩:=sub r2;exact⟨_,b3,t9 (Rd c8 (rJ 1 _ _ _ _ _ _ _ ⟨λ_=>xY 0 _ _ _ _ _ _ ⟨by omega,_,_,_,q1,by omega,_,_,_,q2,by omega,_,_,_,q3,rfl,rfl,rfl⟩,λh=>absurd c9 h⟩)),r3,by rw[tb3];simp only[List.length_nil];omega⟩
  have t14:∀{M t a'},gN M ((d+1:Nat):Int) L a1 z t L a'→aY L a ((d+1:Nat):Int) t L a':=λh=>t9 (Rd c8 (Sn c9 h));by_cases c11:z≤11
  ·obtain⟨s,b0,g1,g2,g3⟩:=lZ h3 [[120],[121],[122]] (by decide) (by decide);have hs:=kI g2 (by decide);obtain⟨t1,b1,q1,r1,s1⟩:=sub g3;obtain⟨t2,b2,q2,r2,s2⟩:=sub r1;refine⟨.node 20 s [] [t1,t2],b2,?_,r2,by rw[tb2];omega⟩;have h16:nH 1 ((d+1:Nat):Int) L a1 (.node 20 s [] [t1,t2]) L b2:=yu 0 _ _ _ _ _ _ ⟨_,_,_,g1,by omega,_,_,_,q1,by omega,_,_,_,q2,rfl,rfl,rfl⟩;refine t14 (rL14_semvcsmake_Expr 2 _ _ _ _ _ _ _ ⟨λ_=>mC 1 _ _ _ _ _ _ _ _ ⟨λ_=>h16,λh=>nomatch h⟩,λh=>mC 1 _ _ _ _ _ _ _ _ ⟨λ_=>h16,λh'=>?_⟩⟩);have :z≠11:=by simpa using h'
   omega
  have t17:∀{M t a'},jV M ((d+1:Nat):Int) L a1 z t L a'→aY L a ((d+1:Nat):Int) t L a':=λh=>t14 (SQ (by omega) (by omega) h);by_cases c12:z=12
  ·obtain⟨s,b0,g1,g2,g3⟩:=lZ h3 [[43],[45],[42],[60],[61,61]] (by decide) (by decide);have hs:=kI g2 (by decide);obtain⟨t1,b1,q1,r1,s1⟩:=Bp (sub g3);obtain⟨n,b2,q2,q3,q4⟩:=iv r1 (n:=3) (by omega) (by omega);by_cases hn:n=0
   ·obtain⟨s',b3,g4,g5,g6⟩:=lZ q4 [[43],[42]] (by decide) (by decide);have hs':=kI g5 (by decide);obtain⟨t2,b4,q5,r5,s5⟩:=Bp (Ia g6);obtain⟨t3,b5,q6,r6,s6⟩:=Bp (sub r5);exact⟨_,b5,t17 (mA 1 _ _ _ _ _ _ _ ⟨λ_=>rE 0 _ _ _ _ _ _ ⟨_,_,_,g1,by omega,_,_,_,q1,_,_,_,q2,λ_=>⟨_,_,_,g4,_,_,_,q5,by omega,_,_,_,q6,rfl,rfl,rfl⟩,λh=>absurd hn h⟩,λh=>absurd c12 h⟩),r6,by rw[tb2,tb2];omega⟩
   ·obtain⟨t3,b5,q6,r6,s6⟩:=Bp (sub q4);exact⟨_,b5,t17 (mA 1 _ _ _ _ _ _ _ ⟨λ_=>rE 0 _ _ _ _ _ _ ⟨_,_,_,g1,by omega,_,_,_,q1,_,_,_,q2,λh=>absurd h hn,λ_=>⟨by omega,_,_,_,q6,rfl,rfl,rfl⟩⟩,λh=>absurd c12 h⟩),r6,by rw[tb2];omega⟩
  ·obtain⟨t1,b1,q1,r1,s1⟩:=sub h3;exact⟨_,b1,t17 (mA 1 _ _ _ _ _ _ _ ⟨λh=>absurd h c12,λ_=>⟨by omega,_,_,_,q1,rfl,rfl,rfl⟩⟩),r1,by rw[tb1];simp only[List.length_nil];omega⟩
open Go.RowKit Lx
def mw:Bool→List UInt8→Bool
 |c,[]=>c
 |c,x::r=>mw (if x.toNat=10 then false else if x.toNat=35 then true else c) r
theorem rU:∀(b:Bool) (l:List UInt8) (n m:Nat),aW b l (n+m)=((aW b l n).1+m,(aW b l n).2.map (·+m))
 |b,[],n,m=>by cases b<;>simp[aW]
 | false,c::r,n,m=>by
  have h1:=rU false r (n+1) m;have h2:=rU true r (n+1) m;unfold aW;split
  ·rw[←h1];congr 1;omega
  ·split
   ·rw[←h2];congr 1;omega
   ·simp
 | true,c::r,n,m=>by
  have h1:=rU false r (n+1) m;have h2:=rU true r (n+1) m;unfold aW;split
  ·rw[←h1];congr 1;omega
  ·split
   ·simp
   ·rw[←h2];congr 1;omega
def mU(c:Bool)(l:List UInt8):Bool:=(aW c l 0).2.isNone&&(aW c l 0).1==l.length
theorem sW{c d:Bool}{x:UInt8}{r:List UInt8}(h:aW c (x::r) 0=aW d r 1):mU c (x::r)=mU d r:=by
 unfold mU;rw[h,show(1:Nat)=0+1 from rfl,rU];simp
theorem By:∀(l:List UInt8) (c fin:Bool),kp c l fin=(mU c l&&(!mw c l||fin))
 |[],c,fin=>by cases c<;>cases fin<;>rfl
 | x ::r,c,fin=>by
  have ih:=By r;unfold kp mw;cases c with
  | true=>
   by_cases ha:bk x=false
   ·have h10:¬x.toNat=10:=λh=>by simp[bk,cN,h]at ha
    have :mU true (x::r)=false:=by simp[mU,aW,h10,ha]
    rw[if_pos ha,this];rfl
   ·have ha':bk x=true:=by simpa using ha
    rw[if_neg ha,if_pos rfl,ih];by_cases h10:x.toNat=10
    ·rw[sW (d:=false) (by simp[aW,h10])];simp[h10]
    ·have hb:(x.toNat==10)=false:=by simpa using h10
     rw[sW (d:=true) (by simp[aW,h10,ha']),hb];simp[h10]
  | false=>
   by_cases ha:bk x=false
   ·have hw:cN x=false:=by cases h:cN x<;>simp_all[bk]
    have h35:¬x.toNat=35:=λh=>by simp[bk,fk,h]at ha
    have :mU false (x::r)=false:=by simp[mU,aW,hw,h35]
    rw[if_pos ha,this];rfl
   ·rw[if_neg ha,if_neg (by simp)];by_cases h35:x.toNat=35
    ·have hw:cN x=false:=by simp[cN,h35]
     rw[if_pos h35,ih,sW (d:=true) (by simp[aW,h35,hw])];simp[h35]
    ·rw[if_neg h35];by_cases hw:cN x=false
     ·have :mU false (x::r)=false:=by simp[mU,aW,hw,h35]
      rw[if_pos hw,this];rfl
     ·have hw':cN x=true:=by simpa using hw
      rw[if_neg hw,ih,sW (d:=false) (by simp[aW,hw'])];by_cases h10:x.toNat=10<;>simp[h10,h35]
theorem DC{x:UInt8}{c:Bool}(h:k<l.length)(G:l[k]=x):mw c (l.drop k)=mw (if x.toNat=10 then false else if x.toNat=35 then true else c) (l.drop (k+1)):=by
 rw[List.drop_eq_getElem_cons h,G];rfl
theorem DW{c:Bool}(h:l.length≤k):mw c (l.drop k)=c:=by
 rw[List.drop_of_length_le h];rfl
set_option maxHeartbeats 1000000 in
theorem OJ (l:List UInt8) (fin:Bool) (w:World) (hl:l.length≤281474976710656):Calls prog 152 #[.string ⟨l.toArray⟩,.bool fin] w λe w'=>e=.returned (.bool (kp false l fin))∧w=w':=by
  obtain⟨n,b,hLd⟩:∃n b,aW false l 0=(n,b):=⟨_,_,rfl⟩;have hnl:n≤l.length:=by have h:=sy false l 0;rw[hLd]at h;simpa using h
  have HLd:=Lib.hid hLd;have HW:=Lib.hid (show mU false l=(b.isNone&&n==l.length)from by rw[mU,hLd]);have HT:=Lib.hid (By l false fin);clear hLd
  go_enter func152,ntmps152
  go_wp2_with fail
  refine(Nx l 0 0 rfl _ (Nat.zero_le _) hl).mono ?_;rintro e w' ⟨rfl,rfl⟩;rw[List.drop_zero,HLd.out];cases b with
  | some q=>
    have hq2:Ao 0 (some q)=((0+q:Nat):Int):=rfl;rw[hq2,Nat.zero_add];have hq:(0:Int)≤(q:Int):=by omega
    have HF:=Lib.hid (show kp false l fin=false from by rw[HT.out,HW.out];rfl)
    go_wp2
    go_ret
    exact⟨ca HF.out.symm,rfl⟩
  | none=>
    have hq2:Ao 0 none=-1:=rfl;rw[hq2];clear hq2;by_cases hn:n<l.length
    · have HF := Lib.hid (show kp      false l fin = false from by rw[HT.out,HW.out];have :(n==l.length)=false:=by simp;omega
                                                                   rw[this];rfl)
      go_wp2
      go_ret
      exact⟨ca HF.out.symm,rfl⟩
    · have hnb:decide (n<l.length)=false:=by simpa using hn
      have HF:=Lib.hid (show kp false l fin=(!mw false l||fin)from by
        rw[HT.out,HW.out];have :(n==l.length)=true:=by simp;omega
        rw[this];rfl)
      cases fin with
      | true=>
        go_wp2
        go_ret
        exact⟨ca (by rw[HF.out];simp),rfl⟩
      | false=>
        obtain⟨r,hr⟩:∃r,mw false l=r:=⟨_,rfl⟩;have HR:=Lib.hid hr;clear hr
        go_wp2
        go_loopg [7,8] l.length (λg s7 s8 wx=>∃(i:Nat) (c:Bool),g=l.length-i∧wx=w∧i≤l.length∧s7=.bool c∧s8=.int .i64 i∧Hid (mw c (l.drop i)=r))
        case atStart=>exact⟨0,false,rfl,rfl,Nat.zero_le _,rfl,rfl,Lib.hid (by simpa using HR.out)⟩
        case round=>
          obtain⟨i,c,rfl,rfl,hil,rfl,rfl,HC⟩:=hrel;by_cases hit:i<l.length
          rotate_left
          · have HF2:=Lib.hid (show c=r from by rw[←HC.out,DW (by omega)])
            go_wp2_with fail
            go_ret
            exact⟨ca (by rw[HF.out,HR.out,HF2.out];simp),rfl⟩
          obtain⟨x,hx⟩:∃c,({data:=l.toArray}:ByteArray)[i]'hit=c:=⟨_,rfl⟩;have HXi:=Lib.hid (show l[i]=x from hx);have HS:=Lib.hid (HC.out.symm.trans (DC hit HXi.out));clear HC;cases h35:((x.toNat:Int)==35)<;>cases h10:((x.toNat:Int)==10)
          · go_wp2
            go_roundg (l.length-(i+1))
            case measure=>omega
            case rel=>exact⟨i+1,c,rfl,rfl,by omega,rfl,by go_num,Lib.hid (by rw[HS.out,if_neg (cR (m:=10) h10),if_neg (cR (m:=35) h35)])⟩
          · go_wp2
            go_roundg (l.length-(i+1))
            case measure=>omega
            case rel=>exact⟨i+1,false,rfl,rfl,by omega,rfl,by go_num,Lib.hid (by rw[HS.out,if_pos (eL (m:=10) h10)])⟩
          · go_wp2
            go_roundg (l.length-(i+1))
            case measure=>omega
            case rel=>exact⟨i+1,true,rfl,rfl,by omega,rfl,by go_num,Lib.hid (by rw[HS.out,if_neg (cR (m:=10) h10),if_pos (eL (m:=35) h35)])⟩
          · have h1:=eL (m:=10) h10;have h2:=eL (m:=35) h35;omega
theorem LT(a b:List UInt8):(ByteArray.mk a.toArray)++(ByteArray.mk b.toArray)=⟨(a++b).toArray⟩:=by
 apply ByteArray.ext;simp
theorem CX{a b:List UInt8}(h:bJ a=0∨bJ b=0):fusesT a b=false:=by simp[fusesT,h]
theorem uX{a b:List UInt8}(h:¬(bJ a=0∨bJ b=0))(h2:¬((kg (a++b)).err=0∧(kg (a++b)).toks.length=2∧(kg (a++b)).tail=[])):fusesT a b=true:=by
 unfold fusesT;rw[if_neg h];simp only;rw[if_neg h2]
theorem Jz{a b:List UInt8}{G J:TokZ}(h:¬(bJ a=0∨bJ b=0))(h1:(kg (a++b)).err=0)(h2:(kg (a++b)).toks=[G,J])(O:(kg (a++b)).tail=[]):
  fusesT a b=!(G.lead==[]&&G.text==a&&J.lead==[]&&J.text==b):=by
 unfold fusesT;rw[if_neg h];simp only;rw[h1,h2,O];simp
theorem JW{b:Bool}(h:(l==[])=b):l.isEmpty=b:=by rw[←h];cases l<;>rfl
theorem Ee{l:List TokZ}(h:l.length=2):∃G J,l=[G,J]:=by
 match l,h with
 |[a,b],_=>exact⟨a,b,rfl⟩
set_option maxHeartbeats 2000000 in
theorem QA(a b:List UInt8)(w:World)(ha:a.length≤140737488355328)(hb:b.length≤140737488355328):Calls prog 114 #[.string ⟨a.toArray⟩,.string ⟨b.toArray⟩] w λe w'=>e=.returned (.bool (fusesT a b))∧Ext w w':=by
 have hx:=LT;obtain⟨ka,J⟩:∃k,bJ a=k:=⟨_,rfl⟩;obtain⟨kb,O⟩:∃k,bJ b=k:=⟨_,rfl⟩;have HKa:=Lib.hid J;have HKb:=Lib.hid O;clear J O
 go_enter func114,ntmps114
 go_wp2_with fail
 refine(Fx _ _ (by omega)).mono ?_;rintro e1 w1 ⟨rfl,U⟩;rw[HKa.out];have HX1:=Lib.hid U;clear U;by_cases h1:ka=0
 ·subst h1
  go_wp2_with fail
  go_ret
  exact⟨ca (CX (.inl HKa.out)).symm,HX1.out⟩
 have h1b:((ka:Int)==0)=false:=by simp;omega
 go_wp2_with fail
 refine(Fx _ _ (by omega)).mono ?_;rintro e2 w2 ⟨rfl,Z⟩;rw[HKb.out];have HX2:=Lib.hid (HX1.out.trans Z);clear Z;by_cases h2:kb=0
 ·subst h2
  go_wp2_with fail
  go_ret
  exact⟨ca (CX (.inr HKb.out)).symm,HX2.out⟩
 have h2b:((kb:Int)==0)=false:=by simp;omega
 have HN:=Lib.hid (show¬(bJ a=0∨bJ b=0)from by rw[HKa.out,HKb.out];omega);obtain⟨Rs,hRs⟩:∃Rs,kg (a++b)=Rs:=⟨_,rfl⟩;have HRs:=Lib.hid hRs;clear hRs
 go_wp2_with fail
 refine(RH _ _ (by simp;omega)).mono ?_;rintro e3 w3 ⟨v,rfl,htr,hx3⟩;rw[HRs.out]at htr⊢;obtain⟨A,c,rfl,hc1,hc2,G⟩:=htr;unfold maxLen at hc2;have HX3:=Lib.hid (HX2.out.trans hx3);clear hx3;have HRow:=Lib.hid G;clear G;obtain⟨toks,tail,place,er⟩:=Rs;simp only at HRow hc1 hc2⊢;by_cases h3:er=0
 rotate_left
 ·have h3b:((er:Int)!=0)=true:=by simp;omega
  have HF:=Lib.hid (uX HN.out (λh=>h3 (by rw[HRs.out]at h;exact h.1)))
  go_wp2_with fail
  go_ret
  exact⟨ca HF.out.symm,HX3.out⟩
 subst h3;by_cases h4:toks.length=2
 rotate_left
 ·have h4b:((toks.length:Int)!=2)=true:=by simp;omega
  have HF:=Lib.hid (uX HN.out (λh=>h4 (by rw[HRs.out]at h;exact h.2.1)))
  go_wp2_with fail
  go_ret
  exact⟨ca HF.out.symm,HX3.out⟩
 by_cases h5:tail=[]
 rotate_left
 ·have h5b:(tail==[])=false:=by simpa using h5
  have h5c:tail.isEmpty=false:=by simpa using h5
  obtain⟨t0,t1,rfl⟩:=Ee h4;have HF:=Lib.hid (uX HN.out (λh=>h5 (by rw[HRs.out]at h;exact h.2.2)));clear h5 h4
  go_wp2_with fail
  go_ret
  exact⟨ca HF.out.symm,HX3.out⟩
 subst h5;obtain⟨t0,t1,rfl⟩:=Ee h4;clear h4;obtain⟨b0,off,rfl,hb0,p0,p1,p2⟩:=Dl HRow.out (k:=0) (by simp);obtain⟨b0',off',heq,_,q0,q1,q2⟩:=Dl HRow.out (k:=1) (by simp);obtain⟨rfl,rfl⟩:b0=b0'∧off=off':=by simpa using heq
 clear heq;have HF:=Lib.hid (Jz HN.out (by rw[HRs.out]) (by rw[HRs.out]) (by rw[HRs.out]));simp only[Nat.zero_mul,Nat.one_mul,Nat.add_zero,List.getElem_cons_zero,List.getElem_cons_succ]at p0 p1 p2 q0 q1 q2;cases g1:(t0.text==a)
 ·skip
  go_wp2_with fail
  go_ret
  exact⟨ca (by rw[HF.out,g1];simp),HX3.out⟩
 cases g0:(t0.lead==[])
 ·skip
  have g0':t0.lead.isEmpty=false:=by simpa using g0
  go_wp2_with fail
  go_ret
  exact⟨ca (by rw[HF.out,g1,g0];simp),HX3.out⟩
 have g0':t0.lead.isEmpty=true:=by simpa using g0
 cases g3:(t1.text==b)
 ·skip
  go_wp2_with fail
  go_ret
  exact⟨ca (by rw[HF.out,g1,g0,g3];simp),HX3.out⟩
 cases g2:(t1.lead==[])
 all_goals
  have g2':=JW g2
  go_wp2_with fail
  go_ret
  exact⟨ca (by rw[HF.out,g1,g0,g3,g2];simp),HX3.out⟩
end Go.Proofs.YtomplbgchbfjpaaGreatDoor
