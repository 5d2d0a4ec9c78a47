/- Contracts of the functions that the law reaches, part 5. -/
import Derived.Test.YtojjjmkmkbnieaaGreatSr4
set_option linter.unusedVariables false
set_option linter.unusedSimpArgs false
namespace Go.Proofs.YtojjjmkmkbnieaaGreat
open _root_.Go.Proofs.Tryz
open Go.RowKit Lx Sx
set_option maxHeartbeats 1000000
def Dc(L:List Int)(a:Int):Prop:=0≤a∧a≤L.length∧L.length≤1000000000
variable{a:Int}
theorem CE{n:Int}(q:0<n)(E:n≤1000000000):∃r,hW a n r∧0≤r∧r<n:=by
 have h1:=Int.lt_tmod_of_pos a q;have h2:=Int.tmod_lt_of_pos a q;by_cases h:Int.tmod a n<0
 ·exact⟨_,ml 0 _ _ _ ⟨by omega,λ_=>⟨by omega,rfl⟩,λh'=>absurd h h'⟩,by omega,by omega⟩
 ·exact⟨_,ml 0 _ _ _ ⟨by omega,λh'=>absurd h' h,λ_=>rfl⟩,by omega,by omega⟩
variable{L:List Int}
theorem dQ{n:Int}(hd:Dc L a)(G:0<n)(q:n≤1000000000):∃r a',ay L a n r L a'∧(0≤r∧r<n)∧Dc L a':=by
 obtain⟨J,h1,h2⟩:=hd;by_cases h:(L.length:Int)≤a
 ·exact⟨0,a,jg 0 _ _ _ _ _ _ ⟨λ_=>⟨rfl,rfl,rfl⟩,λh'=>absurd h h'⟩,by omega,J,h1,h2⟩
 ·obtain⟨x,hx,_⟩|h':=aB L a.toNat
  ·obtain⟨r,hr,E⟩:=CE (a:=x) G q;exact⟨r,a+1,jg 0 _ _ _ _ _ _ ⟨λh'=>absurd h' h,λ_=>⟨by omega,by omega,a.toNat,by omega,x,hx,r,hr,rfl,rfl,rfl⟩⟩,E,by omega,by omega,h2⟩
  ·omega
theorem gD(hd:Dc L a)(l:List (List UInt8))(G:0<l.length)(q:l.length≤1000000000):∃s a',aM L a l s L a'∧s∈l∧Dc L a':=by
 obtain⟨r,a',h1,h2,E⟩:=dQ hd (n:=(l.length:Int)) (by omega) (by omega);obtain⟨x,hx,_⟩|h':=aB l r.toNat
 ·exact⟨x,a',pP 0 _ _ _ _ _ _ ⟨_,_,_,h1,r.toNat,by omega,x,hx,rfl,rfl,rfl⟩,List.mem_of_getElem? hx,E⟩
 ·omega
def tl(s:List UInt8):Nat:=s.length+if s=[113]then 10000000 else 0
theorem em:tl []=0:=rfl
theorem CT(s:List UInt8):s.length≤tl s:=Nat.le_add_right _ _
theorem GI{s:List UInt8}(h:tl s<10000000):s≠[113]:=λe=>by subst e;exact absurd h (by decide)
mutual
def wb:Tree→Nat
 |.node _ s l ks=>tl s+cI l+wk ks+1
def wk:List Tree→Nat
 |[]=>0
 |t::r=>wb t+wk r
end
theorem oY(t:Tree):wb t=tl t.text+cI t.leads+wk t.kids+1:=by cases t;simp only[wb,Tree.text,Tree.leads,Tree.kids]
theorem AH(t:Tree):0<wb t:=by rw[oY];omega
mutual
theorem tb_le:∀t:Tree,tbulk t≤wb t
 |.node _ s l ks=>by have :=CT s;have :=kb_le ks;simp only[tbulk,wb];omega
theorem kb_le:∀l:List Tree,kbulk l≤wk l
 |[]=>Nat.le_refl _
 |t::r=>by have :=tb_le t;have :=kb_le r;simp only[kbulk,wk];omega
end
theorem sm:∀{ks:List Tree} {i:Nat} {t:Tree},ks[i]?=some t→wb t≤wk ks
 |[],_,_,h=>by simp at h
 |x::r,0,t,h=>by simp only[List.getElem?_cons_zero,Option.some.injEq]at h;subst h;simp only[wk];omega
 |x::r,i+1,t,h=>by have :=sm (ks:=r) (i:=i) (by simpa using h);simp only[wk];omega
theorem jQ:∀(a b:List Tree),wk (a++b)=wk a+wk b
 |[],b=>by simp[wk]
 |x::r,b=>by simp only[List.cons_append,wk,jQ r b];omega
variable{t u:Tree}{i:Nat}
theorem uz(h:t.kids[i]?=some u):wb u<wb t:=by have :=sm h;rw[oY t];omega
theorem tv(t:Tree):t.kids.length<wb t:=by have :=dB t;have :=tb_le t;omega
theorem yh(t:Tree):t.leads.length<wb t:=by have :=tt t;have :=tb_le t;omega
theorem pQ{l:List Tree}(h:l[i]?=some u):wk (l.take (i+1))=wk (l.take i)+wb u:=by
 rw[List.take_add_one,h,jQ];simp[wk]
def Gt(L:List Int)(C:Tree→Int→Prop)(B:Nat):Prop:=∃t a',C t a'∧Dc L a'∧wb t≤B
theorem Gt.map{C C':Tree→Int→Prop}{B B':Nat}(h:Gt L C B)(q:B≤B')(k:∀t a',C t a'→C' t a'):Gt L C' B':=by
 obtain⟨t,a',h1,h2,E⟩:=h;exact⟨t,a',k t a' h1,h2,by omega⟩
theorem fH{l:List (List UInt8)}{s:List UInt8}(h:s∈l)(q:l.all (λx=>decide (tl x≤5))=true):tl s≤5:=by
 have :=List.all_eq_true.1 q s h;simpa using this
theorem tb0(k:Int)(s:List UInt8):wb (.node k s [] [])=tl s+1:=by simp only[wb,cI,wk]<;>omega
theorem tb1(k:Int)(s:List UInt8)(t:Tree):wb (.node k s [] [t])=tl s+wb t+1:=by simp only[wb,cI,wk]<;>omega
theorem tb2(k:Int)(s:List UInt8)(t u:Tree):wb (.node k s [] [t,u])=tl s+wb t+wb u+1:=by simp only[wb,cI,wk]<;>omega
theorem tb3(k:Int)(s:List UInt8)(t u v:Tree):wb (.node k s [] [t,u,v])=tl s+wb t+wb u+wb v+1:=by simp only[wb,cI,wk]<;>omega
theorem tbK(k:Int)(s:List UInt8)(l:List Tree):wb (.node k s [] l)=tl s+wk l+1:=by simp only[wb,cI]<;>omega
theorem yM:∀(d:Nat) {a:Int},Dc L a→d≤100→Gt L (λt a'=>bK L a d t L a') (6+d):=λd=>by
 induction d with
 | zero=>
  intro a hd _;obtain⟨r,a1,h1,h2,h3⟩:=dQ hd (n:=7) (by omega) (by omega);have top:∀{t a'},ep 1 0 r L a1 false t L a'→r≠0→r≠1→bK L a 0 t L a':=λh n0 n1=>gk 1 _ _ _ _ _ _ ⟨_,_,_,h1,λe=>absurd e n0,λ_=>by rw[show(r==1)=false by simpa using n1];exact h⟩;by_cases e0:r=0∨r=1
  ·refine⟨_,a1,gk 1 _ _ _ _ _ _ ⟨_,_,_,h1,λe=>aU 0 _ _ _ _ _ _ _ _ ⟨λ_=>⟨rfl,rfl,rfl⟩,λh=>nomatch h⟩,λe=>aU 0 _ _ _ _ _ _ _ _ ⟨λ_=>⟨rfl,rfl,rfl⟩,λh=>?_⟩⟩,h3,by rw[tb0];simp only[em];omega⟩;rcases e0 with e0|e0
   ·exact absurd e0 e
   ·rw[e0]at h;cases h
  ·by_cases e2:r=2
   ·exact⟨_,a1,top (aU 0 _ _ _ _ _ _ _ _ ⟨λh=>(nomatch h),λ_=>⟨λ_=>⟨rfl,rfl,rfl⟩,λh=>absurd e2 h⟩⟩) (by omega) (by omega),h3,by rw[tb0];simp only[em];omega⟩
   ·by_cases e3:r=3
    ·exact⟨_,a1,top (aU 0 _ _ _ _ _ _ _ _ ⟨λh=>(nomatch h),λ_=>⟨λh=>absurd h e2,λ_=>⟨λ_=>⟨rfl,rfl,rfl⟩,λh=>absurd e3 h⟩⟩⟩) (by omega) (by omega),h3,by rw[tb0];simp only[em];omega⟩
    ·by_cases e4:r=4
     ·obtain⟨s,a2,g1,g2,g3⟩:=gD h3 [[84],[85],[65,46,84],[66,46,85]] (by decide) (by decide);have :=fH g2 (by decide);exact⟨_,a2,top (aU 0 _ _ _ _ _ _ _ _ ⟨λh=>(nomatch h),λ_=>⟨λh=>absurd h e2,λ_=>⟨λh=>absurd h e3,λ_=>⟨λ_=>⟨_,_,_,g1,rfl,rfl,rfl⟩,λh=>absurd e4 h⟩⟩⟩⟩) (by omega) (by omega),g3,by rw[tb0];omega⟩
     ·exact⟨_,a1,top (aU 0 _ _ _ _ _ _ _ _ ⟨λh=>(nomatch h),λ_=>⟨λh=>absurd h e2,λ_=>⟨λh=>absurd h e3,λ_=>⟨λh=>absurd h e4,λ_=>⟨λ_=>⟨rfl,rfl,rfl⟩,λh=>by omega⟩⟩⟩⟩⟩) (by omega) (by omega),h3,by rw[tb0];simp only[em];omega⟩
 | succ d ih=>
  intro a hd hd100;obtain⟨r,a1,h1,h2,h3⟩:=dQ hd (n:=7) (by omega) (by omega);have top:∀{t a'},ep 1 ((d+1:Nat):Int) r L a1 false t L a'→r≠0→r≠1→bK L a ((d+1:Nat):Int) t L a':=λh n0 n1=>gk 1 _ _ _ _ _ _ ⟨_,_,_,h1,λe=>absurd e n0,λ_=>by rw[show(r==1)=false by simpa using n1];exact h⟩;by_cases e0:r=0∨r=1
  ·refine⟨_,a1,gk 1 _ _ _ _ _ _ ⟨_,_,_,h1,λe=>aU 0 _ _ _ _ _ _ _ _ ⟨λ_=>⟨rfl,rfl,rfl⟩,λh=>nomatch h⟩,λe=>aU 0 _ _ _ _ _ _ _ _ ⟨λ_=>⟨rfl,rfl,rfl⟩,λh=>?_⟩⟩,h3,by rw[tb0];simp only[em];omega⟩;rcases e0 with e0|e0
   ·exact absurd e0 e
   ·rw[e0]at h;cases h
  ·by_cases e2:r=2
   ·exact⟨_,a1,top (aU 0 _ _ _ _ _ _ _ _ ⟨λh=>(nomatch h),λ_=>⟨λ_=>⟨rfl,rfl,rfl⟩,λh=>absurd e2 h⟩⟩) (by omega) (by omega),h3,by rw[tb0];simp only[em];omega⟩
   ·by_cases e3:r=3
    ·exact⟨_,a1,top (aU 0 _ _ _ _ _ _ _ _ ⟨λh=>(nomatch h),λ_=>⟨λh=>absurd h e2,λ_=>⟨λ_=>⟨rfl,rfl,rfl⟩,λh=>absurd e3 h⟩⟩⟩) (by omega) (by omega),h3,by rw[tb0];simp only[em];omega⟩
    ·by_cases e4:r=4
     ·obtain⟨s,a2,g1,g2,g3⟩:=gD h3 [[84],[85],[65,46,84],[66,46,85]] (by decide) (by decide);have :=fH g2 (by decide);exact⟨_,a2,top (aU 0 _ _ _ _ _ _ _ _ ⟨λh=>(nomatch h),λ_=>⟨λh=>absurd h e2,λ_=>⟨λh=>absurd h e3,λ_=>⟨λ_=>⟨_,_,_,g1,rfl,rfl,rfl⟩,λh=>absurd e4 h⟩⟩⟩⟩) (by omega) (by omega),g3,by rw[tb0];omega⟩
     ·obtain⟨t,a2,g1,g2,g3⟩:=ih h3 (by omega);have g1':bK L a1 (((d+1:Nat):Int)-1) t L a2:=by rw[show((d+1:Nat):Int)-1=(d:Int) by omega];exact g1
      exact⟨_,a2,top (aU 0 _ _ _ _ _ _ _ _ ⟨λh=>(nomatch h),λ_=>⟨λh=>absurd h e2,λ_=>⟨λh=>absurd h e3,λ_=>⟨λh=>absurd h e4,λ_=>⟨λh=>by omega,λ_=>⟨by omega,_,_,_,g1',rfl,rfl,rfl⟩⟩⟩⟩⟩⟩) (by omega) (by omega),g2,by rw[tb1];simp only[em];omega⟩
def eB:Nat→Nat
 |0=>6
 |d+1=>3*eB d+20
section
variable{L:List Int}{d a z:Int}{t:Tree}{a':Int}{m:Nat}
theorem up2(q:z≠0)(h1:z≠1)(h:fG m d L a z t L a'):bI (m+2) d L a z t L a':=
 rL0_semvcsmake_Expr (m+1) _ _ _ _ _ _ _ ⟨λe=>absurd e q,λ_=>iy m _ _ _ _ _ _ _ _ ⟨λe=>absurd (eq_of_beq e) h1,λ_=>h⟩⟩
theorem up6(h2:z≠2)(q:z≠3)(E:z≠4)(G:z≠5)(h:fD m d L a z t L a'):fG (m+4) d L a z t L a':=
 rL2_semvcsmake_Expr (m+3) _ _ _ _ _ _ _ ⟨λe=>absurd e h2,λ_=>dz (m+2) _ _ _ _ _ _ _ ⟨λe=>absurd e q,λ_=>fo (m+1) _ _ _ _ _ _ _ ⟨λe=>absurd e E,λ_=>ip m _ _ _ _ _ _ _ ⟨λe=>absurd e G,λ_=>h⟩⟩⟩⟩
theorem up9(q:z≠6)(E:z≠7)(h:dH m d L a z t L a'):fD (m+2) d L a z t L a':=
 rL6_semvcsmake_Expr (m+1) _ _ _ _ _ _ _ ⟨λe=>absurd e q,λ_=>iA m _ _ _ _ _ _ _ _ ⟨λe=>absurd (eq_of_beq e) E,λ_=>h⟩⟩
theorem Ez(q:z≠8)(h:fb m d L a z t L a'):dH (m+1) d L a z t L a':=ll m _ _ _ _ _ _ _ ⟨λe=>absurd e q,λ_=>h⟩
theorem GW(q:z≠9)(h:dA m d L a z t L a'):fb (m+1) d L a z t L a':=kB m _ _ _ _ _ _ _ ⟨λe=>absurd e q,λ_=>h⟩
theorem GC(q:z≠10)(E:z≠11)(h:ff m d L a z t L a'):dA (m+2) d L a z t L a':=
 rL14_semvcsmake_Expr (m+1) _ _ _ _ _ _ _ ⟨λe=>absurd e q,λ_=>ic m _ _ _ _ _ _ _ _ ⟨λe=>absurd (eq_of_beq e) E,λ_=>h⟩⟩
end
theorem sq{d z:Int}(M:Nat)(hd:Dc L a)(h0:0≤z)(h5:z≤5):Gt L (λt a'=>bI (M+8) d L a z t L a') 6:=by
 by_cases O:z=0∨z=1
 ·obtain⟨s,E,q,J,G⟩:=gD hd [[120],[121],[122]] (by decide) (by decide);have :=fH J (by decide);refine⟨_,E,rL0_semvcsmake_Expr (M+7) _ _ _ _ _ _ _ ⟨λe=>iy (M+6) _ _ _ _ _ _ _ _ ⟨λ_=>⟨_,_,_,q,rfl,rfl,rfl⟩,λh=>nomatch h⟩,λe=>iy (M+6) _ _ _ _ _ _ _ _ ⟨λ_=>⟨_,_,_,q,rfl,rfl,rfl⟩,λh=>?_⟩⟩,G,by rw[tb0];omega⟩;rcases O with O|O
  ·exact absurd O e
  ·rw[O]at h;exact absurd h (by decide)
 have U:z≠0:=by omega
 have n1:z≠1:=by omega
 by_cases Z:z=2
 ·obtain⟨s,E,q,J,G⟩:=gD hd [[48],[49],[50],[49,48]] (by decide) (by decide);have :=fH J (by decide);exact⟨_,E,up2 U n1 (rL2_semvcsmake_Expr (M+5) _ _ _ _ _ _ _ ⟨λ_=>⟨_,_,_,q,rfl,rfl,rfl⟩,λh=>absurd Z h⟩),G,by rw[tb0];omega⟩
 by_cases e3:z=3
 ·obtain⟨s,E,q,J,G⟩:=gD hd [[34,34],[34,97,34],[34,35,32,98,34]] (by decide) (by decide);have :=fH J (by decide);exact⟨_,E,up2 U n1 (rL2_semvcsmake_Expr (M+5) _ _ _ _ _ _ _ ⟨λh=>absurd h Z,λ_=>dz (M+4) _ _ _ _ _ _ _ ⟨λ_=>⟨_,_,_,q,rfl,rfl,rfl⟩,λh=>absurd e3 h⟩⟩),G,by rw[tb0];omega⟩
 by_cases e4:z=4
 ·obtain⟨r,E,q,J,G⟩:=dQ hd (n:=2) (by omega) (by omega);exact⟨_,E,up2 U n1 (rL2_semvcsmake_Expr (M+5) _ _ _ _ _ _ _ ⟨λh=>absurd h Z,λ_=>dz (M+4) _ _ _ _ _ _ _ ⟨λh=>absurd h e3,λ_=>fo (M+3) _ _ _ _ _ _ _ ⟨λ_=>⟨_,_,_,q,by omega,rfl,rfl,rfl⟩,λh=>absurd e4 h⟩⟩⟩),G,by rw[tb0];simp only[em];omega⟩
 have e5:z=5:=by omega
 obtain⟨r,E,q,J,G⟩:=dQ hd (n:=3) (by omega) (by omega);by_cases er:r=0
 ·exact⟨_,E,up2 U n1 (rL2_semvcsmake_Expr (M+5) _ _ _ _ _ _ _ ⟨λh=>absurd h Z,λ_=>dz (M+4) _ _ _ _ _ _ _ ⟨λh=>absurd h e3,λ_=>fo (M+3) _ _ _ _ _ _ _ ⟨λh=>absurd h e4,λ_=>ip (M+2) _ _ _ _ _ _ _ ⟨λ_=>⟨_,_,_,q,λ_=>⟨rfl,rfl,rfl⟩,λh=>absurd er h⟩,λh=>absurd e5 h⟩⟩⟩⟩),G,by rw[tb0];simp only[em];omega⟩
 ·exact⟨_,E,up2 U n1 (rL2_semvcsmake_Expr (M+5) _ _ _ _ _ _ _ ⟨λh=>absurd h Z,λ_=>dz (M+4) _ _ _ _ _ _ _ ⟨λh=>absurd h e3,λ_=>fo (M+3) _ _ _ _ _ _ _ ⟨λh=>absurd h e4,λ_=>ip (M+2) _ _ _ _ _ _ _ ⟨λ_=>⟨_,_,_,q,λh=>absurd h er,λ_=>⟨rfl,rfl,rfl⟩⟩,λh=>absurd e5 h⟩⟩⟩⟩),G,by rw[tb0];decide⟩
theorem xx(hd:Dc L a):Gt L (λt a'=>aD L a 0 t L a') 6:=by
 obtain⟨r,J,h1,h2,q⟩:=dQ hd (n:=14) (by omega) (by omega);by_cases E:5<r
 ·by_cases G:5<r-6
  ·exact(sq 0 (d:=0) q (z:=0) (by omega) (by omega)).map (Nat.le_refl _) λt a' h=>fL 8 _ _ _ _ _ _ ⟨_,_,_,h1,λ_=>⟨λ_=>⟨by omega,λ_=>h,λh'=>absurd G h'⟩,λh'=>absurd E h'⟩,λh'=>by omega⟩
  ·exact(sq 0 (d:=0) q (z:=r-6) (by omega) (by omega)).map (Nat.le_refl _) λt a' h=>fL 8 _ _ _ _ _ _ ⟨_,_,_,h1,λ_=>⟨λ_=>⟨by omega,λh'=>absurd h' G,λ_=>h⟩,λh'=>absurd E h'⟩,λh'=>by omega⟩
 ·exact(sq 0 (d:=0) q (z:=r) (by omega) (by omega)).map (Nat.le_refl _) λt a' h=>fL 8 _ _ _ _ _ _ ⟨_,_,_,h1,λ_=>⟨λh'=>absurd h' E,λ_=>h⟩,λh'=>by omega⟩
theorem sK{k:Int}{B:Nat}(h:Gt L (λt a'=>aD L a k t L a') B):Gt L (λt a'=>dk L a k t L a') (B+1):=by
 obtain⟨t,q,E,G,O⟩:=h;cases J:qy t.kind with
 |true=>exact⟨t,q,lZ 0 _ _ _ _ _ _ ⟨_,_,_,E,_,pV _,λh=>absurd (J.symm.trans h) (by decide),λ_=>⟨rfl,rfl,rfl⟩⟩,G,by omega⟩
 |false=>exact⟨_,q,lZ 0 _ _ _ _ _ _ ⟨_,_,_,E,_,pV _,λ_=>⟨rfl,rfl,rfl⟩,λh=>absurd (J.symm.trans h) (by decide)⟩,G,by rw[tb1];simp only[em];omega⟩
theorem Ah:∀d,6≤eB d
 |0=>Nat.le_refl _
 |d+1=>by have :=Ah d;simp only[eB];omega
theorem Fs:∀(d:Nat) {a:Int},Dc L a→d≤5→Gt L (λt a'=>aD L a d t L a') (eB d):=λd=>by
 induction d with
 |zero=>intro a hd _;exact xx hd
 | succ d ih=>
  intro a hd hd5;obtain⟨z,a1,h1,h2,h3⟩:=dQ hd (n:=14) (by omega) (by omega);have top:∀{M t a'},bI M ((d+1:Nat):Int) L a1 z t L a'→aD L a ((d+1:Nat):Int) t L a':=λ{M} {t} {a'} h=>fL M _ _ _ _ _ _ ⟨_,_,_,h1,λh'=>by omega,λ_=>h⟩;have sub:∀{a},Dc L a→Gt L (λt a'=>aD L a (((d+1:Nat):Int)-1) t L a') (eB d):=λ{a} h=>by rw[show((d+1:Nat):Int)-1=(d:Int) by omega];exact ih h (by omega)
  have hB:eB (d+1)=3*eB d+20:=rfl;have hp:=Ah d;by_cases c5:z≤5
  ·exact(sq 0 (d:=((d+1:Nat):Int)) h3 (by omega) c5).map (by omega) λt a' h=>top h
  have n0:z≠0:=by omega
  have n1:z≠1:=by omega
  have n2:z≠2:=by omega
  have n3:z≠3:=by omega
  have n4:z≠4:=by omega
  have n5:z≠5:=by omega
  by_cases c7:z≤7
  ·
   obtain⟨s,a2,g1,g2,g3⟩:=gD h3 [[102],[103],[104],[65,46,102],[66,46,103],[65,46,104]] (by decide) (by decide);have hs:=fH g2 (by decide);obtain⟨n,a3,g4,g5,g6⟩:=dQ g3 (n:=4) (by omega) (by omega);have loop:∀(k:Nat) (a:Int) (l:List Tree),Dc L a→l.length+k≤100→Gt L (λt a'=>fg (k+1) ((d+1:Nat):Int) s L a l (k:Int) t L a') (tl s+1+wk l+k*(eB d+1)):=λk=>by
    induction k with
    |zero=>intro a l hd hl;exact⟨_,a,kA 0 _ _ _ _ _ _ _ _ _ ⟨λh=>by omega,λ_=>⟨rfl,rfl,rfl⟩⟩,hd,by rw[tbK];omega⟩
    |succ k ihk=>
     intro a l hd hl;obtain⟨t,b,q1,q2,q3⟩:=sub hd;refine(ihk b (l++[.node 17 [] [] [t]]) q2 (by simp;omega)).map ?_ λt' a' h=>kA (k+1) _ _ _ _ _ _ _ _ _ ⟨λ_=>⟨by omega,_,_,_,q1,by simp;omega,by omega,by rw[show((k+1:Nat):Int)-1=(k:Int) by omega];exact h⟩,λh=>by omega⟩;rw[jQ,Nat.succ_mul];simp only[wk,tb1,em];omega
   refine(loop n.toNat a3 [] g6 (by simp;omega)).map (by
    have :n.toNat*(eB d+1)≤3*(eB d+1):=Nat.mul_le_mul_right _ (by omega);simp only[wk];omega) λt a' h=>?_
   have h8:iO (n.toNat+2) ((d+1:Nat):Int) L a1 t L a':=pu (n.toNat+1) _ _ _ _ _ _ ⟨_,_,_,g1,_,_,_,g4,by rw[show n=((n.toNat:Nat):Int) by omega];exact h⟩;refine top (up2 n0 n1 (up6 n2 n3 n4 n5 (rL6_semvcsmake_Expr (n.toNat+3) _ _ _ _ _ _ _ ⟨λ_=>iA (n.toNat+2) _ _ _ _ _ _ _ _ ⟨λ_=>h8,λh=>nomatch h⟩,λh=>iA (n.toNat+2) _ _ _ _ _ _ _ _ ⟨λ_=>h8,λh'=>?_⟩⟩)));have :z≠7:=by simpa using h'
   omega
  have n6:z≠6:=by omega
  have n7:z≠7:=by omega
  have t9:∀{M t a'},dH M ((d+1:Nat):Int) L a1 z t L a'→aD L a ((d+1:Nat):Int) t L a':=λh=>top (up2 n0 n1 (up6 n2 n3 n4 n5 (up9 n6 n7 h)));by_cases c8:z=8
  ·
   obtain⟨n,a3,g4,g5,g6⟩:=dQ h3 (n:=3) (by omega) (by omega);have loop:∀(k:Nat) (a:Int) (l:List Tree),Dc L a→l.length+k≤100→Gt L (λt a'=>fj (k+1) ((d+1:Nat):Int) L a l (k:Int) t L a') (1+wk l+k*(eB d)):=λk=>by
    induction k with
    |zero=>intro a l hd hl;exact⟨_,a,kP 0 _ _ _ _ _ _ _ _ ⟨λh=>by omega,λ_=>⟨rfl,rfl,rfl⟩⟩,hd,by rw[tbK];simp only[em];omega⟩
    |succ k ihk=>
     intro a l hd hl;obtain⟨t,b,q1,q2,q3⟩:=sub hd;refine(ihk b (l++[t]) q2 (by simp;omega)).map ?_ λt' a' h=>kP (k+1) _ _ _ _ _ _ _ _ ⟨λ_=>⟨by omega,_,_,_,q1,by simp;omega,by omega,by rw[show((k+1:Nat):Int)-1=(k:Int) by omega];exact h⟩,λh=>by omega⟩;rw[jQ,Nat.succ_mul];simp only[wk];omega
   exact(loop (1+n).toNat a3 [] g6 (by simp;omega)).map (by
    have :(1+n).toNat*eB d≤3*eB d:=Nat.mul_le_mul_right _ (by omega);simp only[wk];omega) λt a' h=>t9 (ll ((1+n).toNat+1) _ _ _ _ _ _ _ ⟨λ_=>⟨_,_,_,g4,by omega,by rw[show(((1+n).toNat:Nat):Int)=1+n by omega]at h;exact h⟩,λh'=>absurd c8 h'⟩)
  by_cases c9:z=9
  ·obtain⟨t1,b1,q1,r1,s1⟩:=sub h3;obtain⟨t2,b2,q2,r2,s2⟩:=sub r1;obtain⟨t3,b3,q3,r3,s3⟩:=sub r2;exact⟨_,b3,t9 (Ez c8 (kB 1 _ _ _ _ _ _ _ ⟨λ_=>pb 0 _ _ _ _ _ _ ⟨by omega,_,_,_,q1,by omega,_,_,_,q2,by omega,_,_,_,q3,rfl,rfl,rfl⟩,λh=>absurd c9 h⟩)),r3,by rw[tb3];simp only[em];omega⟩
  have t14:∀{M t a'},dA M ((d+1:Nat):Int) L a1 z t L a'→aD L a ((d+1:Nat):Int) t L a':=λh=>t9 (Ez c8 (GW c9 h));by_cases c11:z≤11
  ·obtain⟨s,b0,g1,g2,g3⟩:=gD h3 [[120],[121],[122]] (by decide) (by decide);have hs:=fH g2 (by decide);obtain⟨t1,b1,q1,r1,s1⟩:=sub g3;obtain⟨t2,b2,q2,r2,s2⟩:=sub r1;refine⟨.node 20 s [] [t1,t2],b2,?_,r2,by rw[tb2];omega⟩;have h16:iw 1 ((d+1:Nat):Int) L a1 (.node 20 s [] [t1,t2]) L b2:=oA 0 _ _ _ _ _ _ ⟨_,_,_,g1,by omega,_,_,_,q1,by omega,_,_,_,q2,rfl,rfl,rfl⟩;refine t14 (rL14_semvcsmake_Expr 2 _ _ _ _ _ _ _ ⟨λ_=>ic 1 _ _ _ _ _ _ _ _ ⟨λ_=>h16,λh=>nomatch h⟩,λh=>ic 1 _ _ _ _ _ _ _ _ ⟨λ_=>h16,λh'=>?_⟩⟩);have :z≠11:=by simpa using h'
   omega
  have t17:∀{M t a'},ff M ((d+1:Nat):Int) L a1 z t L a'→aD L a ((d+1:Nat):Int) t L a':=λh=>t14 (GC (by omega) (by omega) h);by_cases c12:z=12
  ·obtain⟨s,b0,g1,g2,g3⟩:=gD h3 [[43],[45],[42],[60],[61,61]] (by decide) (by decide);have hs:=fH g2 (by decide);obtain⟨t1,b1,q1,r1,s1⟩:=sK (sub g3);obtain⟨n,b2,q2,q3,q4⟩:=dQ r1 (n:=3) (by omega) (by omega);by_cases hn:n=0
   ·obtain⟨s',b3,g4,g5,g6⟩:=gD q4 [[43],[42]] (by decide) (by decide);have hs':=fH g5 (by decide);obtain⟨t2,b4,q5,r5,s5⟩:=sK (xx g6);obtain⟨t3,b5,q6,r6,s6⟩:=sK (sub r5);exact⟨_,b5,t17 (hI 1 _ _ _ _ _ _ _ ⟨λ_=>kJ 0 _ _ _ _ _ _ ⟨_,_,_,g1,by omega,_,_,_,q1,_,_,_,q2,λ_=>⟨_,_,_,g4,_,_,_,q5,by omega,_,_,_,q6,rfl,rfl,rfl⟩,λh=>absurd hn h⟩,λh=>absurd c12 h⟩),r6,by rw[tb2,tb2];omega⟩
   ·obtain⟨t3,b5,q6,r6,s6⟩:=sK (sub q4);exact⟨_,b5,t17 (hI 1 _ _ _ _ _ _ _ ⟨λ_=>kJ 0 _ _ _ _ _ _ ⟨_,_,_,g1,by omega,_,_,_,q1,_,_,_,q2,λh=>absurd h hn,λ_=>⟨by omega,_,_,_,q6,rfl,rfl,rfl⟩⟩,λh=>absurd c12 h⟩),r6,by rw[tb2];omega⟩
  ·obtain⟨t1,b1,q1,r1,s1⟩:=sub h3;exact⟨_,b1,t17 (hI 1 _ _ _ _ _ _ _ ⟨λh=>absurd h c12,λ_=>⟨by omega,_,_,_,q1,rfl,rfl,rfl⟩⟩),r1,by rw[tb1];simp only[em];omega⟩
open Go.RowKit Lx
set_option maxRecDepth 100000
def gZ:Bool→List UInt8→Bool
 |c,[]=>c
 |c,x::r=>gZ (if x.toNat=10 then false else if x.toNat=35 then true else c) r
theorem kz:∀(b:Bool) (l:List UInt8) (n m:Nat),aC b l (n+m)=((aC b l n).1+m,(aC b l n).2.map (·+m))
 |b,[],n,m=>by cases b<;>simp[aC]
 | false,c::r,n,m=>by
  have h1:=kz false r (n+1) m;have h2:=kz true r (n+1) m;unfold aC;split
  ·rw[←h1];congr 1;omega
  ·split
   ·rw[←h2];congr 1;omega
   ·simp
 | true,c::r,n,m=>by
  have h1:=kz false r (n+1) m;have h2:=kz true r (n+1) m;unfold aC;split
  ·rw[←h1];congr 1;omega
  ·split
   ·simp
   ·rw[←h2];congr 1;omega
def im(c:Bool)(l:List UInt8):Bool:=(aC c l 0).2.isNone&&(aC c l 0).1==l.length
theorem lL{c d:Bool}{x:UInt8}{r:List UInt8}(h:aC c (x::r) 0=aC d r 1):im c (x::r)=im d r:=by
 unfold im;rw[h,show(1:Nat)=0+1 from rfl,kz];simp
theorem rZ:∀(l:List UInt8) (c fin:Bool),fB c l fin=(im c l&&(!gZ c l||fin))
 |[],c,fin=>by cases c<;>cases fin<;>rfl
 | x ::r,c,fin=>by
  have ih:=rZ r;unfold fB gZ;cases c with
  | true=>
   by_cases ha:aI x=false
   ·have h10:¬x.toNat=10:=λh=>by simp[aI,bu,h]at ha
    have :im true (x::r)=false:=by simp[im,aC,h10,ha]
    rw[if_pos ha,this];rfl
   ·have ha':aI x=true:=by simpa using ha
    rw[if_neg ha,if_pos rfl,ih];by_cases h10:x.toNat=10
    ·rw[lL (d:=false) (by simp[aC,h10])];simp[h10]
    ·have hb:(x.toNat==10)=false:=by simpa using h10
     rw[lL (d:=true) (by simp[aC,h10,ha']),hb];simp[h10]
  | false=>
   by_cases ha:aI x=false
   ·have hw:bu x=false:=by cases h:bu x<;>simp_all[aI]
    have h35:¬x.toNat=35:=λh=>by simp[aI,cP,h]at ha
    have :im false (x::r)=false:=by simp[im,aC,hw,h35]
    rw[if_pos ha,this];rfl
   ·rw[if_neg ha,if_neg (by simp)];by_cases h35:x.toNat=35
    ·have hw:bu x=false:=by simp[bu,h35]
     rw[if_pos h35,ih,lL (d:=true) (by simp[aC,h35,hw])];simp[h35]
    ·rw[if_neg h35];by_cases hw:bu x=false
     ·have :im false (x::r)=false:=by simp[im,aC,hw,h35]
      rw[if_pos hw,this];rfl
     ·have hw':bu x=true:=by simpa using hw
      rw[if_neg hw,ih,lL (d:=false) (by simp[aC,hw'])];by_cases h10:x.toNat=10<;>simp[h10,h35]
theorem uh{l:List UInt8}{k:Nat}{x:UInt8}{c:Bool}(h:k<l.length)(q:l[k]=x):gZ c (l.drop k)=gZ (if x.toNat=10 then false else if x.toNat=35 then true else c) (l.drop (k+1)):=by
 rw[List.drop_eq_getElem_cons h,q];rfl
theorem uP{l:List UInt8}{k:Nat}{c:Bool}(h:l.length≤k):gZ c (l.drop k)=c:=by
 rw[List.drop_of_length_le h];rfl
set_option maxHeartbeats 1000000 in
theorem DV (l:List UInt8) (fin:Bool) (w:World) (hl:l.length≤281474976710656):Calls prog 100 #[.string ⟨l.toArray⟩,.bool fin] w λe w'=>e=.returned (.bool (fB false l fin))∧w=w':=by
  obtain⟨n,b,hLd⟩:∃n b,aC false l 0=(n,b):=⟨_,_,rfl⟩;have hnl:n≤l.length:=by have h:=lB false l 0;rw[hLd]at h;simpa using h
  have HLd:=Lib.hid hLd;have HW:=Lib.hid (show im false l=(b.isNone&&n==l.length)from by rw[im,hLd]);have HT:=Lib.hid (rZ l false fin);clear hLd
  go_enter func100,ntmps100
  go_wp2_with fail
  refine(CB l 0 0 rfl _ (Nat.zero_le _) hl).mono ?_;rintro e w' ⟨rfl,rfl⟩;rw[List.drop_zero,HLd.out];cases b with
  | some q=>
    have hq2:rg 0 (some q)=((0+q:Nat):Int):=rfl;rw[hq2,Nat.zero_add];have hq:(0:Int)≤(q:Int):=by omega
    have HF:=Lib.hid (show fB false l fin=false from by rw[HT.out,HW.out];rfl)
    go_wp2
    go_ret
    exact⟨aZ HF.out.symm,rfl⟩
  | none=>
    have hq2:rg 0 none=-1:=rfl;rw[hq2];clear hq2;by_cases hn:n<l.length
    · have HF := Lib.hid (show fB      false l fin = false from by rw[HT.out,HW.out];have :(n==l.length)=false:=by simp;omega
                                                                   rw[this];rfl)
      go_wp2
      go_ret
      exact⟨aZ HF.out.symm,rfl⟩
    · have hnb:decide (n<l.length)=false:=by simpa using hn
      have HF:=Lib.hid (show fB false l fin=(!gZ false l||fin)from by
        rw[HT.out,HW.out];have :(n==l.length)=true:=by simp;omega
        rw[this];rfl)
      cases fin with
      | true=>
        go_wp2
        go_ret
        exact⟨aZ (by rw[HF.out];simp),rfl⟩
      | false=>
        obtain⟨r,hr⟩:∃r,gZ false l=r:=⟨_,rfl⟩;have HR:=Lib.hid hr;clear hr
        go_wp2
        go_loopg [7,8] l.length (λg s7 s8 wx=>∃(i:Nat) (c:Bool),g=l.length-i∧wx=w∧i≤l.length∧s7=.bool c∧s8=.int .i64 i∧Hid (gZ c (l.drop i)=r))
        case atStart=>exact⟨0,false,rfl,rfl,Nat.zero_le _,rfl,rfl,Lib.hid (by simpa using HR.out)⟩
        case round=>
          obtain⟨i,c,rfl,rfl,hil,rfl,rfl,HC⟩:=hrel;by_cases hit:i<l.length
          rotate_left
          · have HF2:=Lib.hid (show c=r from by rw[←HC.out,uP (by omega)])
            go_wp2_with fail
            go_ret
            exact⟨aZ (by rw[HF.out,HR.out,HF2.out];simp),rfl⟩
          obtain⟨x,hx⟩:∃c,({data:=l.toArray}:ByteArray)[i]'hit=c:=⟨_,rfl⟩;have HXi:=Lib.hid (show l[i]=x from hx);have HS:=Lib.hid (HC.out.symm.trans (uh hit HXi.out));clear HC;cases h35:((x.toNat:Int)==35)<;>cases h10:((x.toNat:Int)==10)
          · go_wp2
            go_roundg (l.length-(i+1))
            case measure=>omega
            case rel=>exact⟨i+1,c,rfl,rfl,by omega,rfl,by go_num,Lib.hid (by rw[HS.out,if_neg (bw (m:=10) h10),if_neg (bw (m:=35) h35)])⟩
          · go_wp2
            go_roundg (l.length-(i+1))
            case measure=>omega
            case rel=>exact⟨i+1,false,rfl,rfl,by omega,rfl,by go_num,Lib.hid (by rw[HS.out,if_pos (cp (m:=10) h10)])⟩
          · go_wp2
            go_roundg (l.length-(i+1))
            case measure=>omega
            case rel=>exact⟨i+1,true,rfl,rfl,by omega,rfl,by go_num,Lib.hid (by rw[HS.out,if_neg (bw (m:=10) h10),if_pos (cp (m:=35) h35)])⟩
          · have h1:=cp (m:=10) h10;have h2:=cp (m:=35) h35;omega
theorem Cu(a b:List UInt8):(ByteArray.mk a.toArray)++(ByteArray.mk b.toArray)=⟨(a++b).toArray⟩:=by
 apply ByteArray.ext;simp
theorem tR{a b:List UInt8}(h:bq a=0∨bq b=0):fusesT a b=false:=by simp[fusesT,h]
theorem mP{a b:List UInt8}(h:¬(bq a=0∨bq b=0))(h2:¬((fw (a++b)).err=0∧(fw (a++b)).toks.length=2∧(fw (a++b)).tail=[])):fusesT a b=true:=by
 unfold fusesT;rw[if_neg h];simp only;rw[if_neg h2]
theorem za{a b:List UInt8}{t0 q:TokZ}(h:¬(bq a=0∨bq b=0))(h1:(fw (a++b)).err=0)(h2:(fw (a++b)).toks=[t0,q])(E:(fw (a++b)).tail=[]):
  fusesT a b=!(t0.lead==[]&&t0.text==a&&q.lead==[]&&q.text==b):=by
 unfold fusesT;rw[if_neg h];simp only;rw[h1,h2,E];simp
theorem yg{l:List UInt8}{b:Bool}(h:(l==[])=b):l.isEmpty=b:=by rw[←h];cases l<;>rfl
theorem uD{l:List TokZ}(h:l.length=2):∃t0 q,l=[t0,q]:=by
 match l,h with
 |[a,b],_=>exact⟨a,b,rfl⟩
set_option maxHeartbeats 2000000 in
theorem Fo(a b:List UInt8)(w:World)(ha:a.length≤140737488355328)(hb:b.length≤140737488355328):Calls prog 80 #[.string ⟨a.toArray⟩,.string ⟨b.toArray⟩] w λe w'=>e=.returned (.bool (fusesT a b))∧Ext w w':=by
 have hx:=Cu;obtain⟨ka,E⟩:∃k,bq a=k:=⟨_,rfl⟩;obtain⟨kb,G⟩:∃k,bq b=k:=⟨_,rfl⟩;have HKa:=Lib.hid E;have HKb:=Lib.hid G;clear E G
 go_enter func80,ntmps80
 go_wp2_with fail
 refine(wv _ _ (by omega)).mono ?_;rintro e1 w1 ⟨rfl,J⟩;rw[HKa.out];have HX1:=Lib.hid J;clear J;by_cases h1:ka=0
 ·subst h1
  go_wp2_with fail
  go_ret
  exact⟨aZ (tR (.inl HKa.out)).symm,HX1.out⟩
 have h1b:((ka:Int)==0)=false:=by simp;omega
 go_wp2_with fail
 refine(wv _ _ (by omega)).mono ?_;rintro e2 w2 ⟨rfl,O⟩;rw[HKb.out];have HX2:=Lib.hid (HX1.out.trans O);clear O;by_cases h2:kb=0
 ·subst h2
  go_wp2_with fail
  go_ret
  exact⟨aZ (tR (.inr HKb.out)).symm,HX2.out⟩
 have h2b:((kb:Int)==0)=false:=by simp;omega
 have HN:=Lib.hid (show¬(bq a=0∨bq b=0)from by rw[HKa.out,HKb.out];omega);obtain⟨Rs,U⟩:∃Rs,fw (a++b)=Rs:=⟨_,rfl⟩;have HRs:=Lib.hid U;clear U
 go_wp2_with fail
 refine(Gb _ _ (by simp;omega)).mono ?_;rintro e3 w3 ⟨v,rfl,Z,hx3⟩;rw[HRs.out]at Z⊢;obtain⟨A,c,rfl,hc1,hc2,q⟩:=Z;unfold maxLen at hc2;have HX3:=Lib.hid (HX2.out.trans hx3);clear hx3;have HRow:=Lib.hid q;clear q;obtain⟨toks,tail,place,er⟩:=Rs;simp only at HRow hc1 hc2⊢;by_cases h3:er=0
 rotate_left
 ·have h3b:((er:Int)!=0)=true:=by simp;omega
  have HF:=Lib.hid (mP HN.out (λh=>h3 (by rw[HRs.out]at h;exact h.1)))
  go_wp2_with fail
  go_ret
  exact⟨aZ HF.out.symm,HX3.out⟩
 subst h3;by_cases h4:toks.length=2
 rotate_left
 ·have h4b:((toks.length:Int)!=2)=true:=by simp;omega
  have HF:=Lib.hid (mP HN.out (λh=>h4 (by rw[HRs.out]at h;exact h.2.1)))
  go_wp2_with fail
  go_ret
  exact⟨aZ HF.out.symm,HX3.out⟩
 by_cases h5:tail=[]
 rotate_left
 ·have h5b:(tail==[])=false:=by simpa using h5
  have h5c:tail.isEmpty=false:=by simpa using h5
  obtain⟨t0,t1,rfl⟩:=uD h4;have HF:=Lib.hid (mP HN.out (λh=>h5 (by rw[HRs.out]at h;exact h.2.2)));clear h5 h4
  go_wp2_with fail
  go_ret
  exact⟨aZ HF.out.symm,HX3.out⟩
 subst h5;obtain⟨t0,t1,rfl⟩:=uD h4;clear h4;obtain⟨b0,off,rfl,hb0,p0,p1,p2⟩:=ub HRow.out (k:=0) (by simp);obtain⟨b0',off',heq,_,q0,q1,q2⟩:=ub HRow.out (k:=1) (by simp);obtain⟨rfl,rfl⟩:b0=b0'∧off=off':=by simpa using heq
 clear heq;have HF:=Lib.hid (za HN.out (by rw[HRs.out]) (by rw[HRs.out]) (by rw[HRs.out]));simp only[Nat.zero_mul,Nat.one_mul,Nat.add_zero,List.getElem_cons_zero,List.getElem_cons_succ]at p0 p1 p2 q0 q1 q2;cases g1:(t0.text==a)
 ·skip
  go_wp2_with fail
  go_ret
  exact⟨aZ (by rw[HF.out,g1];simp),HX3.out⟩
 cases g0:(t0.lead==[])
 ·skip
  have g0':t0.lead.isEmpty=false:=by simpa using g0
  go_wp2_with fail
  go_ret
  exact⟨aZ (by rw[HF.out,g1,g0];simp),HX3.out⟩
 have g0':t0.lead.isEmpty=true:=by simpa using g0
 cases g3:(t1.text==b)
 ·skip
  go_wp2_with fail
  go_ret
  exact⟨aZ (by rw[HF.out,g1,g0,g3];simp),HX3.out⟩
 cases g2:(t1.lead==[])
 all_goals
  have g2':=yg g2
  go_wp2_with fail
  go_ret
  exact⟨aZ (by rw[HF.out,g1,g0,g3,g2];simp),HX3.out⟩
theorem BN(a b:List UInt8)(q:a.length≤140737488355328)(E:b.length≤140737488355328):li a b (fusesT a b):=sum0_calls rfl rfl λS w ρ xs hx=>by
 simp only[LRel]at hx;obtain⟨x,ys,rfl,h1,y,zs,rfl,h2,rfl⟩:=hx;simp only[VRel]at h1 h2;subst h1 h2;exact(Fo a b w q E).mono λe w' ⟨h1,h2⟩=>⟨_,h1,by simp only[VRel],wW h2⟩
theorem tZ(a:List UInt8)(f:Bool)(q:a.length≤140737488351232):gX a f (fB false a f):=sum0_calls rfl rfl λS w ρ xs hx=>by
 simp only[LRel]at hx;obtain⟨x,ys,rfl,h1,y,zs,rfl,h2,rfl⟩:=hx;simp only[VRel]at h1 h2;subst h1 h2;exact(DV a f w (by omega)).mono λe w' ⟨h1,h2⟩=>⟨_,h1,by simp only[VRel],h2▸Chg.refl _ _⟩
abbrev Pce:=aa
def Qp(l:List Pce):Prop:=∀x∈l,x.Lead.length≤1000000∧x.Text.length≤1000010
theorem bA{a b:List Pce}:Qp (a++b)↔Qp a∧Qp b:=⟨λh=>⟨λx hx=>h x (by simp[hx]),λx hx=>h x (by simp[hx])⟩,λh x hx=>by rcases List.mem_append.1 hx with h1|h1;exact h.1 x h1;exact h.2 x h1⟩
theorem bd{x:Pce}{a:List Pce}:Qp (x::a)↔(x.Lead.length≤1000000∧x.Text.length≤1000010)∧Qp a:=⟨λh=>⟨h x (by simp),λy hy=>h y (by simp[hy])⟩,λh y hy=>by rcases List.mem_cons.1 hy with h1|h1;subst h1;exact h.1;exact h.2 y h1⟩
theorem bt:Qp []:=λx hx=>by cases hx
theorem aP(k:Nat)(ht:tbulk t≤1000000):∃s,ai t (k:Int) s∧s.length≤1000000:=by
 by_cases h:(k:Int)<(t.leads.length:Nat)
 ·obtain⟨s,q,_⟩|h':=aB t.leads k
  ·have :=rz q;have :=bo t;exact⟨s,lf 0 _ _ _ ⟨λ_=>⟨k,rfl,s,q,rfl⟩,λh'=>absurd h h'⟩,by omega⟩
  ·omega
 ·exact⟨[],lf 0 _ _ _ ⟨λh'=>absurd h' h,λ_=>rfl⟩,by simp⟩
def Pok(t:Tree):Prop:=∀l,l.length+8*tbulk t≤900000000→∃r,aj l t r∧r.length+1≤l.length+8*tbulk t∧(Qp l→Qp r)
theorem qL{k n:Int}:∀{l:List Tree} {i:Nat},shapeKs k n i l=true→∀j u,l[j]?=some u→gj k n ((i+j:Nat):Int) u.kind=true∧shapeK u=true
 |[],_,_,j,u,h=>by simp at h
 |t::r,i,q,0,u,h=>by
  simp only[shapeKs,Bool.and_eq_true]at q;simp at h;subst h;exact⟨q.1.1,q.1.2⟩
 |t::r,i,q,j+1,u,h=>by
  simp only[shapeKs,Bool.and_eq_true]at q;have :=qL q.2 j u (by simpa using h);rw[show i+1+j=i+(j+1) by omega]at this;exact this
theorem tN(q:shapeK t=true)(E:t.kids[i]?=some u):shapeK u=true∧gj t.kind t.kids.length i u.kind=true:=by
 rw[dR]at q;simp only[Bool.and_eq_true]at q;have :=qL q.2 i u E;rw[Nat.zero_add]at this;exact⟨this.2,this.1⟩
theorem nt(q:shapeK t=true):0≤cH t.kind t.kids.length:=by
 rw[dR]at q;simp only[Bool.and_eq_true,decide_eq_true_eq]at q;exact q.1.1
theorem eC(E:shapeK t=true):(t.kind=2→2≤t.kids.length)∧(t.kind=18→1≤t.kids.length)∧(t.kind=3∨t.kind=4∨t.kind=8∨t.kind=17∨t.kind=22→t.kids.length=1)∧(t.kind=19→t.kids.length=3)∧(t.kind=20∨t.kind=21→t.kids.length=2):=by
 have h:=nt E;refine⟨λq=>?_,λq=>?_,λq=>?_,λq=>?_,λq=>?_⟩
 ·rw[q]at h;simp only[cH,f0]at h;simp at h;omega
 ·rw[q]at h;simp only[cH,f0]at h;simp at h;omega
 ·rcases q with q|q|q|q|q<;>(rw[q]at h;simp only[cH,f0]at h;simp at h;omega)
 ·rw[q]at h;simp only[cH,f0]at h;simp at h;omega
 ·rcases q with q|q<;>(rw[q]at h;simp only[cH,f0]at h;simp at h;omega)
variable{l r:List Pce}
theorem dn1(M:Nat)(q:t.kind∉[(1:Int)])(h:gz M l t r):aj l t r:=kg M _ _ _ ⟨λe=>absurd (by simp[e]) q,λ_=>h⟩
theorem dn2(M:Nat)(q:t.kind∉[(1:Int),2])(h:gO M l t r):aj l t r:=dn1 (M+1) (λe=>q (by simp only[List.mem_cons,List.not_mem_nil,or_false]at e⊢;omega)) (jK M _ _ _ ⟨λe=>absurd (by simp[e]) q,λ_=>h⟩)
theorem dn3(M:Nat)(q:t.kind∉[(1:Int),2,3])(h:gL M l t r):aj l t r:=dn2 (M+1) (λe=>q (by simp only[List.mem_cons,List.not_mem_nil,or_false]at e⊢;omega)) (jO M _ _ _ ⟨λe=>absurd (by simp[e]) q,λ_=>h⟩)
theorem dn4(M:Nat)(q:t.kind∉[(1:Int),2,3,4])(h:gA M l t r):aj l t r:=dn3 (M+1) (λe=>q (by simp only[List.mem_cons,List.not_mem_nil,or_false]at e⊢;omega)) (jR M _ _ _ ⟨λe=>absurd (by simp[e]) q,λ_=>h⟩)
theorem dn5(M:Nat)(q:t.kind∉[(1:Int),2,3,4,5])(h:gI M l t r):aj l t r:=dn4 (M+1) (λe=>q (by simp only[List.mem_cons,List.not_mem_nil,or_false]at e⊢;omega)) (jC M _ _ _ ⟨λe=>absurd (by simp[e]) q,λ_=>h⟩)
theorem dn6(M:Nat)(q:t.kind∉[(1:Int),2,3,4,5,6])(h:fY M l t r):aj l t r:=dn5 (M+1) (λe=>q (by simp only[List.mem_cons,List.not_mem_nil,or_false]at e⊢;omega)) (jG M _ _ _ ⟨λe=>absurd (by simp[e]) q,λ_=>h⟩)
theorem dn7(M:Nat)(q:t.kind∉[(1:Int),2,3,4,5,6,7])(h:fV M l t r):aj l t r:=dn6 (M+1) (λe=>q (by simp only[List.mem_cons,List.not_mem_nil,or_false]at e⊢;omega)) (jq M _ _ _ ⟨λe=>absurd (by simp[e]) q,λ_=>h⟩)
theorem dn8(M:Nat)(q:t.kind∉[(1:Int),2,3,4,5,6,7,13])(h:gd M l t r):aj l t r:=dn7 (M+1) (λe=>q (by simp only[List.mem_cons,List.not_mem_nil,or_false]at e⊢;omega)) (jm M _ _ _ ⟨λe=>absurd (by simp[e]) q,λ_=>h⟩)
theorem dn9(M:Nat)(q:t.kind∉[(1:Int),2,3,4,5,6,7,13,14])(h:gc M l t r):aj l t r:=dn8 (M+1) (λe=>q (by simp only[List.mem_cons,List.not_mem_nil,or_false]at e⊢;omega)) (ji M _ _ _ ⟨λe=>absurd (by simp[e]) q,λ_=>h⟩)
theorem FA(M:Nat)(q:t.kind∉[(1:Int),2,3,4,5,6,7,13,14,15])(h:fS M l t r):aj l t r:=dn9 (M+1) (λe=>q (by simp only[List.mem_cons,List.not_mem_nil,or_false]at e⊢;omega)) (jk M _ _ _ ⟨λe=>absurd (by simp[e]) q,λ_=>h⟩)
theorem Ei(M:Nat)(q:t.kind∉[(1:Int),2,3,4,5,6,7,13,14,15,8])(h:fQ M l t r):aj l t r:=FA (M+1) (λe=>q (by simp only[List.mem_cons,List.not_mem_nil,or_false]at e⊢;omega)) (jo M _ _ _ ⟨λe=>absurd (by simp[e]) q,λ_=>h⟩)
theorem EJ(M:Nat)(q:t.kind∉[(1:Int),2,3,4,5,6,7,13,14,15,8,16])(h:fR M l t r):aj l t r:=Ei (M+1) (λe=>q (by simp only[List.mem_cons,List.not_mem_nil,or_false]at e⊢;omega)) (js M _ _ _ ⟨λe=>absurd (by simp[e]) q,λ_=>h⟩)
theorem ET(M:Nat)(q:t.kind∉[(1:Int),2,3,4,5,6,7,13,14,15,8,16,17])(h:fU M l t r):aj l t r:=EJ (M+1) (λe=>q (by simp only[List.mem_cons,List.not_mem_nil,or_false]at e⊢;omega)) (jh M _ _ _ ⟨λe=>absurd (by simp[e]) q,λ_=>h⟩)
theorem EO(M:Nat)(q:t.kind∉[(1:Int),2,3,4,5,6,7,13,14,15,8,16,17,18])(h:fT M l t r):aj l t r:=ET (M+1) (λe=>q (by simp only[List.mem_cons,List.not_mem_nil,or_false]at e⊢;omega)) (jf M _ _ _ ⟨λe=>absurd (by simp[e]) q,λ_=>h⟩)
theorem Ec(M:Nat)(q:t.kind∉[(1:Int),2,3,4,5,6,7,13,14,15,8,16,17,18,19])(h:gf M l t r):aj l t r:=EO (M+1) (λe=>q (by simp only[List.mem_cons,List.not_mem_nil,or_false]at e⊢;omega)) (jn M _ _ _ ⟨λe=>absurd (by simp[e]) q,λ_=>h⟩)
theorem Fq(M:Nat)(q:t.kind∉[(1:Int),2,3,4,5,6,7,13,14,15,8,16,17,18,19,20])(h:fX M l t r):aj l t r:=Ec (M+1) (λe=>q (by simp only[List.mem_cons,List.not_mem_nil,or_false]at e⊢;omega)) (jr M _ _ _ ⟨λe=>absurd (by simp[e]) q,λ_=>h⟩)
theorem Fc(M:Nat)(q:t.kind∉[(1:Int),2,3,4,5,6,7,13,14,15,8,16,17,18,19,20,21])(h:fW M l t r):aj l t r:=Fq (M+1) (λe=>q (by simp only[List.mem_cons,List.not_mem_nil,or_false]at e⊢;omega)) (jl M _ _ _ ⟨λe=>absurd (by simp[e]) q,λ_=>h⟩)
theorem p_5(q:t.kind=5)(ht:tbulk t≤1000000):Pok t:=λl U=>by
 obtain⟨s1,E,G⟩:=aP 0 ht;have J:=bj t;have M:=0;refine⟨l++[⟨s1,[73,110,116]⟩],?_,by simp;omega,λO=>by simp only[bA,bd];exact⟨O,⟨G,by decide⟩,bt⟩⟩;exact dn4 (M+2) (by rw[q];decide) (jC (M+1) _ _ _ ⟨λ_=>⟨_,E,by simp;omega,rfl⟩,λh=>absurd q h⟩)
theorem p_6(q:t.kind=6)(ht:tbulk t≤1000000):Pok t:=λl U=>by
 obtain⟨s1,E,G⟩:=aP 0 ht;have J:=bj t;have M:=0;refine⟨l++[⟨s1,[84,101,120,116]⟩],?_,by simp;omega,λO=>by simp only[bA,bd];exact⟨O,⟨G,by decide⟩,bt⟩⟩;exact dn5 (M+2) (by rw[q];decide) (jG (M+1) _ _ _ ⟨λ_=>⟨_,E,by simp;omega,rfl⟩,λh=>absurd q h⟩)
theorem p_7(q:t.kind=7)(ht:tbulk t≤1000000):Pok t:=λl U=>by
 obtain⟨s1,E,G⟩:=aP 0 ht;have J:=bj t;have M:=0;refine⟨l++[⟨s1,[66,111,111,108]⟩],?_,by simp;omega,λO=>by simp only[bA,bd];exact⟨O,⟨G,by decide⟩,bt⟩⟩;exact dn6 (M+2) (by rw[q];decide) (jq (M+1) _ _ _ ⟨λ_=>⟨_,E,by simp;omega,rfl⟩,λh=>absurd q h⟩)
theorem GV(q:t.kind=13)(ht:tbulk t≤1000000):Pok t:=λl U=>by
 obtain⟨s1,E,G⟩:=aP 0 ht;have J:=bj t;have M:=0;refine⟨l++[⟨s1,[116,114,117,101]⟩],?_,by simp;omega,λO=>by simp only[bA,bd];exact⟨O,⟨G,by decide⟩,bt⟩⟩;exact dn7 (M+2) (by rw[q];decide) (jm (M+1) _ _ _ ⟨λ_=>⟨_,E,by simp;omega,rfl⟩,λh=>absurd q h⟩)
theorem GM(q:t.kind=14)(ht:tbulk t≤1000000):Pok t:=λl U=>by
 obtain⟨s1,E,G⟩:=aP 0 ht;have J:=bj t;have M:=0;refine⟨l++[⟨s1,[102,97,108,115,101]⟩],?_,by simp;omega,λO=>by simp only[bA,bd];exact⟨O,⟨G,by decide⟩,bt⟩⟩;exact dn8 (M+2) (by rw[q];decide) (ji (M+1) _ _ _ ⟨λ_=>⟨_,E,by simp;omega,rfl⟩,λh=>absurd q h⟩)
theorem Gy(q:t.kind=15)(ht:tbulk t≤1000000):Pok t:=λl U=>by
 obtain⟨s1,E,G⟩:=aP 0 ht;have J:=bj t;have M:=0;refine⟨l++[⟨s1,[63]⟩],?_,by simp;omega,λO=>by simp only[bA,bd];exact⟨O,⟨G,by decide⟩,bt⟩⟩;exact dn9 (M+2) (by rw[q];decide) (jk (M+1) _ _ _ ⟨λ_=>⟨_,E,by simp;omega,rfl⟩,λh=>absurd q h⟩)
theorem nW{l:List Tree}(q:l[0]?=some u):tbulk u≤kbulk l:=mb q
variable{v:Tree}
theorem ti{l:List Tree}(q:l[0]?=some u)(h1:l[1]?=some v):tbulk u+tbulk v≤kbulk l:=by
 match l,q,h1 with
 |a::r,q,h1=>simp at q;subst q;have :=mb (ks:=r) (i:=0) (by simpa using h1);simp only[kbulk];omega
theorem Dm{l:List Tree}{x:Tree}(q:l[0]?=some u)(h1:l[1]?=some v)(h2:l[2]?=some x):tbulk u+tbulk v+tbulk x≤kbulk l:=by
 match l,q,h1,h2 with
 |a::r,q,h1,h2=>simp at q;subst q;have :=ti (l:=r) (by simpa using h1) (by simpa using h2);simp only[kbulk];omega
theorem p_3(E:t.kind=3)(hs:shapeK t=true)(ht:tbulk t≤1000000)(ih:∀(i:Nat) (u:Tree),t.kids[i]?=some u→Pok u):Pok t:=λl hl=>by
 have htp:=bj t;have htx:=co t;have hn:=eC hs;have M:=0;have hkn:t.kids.length=1:=hn.2.2.1 (by simp[E]);obtain⟨G,q,_⟩|h':=aB t.kids 0
 rotate_left
 ·omega
 have O:tbulk G+1≤tbulk t:=by
  have hb:=bo t;have hx:=nW q;omega
 obtain⟨s1,g1,b1⟩:=aP 0 ht;obtain⟨U,g2,b2⟩:=aP 1 ht;obtain⟨Z,g3,b3⟩:=aP 2 ht;have q1:Qp l→Qp (l++[⟨s1,[116,121,112,101]⟩,⟨U,t.text⟩,⟨Z,[61]⟩]):=λJ=>by simp only[bA,bd];exact⟨J,⟨b1,by decide⟩,⟨b2,by omega⟩,⟨b3,by decide⟩,bt⟩
 obtain⟨r0,e0,z0,y0⟩:=ih 0 G q (l++[⟨s1,[116,121,112,101]⟩,⟨U,t.text⟩,⟨Z,[61]⟩]) (by first|omega|(simp only[List.length_append,List.length_cons,List.length_nil];omega))
 try simp only[List.length_append,List.length_cons,List.length_nil]at z0
 refine⟨r0,?_,by first|omega|(simp only[List.length_append,List.length_cons,List.length_nil];omega),λJ=>(y0 (q1 J))⟩;exact dn2 (M+2) (by rw[E];decide) (jO (M+1) _ _ _ ⟨λ_=>nK (M) _ _ _ ⟨_,g1,_,g2,_,g3,by simp;omega,G,q,_,e0,rfl⟩,λh=>absurd E h⟩)
theorem p_4(E:t.kind=4)(Z:shapeK t=true)(ht:tbulk t≤1000000)(ih:∀(i:Nat) (u:Tree),t.kids[i]?=some u→Pok u):Pok t:=λl hl=>by
 have htp:=bj t;have htx:=co t;have hn:=eC Z;have M:=0;have hkn:t.kids.length=1:=hn.2.2.1 (by simp[E]);obtain⟨G,q,_⟩|h':=aB t.kids 0
 rotate_left
 ·omega
 have O:tbulk G+1≤tbulk t:=by
  have hb:=bo t;have hx:=nW q;omega
 obtain⟨s1,g1,b1⟩:=aP 0 ht;obtain⟨U,g2,b2⟩:=aP 1 ht;have q1:Qp l→Qp (l++[⟨s1,t.text⟩,⟨U,[58]⟩]):=λJ=>by simp only[bA,bd];exact⟨J,⟨b1,by omega⟩,⟨b2,by decide⟩,bt⟩
 obtain⟨r0,e0,z0,y0⟩:=ih 0 G q (l++[⟨s1,t.text⟩,⟨U,[58]⟩]) (by first|omega|(simp only[List.length_append,List.length_cons,List.length_nil];omega))
 try simp only[List.length_append,List.length_cons,List.length_nil]at z0
 refine⟨r0,?_,by first|omega|(simp only[List.length_append,List.length_cons,List.length_nil];omega),λJ=>(y0 (q1 J))⟩;exact dn3 (M+2) (by rw[E];decide) (jR (M+1) _ _ _ ⟨λ_=>nF (M) _ _ _ ⟨_,g1,_,g2,by simp;omega,G,q,_,e0,rfl⟩,λh=>absurd E h⟩)
theorem p_8(G:t.kind=8)(hs:shapeK t=true)(ht:tbulk t≤1000000)(ih:∀(i:Nat) (u:Tree),t.kids[i]?=some u→Pok u):Pok t:=λl hl=>by
 have htp:=bj t;have htx:=co t;have hn:=eC hs;have M:=0;have hkn:t.kids.length=1:=hn.2.2.1 (by simp[G]);obtain⟨J,q,_⟩|h':=aB t.kids 0
 rotate_left
 ·omega
 have U:tbulk J+1≤tbulk t:=by
  have hb:=bo t;have hx:=nW q;omega
 obtain⟨s1,g1,b1⟩:=aP 0 ht;have q1:Qp l→Qp (l++[⟨s1,[91]⟩]):=λE=>by simp only[bA,bd];exact⟨E,⟨b1,by decide⟩,bt⟩
 obtain⟨O,e0,z0,y0⟩:=ih 0 J q (l++[⟨s1,[91]⟩]) (by first|omega|(simp only[List.length_append,List.length_cons,List.length_nil];omega))
 try simp only[List.length_append,List.length_cons,List.length_nil]at z0
 obtain⟨Z,g2,b2⟩:=aP 1 ht;have q3:Qp O→Qp (O++[⟨Z,[93]⟩]):=λE=>by simp only[bA,bd];exact⟨E,⟨b2,by decide⟩,bt⟩
 refine⟨(O++[⟨Z,[93]⟩]),?_,by first|omega|(simp only[List.length_append,List.length_cons,List.length_nil];omega),λE=>(q3 (y0 (q1 E)))⟩;exact FA (M+2) (by rw[G];decide) (jo (M+1) _ _ _ ⟨λ_=>na (M) _ _ _ ⟨_,g1,by simp;omega,J,q,_,e0,_,g2,by simp;omega,rfl⟩,λh=>absurd G h⟩)
theorem GD(E:t.kind=17)(O:shapeK t=true)(ht:tbulk t≤1000000)(ih:∀(i:Nat) (u:Tree),t.kids[i]?=some u→Pok u):Pok t:=λl hl=>by
 have U:=bj t;have Z:=co t;have hn:=eC O;have M:=0;have hkn:t.kids.length=1:=hn.2.2.1 (by simp[E]);obtain⟨G,q,_⟩|h':=aB t.kids 0
 rotate_left
 ·omega
 have J:tbulk G+1≤tbulk t:=by
  have hb:=bo t;have hx:=nW q;omega
 obtain⟨r0,e0,z0,y0⟩:=ih 0 G q l (by first|omega|(simp only[List.length_append,List.length_cons,List.length_nil];omega))
 try simp only[List.length_append,List.length_cons,List.length_nil]at z0
 refine⟨r0,?_,by first|omega|(simp only[List.length_append,List.length_cons,List.length_nil];omega),λhq=>(y0 hq)⟩;exact EJ (M+2) (by rw[E];decide) (jh (M+1) _ _ _ ⟨λ_=>⟨G,q,_,e0,rfl⟩,λh=>absurd E h⟩)
theorem GE(O:t.kind=19)(hs:shapeK t=true)(ht:tbulk t≤1000000)(ih:∀(i:Nat) (u:Tree),t.kids[i]?=some u→Pok u):Pok t:=λl hl=>by
 have htp:=bj t;have htx:=co t;have hn:=eC hs;have M:=0;have hkn:t.kids.length=3:=hn.2.2.2.1 O;obtain⟨U,q,_⟩|h':=aB t.kids 0
 rotate_left
 ·omega
 obtain⟨Z,E,_⟩|h':=aB t.kids 1
 rotate_left
 ·omega
 obtain⟨u2,G,_⟩|h':=aB t.kids 2
 rotate_left
 ·omega
 have hsum:tbulk U+tbulk Z+tbulk u2+1≤tbulk t:=by
  have hb:=bo t;have hx:=Dm q E G;omega
 obtain⟨s1,g1,b1⟩:=aP 0 ht;have q1:Qp l→Qp (l++[⟨s1,[105,102]⟩]):=λJ=>by simp only[bA,bd];exact⟨J,⟨b1,by decide⟩,bt⟩
 obtain⟨r0,e0,z0,y0⟩:=ih 0 U q (l++[⟨s1,[105,102]⟩]) (by first|omega|(simp only[List.length_append,List.length_cons,List.length_nil];omega))
 try simp only[List.length_append,List.length_cons,List.length_nil]at z0
 obtain⟨s2,g2,b2⟩:=aP 1 ht;have q3:Qp r0→Qp (r0++[⟨s2,[116,104,101,110]⟩]):=λJ=>by simp only[bA,bd];exact⟨J,⟨b2,by decide⟩,bt⟩
 obtain⟨r1,e1,z1,y1⟩:=ih 1 Z E (r0++[⟨s2,[116,104,101,110]⟩]) (by first|omega|(simp only[List.length_append,List.length_cons,List.length_nil];omega))
 try simp only[List.length_append,List.length_cons,List.length_nil]at z1
 obtain⟨s3,g3,b3⟩:=aP 2 ht;have q5:Qp r1→Qp (r1++[⟨s3,[101,108,115,101]⟩]):=λJ=>by simp only[bA,bd];exact⟨J,⟨b3,by decide⟩,bt⟩
 obtain⟨r2,e2,z2,y2⟩:=ih 2 u2 G (r1++[⟨s3,[101,108,115,101]⟩]) (by first|omega|(simp only[List.length_append,List.length_cons,List.length_nil];omega))
 try simp only[List.length_append,List.length_cons,List.length_nil]at z2
 refine⟨r2,?_,by first|omega|(simp only[List.length_append,List.length_cons,List.length_nil];omega),λJ=>(y2 (q5 (y1 (q3 (y0 (q1 J))))))⟩;exact EO (M+2) (by rw[O];decide) (jn (M+1) _ _ _ ⟨λ_=>mW (M) _ _ _ ⟨U,q,_,g1,by simp;omega,_,e0,Z,E,_,g2,by simp;omega,_,e1,u2,G,_,g3,by simp;omega,_,e2,rfl⟩,λh=>absurd O h⟩)
theorem GN(J:t.kind=20)(hs:shapeK t=true)(ht:tbulk t≤1000000)(ih:∀(i:Nat) (u:Tree),t.kids[i]?=some u→Pok u):Pok t:=λl hl=>by
 have htp:=bj t;have htx:=co t;have hn:=eC hs;have M:=0;have hkn:t.kids.length=2:=hn.2.2.2.2 (by simp[J]);obtain⟨O,q,_⟩|h':=aB t.kids 0
 rotate_left
 ·omega
 obtain⟨U,E,_⟩|h':=aB t.kids 1
 rotate_left
 ·omega
 have hsum:tbulk O+tbulk U+1≤tbulk t:=by
  have hb:=bo t;have hx:=ti q E;omega
 obtain⟨s1,g1,b1⟩:=aP 0 ht;obtain⟨s2,g2,b2⟩:=aP 1 ht;obtain⟨s3,g3,b3⟩:=aP 2 ht;have q1:Qp l→Qp (l++[⟨s1,[108,101,116]⟩,⟨s2,t.text⟩,⟨s3,[61]⟩]):=λG=>by simp only[bA,bd];exact⟨G,⟨b1,by decide⟩,⟨b2,by omega⟩,⟨b3,by decide⟩,bt⟩
 obtain⟨Z,e0,z0,y0⟩:=ih 0 O q (l++[⟨s1,[108,101,116]⟩,⟨s2,t.text⟩,⟨s3,[61]⟩]) (by first|omega|(simp only[List.length_append,List.length_cons,List.length_nil];omega))
 try simp only[List.length_append,List.length_cons,List.length_nil]at z0
 obtain⟨s4,g4,b4⟩:=aP 3 ht;have q3:Qp Z→Qp (Z++[⟨s4,[105,110]⟩]):=λG=>by simp only[bA,bd];exact⟨G,⟨b4,by decide⟩,bt⟩
 obtain⟨r1,e1,z1,y1⟩:=ih 1 U E (Z++[⟨s4,[105,110]⟩]) (by first|omega|(simp only[List.length_append,List.length_cons,List.length_nil];omega))
 try simp only[List.length_append,List.length_cons,List.length_nil]at z1
 refine⟨r1,?_,by first|omega|(simp only[List.length_append,List.length_cons,List.length_nil];omega),λG=>(y1 (q3 (y0 (q1 G))))⟩;exact Ec (M+2) (by rw[J];decide) (jr (M+1) _ _ _ ⟨λ_=>mT (M) _ _ _ ⟨_,g1,_,g2,_,g3,by simp;omega,O,q,_,e0,_,g4,by simp;omega,U,E,_,e1,rfl⟩,λh=>absurd J h⟩)
theorem Hb(G:t.kind=21)(hs:shapeK t=true)(ht:tbulk t≤1000000)(ih:∀(i:Nat) (u:Tree),t.kids[i]?=some u→Pok u):Pok t:=λl hl=>by
 have htp:=bj t;have htx:=co t;have hn:=eC hs;have M:=0;have hkn:t.kids.length=2:=hn.2.2.2.2 (by simp[G]);obtain⟨J,q,_⟩|h':=aB t.kids 0
 rotate_left
 ·omega
 obtain⟨O,E,_⟩|h':=aB t.kids 1
 rotate_left
 ·omega
 have hsum:tbulk J+tbulk O+1≤tbulk t:=by
  have hb:=bo t;have hx:=ti q E;omega
 obtain⟨U,e0,z0,y0⟩:=ih 0 J q l (by first|omega|(simp only[List.length_append,List.length_cons,List.length_nil];omega))
 try simp only[List.length_append,List.length_cons,List.length_nil]at z0
 obtain⟨s1,g1,b1⟩:=aP 0 ht;have q2:Qp U→Qp (U++[⟨s1,t.text⟩]):=λZ=>by simp only[bA,bd];exact⟨Z,⟨b1,by omega⟩,bt⟩
 obtain⟨r1,e1,z1,y1⟩:=ih 1 O E (U++[⟨s1,t.text⟩]) (by first|omega|(simp only[List.length_append,List.length_cons,List.length_nil];omega))
 try simp only[List.length_append,List.length_cons,List.length_nil]at z1
 refine⟨r1,?_,by first|omega|(simp only[List.length_append,List.length_cons,List.length_nil];omega),λZ=>(y1 (q2 (y0 Z)))⟩;exact Fq (M+2) (by rw[G];decide) (jl (M+1) _ _ _ ⟨λ_=>mX (M) _ _ _ ⟨J,q,_,e0,_,g1,by simp;omega,O,E,_,e1,rfl⟩,λh=>absurd G h⟩)
theorem GH(G:t.kind=22)(hs:shapeK t=true)(ht:tbulk t≤1000000)(ih:∀(i:Nat) (u:Tree),t.kids[i]?=some u→Pok u):Pok t:=λl hl=>by
 have htp:=bj t;have htx:=co t;have hn:=eC hs;have M:=0;have hkn:t.kids.length=1:=hn.2.2.1 (by simp[G]);obtain⟨J,q,_⟩|h':=aB t.kids 0
 rotate_left
 ·omega
 have U:tbulk J+1≤tbulk t:=by
  have hb:=bo t;have hx:=nW q;omega
 obtain⟨s1,g1,b1⟩:=aP 0 ht;have q1:Qp l→Qp (l++[⟨s1,[40]⟩]):=λE=>by simp only[bA,bd];exact⟨E,⟨b1,by decide⟩,bt⟩
 obtain⟨O,e0,z0,y0⟩:=ih 0 J q (l++[⟨s1,[40]⟩]) (by first|omega|(simp only[List.length_append,List.length_cons,List.length_nil];omega))
 try simp only[List.length_append,List.length_cons,List.length_nil]at z0
 obtain⟨Z,g2,b2⟩:=aP 1 ht;have q3:Qp O→Qp (O++[⟨Z,[41]⟩]):=λE=>by simp only[bA,bd];exact⟨E,⟨b2,by decide⟩,bt⟩
 refine⟨(O++[⟨Z,[41]⟩]),?_,by first|omega|(simp only[List.length_append,List.length_cons,List.length_nil];omega),λE=>(q3 (y0 (q1 E)))⟩;exact Fc (M+2) (by rw[G];decide) (jj (M+1) _ _ _ ⟨λ_=>mV (M) _ _ _ ⟨_,g1,by simp;omega,J,q,_,e0,_,g2,by simp;omega,rfl⟩,λh=>absurd G h⟩)
theorem EK(q:∀c:Int,c∈[(1:Int),2,3,4,5,6,7,13,14,15,8,16,17,18,19,20,21,22]→t.kind≠c)(ht:tbulk t≤1000000):Pok t:=λl Z=>by
 obtain⟨s1,E,G⟩:=aP 0 ht;have J:=bj t;have O:=co t;have M:=0;refine⟨l++[⟨s1,t.text⟩],?_,by simp;omega,λU=>by simp only[bA,bd];exact⟨U,⟨G,by omega⟩,bt⟩⟩;exact Fc (M+2) (λe=>q t.kind (by simp only[List.mem_cons,List.not_mem_nil,or_false]at e⊢;omega) rfl) (jj (M+1) _ _ _ ⟨λh=>absurd h (q 22 (by decide)),λ_=>⟨_,E,by simp;omega,rfl⟩⟩)
theorem zl(ht:tbulk t≤1000000)(ih:∀(i:Nat) (u:Tree),t.kids[i]?=some u→Pok u)(n comma:Nat)(hn:n≤t.kids.length)(hc:comma≤10):∀l,l.length+8*kbulk (t.kids.take n)≤899999999→∃r,dj l t 0 (n:Int) (comma:Int) r∧r.length≤l.length+8*kbulk (t.kids.take n)∧(Qp l→Qp r):=by
 have hk:=dB t;have loop:∀k i l,n-i≤k→i≤n→l.length+8*kbulk ((t.kids.take n).drop i)≤899999999→∃r,dJ (k+1) t 0 (n:Int) (comma:Int) l (i:Int) r∧r.length≤l.length+8*kbulk ((t.kids.take n).drop i)∧(Qp l→Qp r):=λk=>by
  induction k with
  |zero=>
   intro i l hi hle hl;exact⟨l,fc 0 _ _ _ _ _ _ _ ⟨λh=>by omega,λ_=>rfl⟩,by omega,λh=>h⟩
  | succ k ihk=>
   intro i l hi hle hl;by_cases hin:i<n
   ·obtain⟨u,hu,hul⟩|h':=aB t.kids i
    ·have hu':(t.kids.take n)[i]?=some u:=by rw[List.getElem?_take,if_pos hin];exact hu
     have hd:=cm hu';rw[hd,kbulk]at hl⊢;have hup:=bj u;by_cases h0:0<i
     ·obtain⟨s,g,b⟩:=aP (t:=t) (comma+i-1) ht;have g':ai t ((((comma:Int)+(i:Int))-0)-1) s:=by rw[show(((comma:Int)+(i:Int))-0)-1=((comma+i-1:Nat):Int) by omega];exact g
      obtain⟨r,e,z,y⟩:=ih i u hu (l++[⟨s,[44]⟩]) (by simp;omega);simp only[List.length_append,List.length_cons,List.length_nil]at z;obtain⟨r2,e2,z2,y2⟩:=ihk (i+1) r (by omega) (by omega) (by omega);refine⟨r2,fc (k+1) _ _ _ _ _ _ _ ⟨λ_=>⟨λ_=>⟨by omega,by omega,by omega,s,g',by simp;omega,i,rfl,u,hu,r,e,by omega,?_⟩,λh=>by omega⟩,λh=>by omega⟩,by omega,λhq=>y2 (y (by simp only[bA,bd];exact⟨hq,⟨b,by decide⟩,bt⟩))⟩;exact e2
     ·obtain⟨r,e,z,y⟩:=ih i u hu l (by omega);obtain⟨r2,e2,z2,y2⟩:=ihk (i+1) r (by omega) (by omega) (by omega);refine⟨r2,fc (k+1) _ _ _ _ _ _ _ ⟨λ_=>⟨λh=>by omega,λ_=>⟨i,rfl,u,hu,r,e,by omega,e2⟩⟩,λh=>by omega⟩,by omega,λhq=>y2 (y hq)⟩
    ·omega
   ·exact⟨l,fc (k+1) _ _ _ _ _ _ _ ⟨λh=>by omega,λ_=>rfl⟩,by omega,λh=>h⟩
 intro l hl;have h1:kbulk (t.kids.take n)≤kbulk t.kids:=by
  have :∀(l:List Tree) n,kbulk (l.take n)≤kbulk l:=λl=>by
   induction l with
   |nil=>intro n;simp
   |cons a r ih=>intro n;cases n with
    |zero=>simp[kbulk]
    |succ n=>have :=ih n;simp only[List.take_succ_cons,kbulk];omega
  exact this _ _
 have h2:=bo t;obtain⟨r,e,z,y⟩:=loop n 0 l (by omega) (by omega) (by simpa using hl);exact⟨r,pM (n+1) _ _ _ _ _ _ e,by simpa using z,y⟩
theorem qT(l:List Tree)(n:Nat):kbulk (l.take n)+kbulk (l.drop n)=kbulk l:=by rw[←tA,List.take_append_drop]
theorem GA(q:t.kind=16)(hs:shapeK t=true)(ht:tbulk t≤1000000)(ih:∀(i:Nat) (u:Tree),t.kids[i]?=some u→Pok u):Pok t:=λl hl=>by
 have hb:=bo t;have E:=co t;have M:=0;obtain⟨s1,G,J⟩:=aP 0 ht;obtain⟨O,U,Z⟩:=aP 1 ht;obtain⟨r,e,z,y⟩:=zl ht ih t.kids.length 3 (Nat.le_refl _) (by decide) (l++[⟨s1,t.text⟩,⟨O,[40]⟩]) (by simp only[List.length_append,List.length_cons,List.length_nil,List.take_length];omega);simp only[List.length_append,List.length_cons,List.length_nil,List.take_length]at z;obtain⟨s9,g9,b9⟩:=aP 2 ht;refine⟨r++[⟨s9,[41]⟩],?_,by simp only[List.length_append,List.length_cons,List.length_nil];omega,λhq=>by
  have :=y (by simp only[bA,bd];exact⟨hq,⟨J,by omega⟩,⟨Z,by decide⟩,bt⟩);simp only[bA,bd];exact⟨this,⟨b9,by decide⟩,bt⟩⟩
 exact Ei (M+2) (by rw[q];decide) (js (M+1) _ _ _ ⟨λ_=>mU (M) _ _ _ ⟨_,G,_,U,by simp only[List.length_append,List.length_cons,List.length_nil];omega,_,e,_,g9,by simp only[List.length_append,List.length_cons,List.length_nil];omega,rfl⟩,λh=>absurd q h⟩)
theorem GZ(q:t.kind=18)(hs:shapeK t=true)(ht:tbulk t≤1000000)(ih:∀(i:Nat) (u:Tree),t.kids[i]?=some u→Pok u):Pok t:=λl hl=>by
 have hb:=bo t;have E:=co t;have M:=0;obtain⟨s1,G,J⟩:=aP 0 ht;obtain⟨r,e,z,y⟩:=zl ht ih t.kids.length 2 (Nat.le_refl _) (by decide) (l++[⟨s1,[91]⟩]) (by simp only[List.length_append,List.length_cons,List.length_nil,List.take_length];omega);simp only[List.length_append,List.length_cons,List.length_nil,List.take_length]at z;obtain⟨O,U,Z⟩:=aP 1 ht;refine⟨r++[⟨O,[93]⟩],?_,by simp only[List.length_append,List.length_cons,List.length_nil];omega,λhq=>by
  have :=y (by simp only[bA,bd];exact⟨hq,⟨J,by decide⟩,bt⟩);simp only[bA,bd];exact⟨this,⟨Z,by decide⟩,bt⟩⟩
 exact ET (M+2) (by rw[q];decide) (jf (M+1) _ _ _ ⟨λ_=>nb (M) _ _ _ ⟨_,G,by simp only[List.length_append,List.length_cons,List.length_nil];omega,_,e,_,U,by simp only[List.length_append,List.length_cons,List.length_nil];omega,rfl⟩,λh=>absurd q h⟩)
theorem p_2(q:t.kind=2)(hs:shapeK t=true)(ht:tbulk t≤1000000)(ih:∀(i:Nat) (u:Tree),t.kids[i]?=some u→Pok u):Pok t:=λl hl=>by
 have hb:=bo t;have htx:=co t;have hn:=(eC hs).1 q;have hkl:=dB t;have M:=0;obtain⟨s1,g1,b1⟩:=aP 0 ht;obtain⟨U,g2,b2⟩:=aP 1 ht;obtain⟨Z,g3,b3⟩:=aP 2 ht;obtain⟨s4,g4,b4⟩:=aP 3 ht;obtain⟨s5,g5,b5⟩:=aP 4 ht;obtain⟨s6,g6,b6⟩:=aP 5 ht;obtain⟨r,e,z,y⟩:=zl ht ih (t.kids.length-2) 6 (by omega) (by decide) (l++[⟨s1,[100,101,102]⟩,⟨U,t.text⟩,⟨Z,[40]⟩]) (by have :=qT t.kids (t.kids.length-2);simp only[List.length_append,List.length_cons,List.length_nil];omega);simp only[List.length_append,List.length_cons,List.length_nil]at z;obtain⟨u,E,_⟩|h':=aB t.kids (t.kids.length-2)
 rotate_left
 ·omega
 obtain⟨v,hv,_⟩|h':=aB t.kids (t.kids.length-1)
 rotate_left
 ·omega
 have G:=qT t.kids (t.kids.length-2);have J:=cm E;have O:t.kids.drop (t.kids.length-2+1)=v::t.kids.drop (t.kids.length-1+1):=by rw[show t.kids.length-2+1=t.kids.length-1 by omega];exact cm hv
 rw[J,kbulk,O,kbulk]at G;have hup:=bj u;have hvp:=bj v;have e':dj (l++[⟨s1,[100,101,102]⟩,⟨U,t.text⟩,⟨Z,[40]⟩]) t 0 (((t.kids.length:Nat):Int)-2) 6 r:=by rw[show((t.kids.length:Nat):Int)-2=((t.kids.length-2:Nat):Int) by omega];exact e
 obtain⟨r1,e1,z1,y1⟩:=ih _ u E (r++[⟨s4,[41]⟩,⟨s5,[58]⟩]) (by simp only[List.length_append,List.length_cons,List.length_nil];omega);simp only[List.length_append,List.length_cons,List.length_nil]at z1;obtain⟨r2,e2,z2,y2⟩:=ih _ v hv (r1++[⟨s6,[61]⟩]) (by simp only[List.length_append,List.length_cons,List.length_nil];omega);simp only[List.length_append,List.length_cons,List.length_nil]at z2;refine⟨r2,?_,by omega,λhq=>?_⟩
 ·exact dn1 (M+2) (by rw[q];decide) (jK (M+1) _ _ _ ⟨λ_=>nD (M) _ _ _ ⟨_,g1,_,g2,_,g3,by simp only[List.length_append,List.length_cons,List.length_nil];omega,by omega,r,e',_,g4,_,g5,by simp only[List.length_append,List.length_cons,List.length_nil];omega,by omega,t.kids.length-2,by omega,u,E,r1,e1,_,g6,by simp only[List.length_append,List.length_cons,List.length_nil];omega,by omega,t.kids.length-1,by omega,v,hv,r2,e2,rfl⟩,λh=>absurd q h⟩)
 ·have q1:=y (by simp only[bA,bd];exact⟨hq,⟨b1,by decide⟩,⟨b2,by omega⟩,⟨b3,by decide⟩,bt⟩);have q2:=y1 (by simp only[bA,bd];exact⟨q1,⟨b4,by decide⟩,⟨b5,by decide⟩,bt⟩);exact y2 (by simp only[bA,bd];exact⟨q2,⟨b6,by decide⟩,bt⟩)
theorem p_1(hk:t.kind=1)(hs:shapeK t=true)(ht:tbulk t≤1000000)(ih:∀(i:Nat) (u:Tree),t.kids[i]?=some u→Pok u):Pok t:=λl hl=>by
 have hb:=bo t;have htx:=co t;have hkl:=dB t;obtain⟨s1,g1,b1⟩:=aP 0 ht;obtain⟨s2,g2,b2⟩:=aP 1 ht;obtain⟨s3,g3,b3⟩:=aP 2 ht;have loop:∀k i l,t.kids.length-i≤k→l.length+8*kbulk (t.kids.drop i)≤899999996→∃r,cX (k+1) t l i r∧r.length≤l.length+8*kbulk (t.kids.drop i)+1∧(Qp l→Qp r):=λk=>by
  have last:∀k i l,¬i<t.kids.length→l.length≤899999996→∃r,cX (k+1) t l i r∧r.length≤l.length+8*kbulk (t.kids.drop i)+1∧(Qp l→Qp r):=λk i l hi hl=>by
   refine⟨l++[⟨s3,[]⟩],jS k _ _ _ _ ⟨λh=>absurd h hi,λ_=>⟨s3,g3,by simp only[List.length_append,List.length_cons,List.length_nil];omega,rfl⟩⟩,by simp only[List.length_append,List.length_cons,List.length_nil];omega,λhq=>by simp only[bA,bd];exact⟨hq,⟨b3,by decide⟩,bt⟩⟩
  induction k with
  |zero=>intro i l hi hl;exact last 0 i l (by omega) (by omega)
  | succ k ihk=>
   intro i l hi hl;obtain⟨u,hu,hul⟩|h':=aB t.kids i
   ·have hd:=cm hu;rw[hd,kbulk]at hl⊢;obtain⟨r,e,z,y⟩:=ih i u hu l (by omega);obtain⟨r2,e2,z2,y2⟩:=ihk (i+1) r (by omega) (by omega);exact⟨r2,jS (k+1) _ _ _ _ ⟨λ_=>⟨u,hu,r,e,by omega,e2⟩,λh=>absurd hul h⟩,by omega,λhq=>y2 (y hq)⟩
   ·exact last (k+1) i l h' (by omega)
 obtain⟨r,e,z,y⟩:=loop t.kids.length 0 (l++[⟨s1,[109,111,100,117,108,101]⟩,⟨s2,t.text⟩]) (by omega) (by simp only[List.length_append,List.length_cons,List.length_nil,List.drop_zero];omega);simp only[List.length_append,List.length_cons,List.length_nil,List.drop_zero]at z;refine⟨r,kg (t.kids.length+2) _ _ _ ⟨λ_=>nE (t.kids.length+1) _ _ _ ⟨_,g1,_,g2,by simp only[List.length_append,List.length_cons,List.length_nil];omega,e⟩,λh=>absurd hk h⟩,by omega,λhq=>y (by simp only[bA,bd];exact⟨hq,⟨b1,by decide⟩,⟨b2,by omega⟩,bt⟩)⟩
theorem BF:∀t:Tree,tbulk t≤1000000→shapeK t=true→Pok t:=cn λt ih ht q=>by
 have ih':∀(i:Nat) (u:Tree),t.kids[i]?=some u→Pok u:=λi u G=>ih i u G (by have :=dO G;omega) (tN q G).1;by_cases h:∃c∈[(1:Int),2,3,4,5,6,7,13,14,15,8,16,17,18,19,20,21,22],t.kind=c
 ·obtain⟨c,E,e⟩:=h;simp only[List.mem_cons,List.not_mem_nil,or_false]at E;rcases E with rfl|rfl|rfl|rfl|rfl|rfl|rfl|rfl|rfl|rfl|rfl|rfl|rfl|rfl|rfl|rfl|rfl|rfl
  ·exact p_1 e q ht ih'
  ·exact p_2 e q ht ih'
  ·exact p_3 e q ht ih'
  ·exact p_4 e q ht ih'
  ·exact p_5 e ht
  ·exact p_6 e ht
  ·exact p_7 e ht
  ·exact GV e ht
  ·exact GM e ht
  ·exact Gy e ht
  ·exact p_8 e q ht ih'
  ·exact GA e q ht ih'
  ·exact GD e q ht ih'
  ·exact GZ e q ht ih'
  ·exact GE e q ht ih'
  ·exact GN e q ht ih'
  ·exact Hb e q ht ih'
  ·exact GH e q ht ih'
 ·exact EK (λc E e=>h ⟨c,E,e⟩) ht
theorem Bw:∀t:Tree,tbulk t≤1000000→∃b,fh t b:=cn λt ih ht=>by
 have hk:=dB t;have hl:=tt t;have kids:∀k i,t.kids.length-i≤k→∃b,ew (k+1) t i b:=λk=>by
  induction k with
  |zero=>intro i hi;exact⟨_,dZ 0 _ _ _ ⟨λh=>by omega,λ_=>rfl⟩⟩
  | succ k ihk=>
   intro i hi;obtain⟨u,hu,hul⟩|h':=aB t.kids i
   ·have :=dO hu;obtain⟨b,hb⟩:=ih i u hu (by omega);cases b with
    |false=>exact⟨false,dZ (k+1) _ _ _ ⟨λ_=>⟨u,hu,_,hb,λ_=>rfl,λh=>(by cases h)⟩,λh=>absurd hul h⟩⟩
    |true=>
     obtain⟨b2,hb2⟩:=ihk (i+1) (by omega);exact⟨b2,dZ (k+1) _ _ _ ⟨λ_=>⟨u,hu,_,hb,λh=>(by cases h),λ_=>hb2⟩,λh=>absurd hul h⟩⟩
   ·exact⟨true,dZ (k+1) _ _ _ ⟨λh=>absurd h h',λ_=>rfl⟩⟩
 have lead:∀k i,t.leads.length-i≤k→∃b M,ce M t i b:=λk=>by
  have last:∀i,¬i<t.leads.length→∃b M,ce M t i b:=λi hi=>by
   obtain⟨b,hb⟩:=kids t.kids.length 0 (by omega);exact⟨b,_,cZ _ _ _ _ ⟨λh=>absurd h hi,λ_=>hb⟩⟩
  induction k with
  |zero=>intro i hi;exact last i (by omega)
  | succ k ihk=>
   intro i hi;obtain⟨s,hs,hsl⟩|h':=aB t.leads i
   ·have :=rz hs;have :=bo t;obtain⟨b2,M,hb2⟩:=ihk (i+1) (by omega);by_cases h1:t.kind=1
    ·have ht1:=tZ s (((i:Nat):Int)==2) (by omega);cases hb:fB false s (((i:Nat):Int)==2)with
     |false=>rw[hb]at ht1;exact⟨false,1,cZ 0 _ _ _ ⟨λ_=>⟨s,hs,λ_=>⟨_,ht1,λ_=>rfl,λh=>(by cases h)⟩,λh=>absurd h1 h⟩,λh=>absurd hsl h⟩⟩
     |true=>rw[hb]at ht1;exact⟨b2,M+1,cZ M _ _ _ ⟨λ_=>⟨s,hs,λ_=>⟨_,ht1,λh=>(by cases h),λ_=>hb2⟩,λh=>absurd h1 h⟩,λh=>absurd hsl h⟩⟩
    ·have ht1:=tZ s false (by omega);cases hb:fB false s false with
     |false=>rw[hb]at ht1;exact⟨false,1,cZ 0 _ _ _ ⟨λ_=>⟨s,hs,λh=>absurd h h1,λ_=>⟨_,ht1,λ_=>rfl,λh=>(by cases h)⟩⟩,λh=>absurd hsl h⟩⟩
     |true=>rw[hb]at ht1;exact⟨b2,M+1,cZ M _ _ _ ⟨λ_=>⟨s,hs,λh=>absurd h h1,λ_=>⟨_,ht1,λh=>(by cases h),λ_=>hb2⟩⟩,λh=>absurd hsl h⟩⟩
   ·exact last i h'
 by_cases h:((t.leads.length:Nat):Int)=cH t.kind t.kids.length
 ·obtain⟨b,M,hb⟩:=lead t.leads.length 0 (by omega);exact⟨b,la M _ _ ⟨_,oB (by omega) (by omega),λh'=>absurd h h',λ_=>hb⟩⟩
 ·exact⟨false,la 0 _ _ ⟨_,oB (by omega) (by omega),λ_=>rfl,λh'=>absurd h' h⟩⟩
theorem zU:∀t:Tree,tbulk t≤1000000→∃b,eD t b:=cn λt ih ht=>by
 have hk:=dB t;have kids:∀k i,t.kids.length-i≤k→∃b,av (k+1) t i b:=λk=>by
  induction k with
  |zero=>intro i hi;exact⟨_,dE 0 _ _ _ ⟨λh=>by omega,λ_=>rfl⟩⟩
  | succ k ihk=>
   intro i hi;obtain⟨u,hu,hul⟩|h':=aB t.kids i
   ·have :=dO hu;obtain⟨b,hb⟩:=ih i u hu (by omega);cases b with
    |false=>exact⟨false,dE (k+1) _ _ _ ⟨λ_=>⟨u,hu,_,hb,λ_=>rfl,λh=>(by cases h)⟩,λh=>absurd hul h⟩⟩
    |true=>
     obtain⟨b2,hb2⟩:=ihk (i+1) (by omega);exact⟨b2,dE (k+1) _ _ _ ⟨λ_=>⟨u,hu,_,hb,λh=>(by cases h),λ_=>⟨by omega,hb2⟩⟩,λh=>absurd hul h⟩⟩
   ·exact⟨true,dE (k+1) _ _ _ ⟨λh=>absurd h h',λ_=>rfl⟩⟩
 obtain⟨b,hb⟩:=kids t.kids.length 0 (by omega);by_cases hall:(t.kind=1∧(40:Int)<t.kids.length)∨(t.kind=2∧(10:Int)<t.kids.length)∨(t.kind=16∧(8:Int)<t.kids.length)∨(t.kind=18∧(16:Int)<t.kids.length)
 ·refine⟨false,kh (t.kids.length+1) _ _ ?_⟩
  repeat' (refine And.intro (λ_=>?_) (λ_=>?_))
  all_goals first|rfl|(exfalso;omega)
 ·refine⟨b,kh (t.kids.length+1) _ _ ?_⟩
  repeat' (refine And.intro (λ_=>?_) (λ_=>?_))
  all_goals first|exact hb|(exfalso;omega)
theorem Bo:∀t:Tree,tbulk t≤1000000→∃n,fi t n∧0≤n∧n≤tbulk t:=cn λt ih ht=>by
 have hk:=dB t;have kids:∀k i (z:Int),t.kids.length-i≤k→0≤z→z<tbulk t→∃n,ev (k+1) t z i n∧0≤n∧n≤tbulk t:=λk=>by
  induction k with
  |zero=>intro i z hi h0 hz;exact⟨_,gN 0 _ _ _ _ ⟨λh=>by omega,λ_=>⟨by omega,rfl⟩⟩,by omega,by omega⟩
  | succ k ihk=>
   intro i z hi h0 hz;obtain⟨u,hu,hul⟩|h':=aB t.kids i
   ·have :=dO hu;obtain⟨n,hn,n0,n1⟩:=ih i u hu (by omega);obtain⟨r,hr,r0,r1⟩:=ihk (i+1) (max z n) (by omega) (by omega) (by omega);exact⟨r,gN (k+1) _ _ _ _ ⟨λ_=>⟨u,hu,_,hn,hr⟩,λh=>absurd hul h⟩,r0,r1⟩
   ·exact⟨_,gN (k+1) _ _ _ _ ⟨λh=>absurd h h',λ_=>⟨by omega,rfl⟩⟩,by omega,by omega⟩
 obtain⟨n,hn,n0,n1⟩:=kids t.kids.length 0 0 (by omega) (by omega) (by have :=bj t;omega);exact⟨n,oG _ _ _ hn,n0,n1⟩
theorem pw(t:Tree)(ht:tbulk t≤1000000):∃b,dp t b∧(b=true→shapeK t=true):=by
 have h1:=tB t (by omega);cases q:shapeK t with
 |false=>rw[q]at h1;exact⟨false,iR 0 _ _ ⟨_,h1,λh=>by(cases h),λ_=>rfl⟩,λh=>(by cases h)⟩
 |true=>
  rw[q]at h1;obtain⟨b,E⟩:=Bw t ht;exact⟨b,iR 0 _ _ ⟨_,h1,λ_=>⟨_,E,rfl⟩,λh=>(by cases h)⟩,λ_=>rfl⟩
theorem Cj (t:Tree) (ht:tbulk t≤1000000):∃s,it t s:=by
 obtain⟨b,hb,hs⟩:=pw t ht;cases b with
 |false=>exact⟨[],ky 0 _ _ ⟨_,hb,λ_=>rfl,λh=>(by cases h)⟩⟩
 | true =>
  obtain⟨l,e,z,q⟩:=BF t ht (hs rfl) [] (by simp;omega);have hq:=q bt;simp only[List.length_nil]at z;have loop:∀k i (s:List UInt8),l.length-i≤k→s.length≤i*2000020→i≤l.length→∃r,bx (k+1) l s i r:=λk=>by
   induction k with
   |zero=>intro i s hi hsl hil;exact⟨_,bT 0 _ _ _ _ ⟨λh=>by omega,λ_=>rfl⟩⟩
   | succ k ihk=>
    intro i s hi hsl hil;obtain⟨x,hx,hxl⟩|h':=aB l i
    ·obtain⟨hx1,hx2⟩:=hq x (List.mem_of_getElem? hx);have hmul:(i+1)*2000020=i*2000020+2000020:=Nat.succ_mul _ _;obtain⟨r1,hr1⟩:=ihk (i+1) (((s++[32])++x.Lead)++x.Text) (by omega) (by simp only[List.length_append,List.length_cons,List.length_nil];omega) (by omega);obtain⟨r2,hr2⟩:=ihk (i+1) ((s++x.Lead)++x.Text) (by omega) (by simp only[List.length_append];omega) (by omega);have plain:s.length+x.Lead.length≤9223372036854775807∧∃y:Pce,l[i]?=some y∧(s++x.Lead).length+y.Text.length≤9223372036854775807∧bx (k+1) l ((s++x.Lead)++y.Text) (i+1) r2:=⟨by omega,x,hx,by simp only[List.length_append];omega,hr2⟩;by_cases h0:(0:Int)<((i:Nat):Int)
     ·by_cases hle:x.Lead=[]
      ·obtain⟨y,hy,hyl⟩|h':=aB l (i-1)
       rotate_left
       ·omega
       obtain⟨hy1,hy2⟩:=hq y (List.mem_of_getElem? hy);have hf:=BN y.Text x.Text (by omega) (by omega);cases hb2:fusesT y.Text x.Text with
       |true=>
        rw[hb2]at hf;exact⟨r1,bT (k+1) _ _ _ _ ⟨λ_=>⟨λ_=>⟨x,hx,λ_=>⟨by omega,i-1,by omega,y,hy,x,hx,_,hf,λ_=>⟨by simp only[List.length_cons,List.length_nil];omega,x,hx,by simp only[List.length_append,List.length_cons,List.length_nil];omega,x,hx,by simp only[List.length_append,List.length_cons,List.length_nil];omega,hr1⟩,λh=>by(cases h)⟩,λh=>absurd hle h⟩,λh=>absurd h0 h⟩,λh=>absurd hxl h⟩⟩
       |false=>
        rw[hb2]at hf;exact⟨r2,bT (k+1) _ _ _ _ ⟨λ_=>⟨λ_=>⟨x,hx,λ_=>⟨by omega,i-1,by omega,y,hy,x,hx,_,hf,λh=>by(cases h),λ_=>⟨x,hx,plain⟩⟩,λh=>absurd hle h⟩,λh=>absurd h0 h⟩,λh=>absurd hxl h⟩⟩
      ·exact⟨r2,bT (k+1) _ _ _ _ ⟨λ_=>⟨λ_=>⟨x,hx,λh=>absurd h hle,λ_=>⟨x,hx,plain⟩⟩,λh=>absurd h0 h⟩,λh=>absurd hxl h⟩⟩
     ·exact⟨r2,bT (k+1) _ _ _ _ ⟨λ_=>⟨λh=>absurd h h0,λ_=>⟨x,hx,plain⟩⟩,λh=>absurd hxl h⟩⟩
    ·exact⟨s,bT (k+1) _ _ _ _ ⟨λh=>absurd h h',λ_=>rfl⟩⟩
  obtain⟨r,hr⟩:=loop l.length 0 [] (by omega) (by simp) (by omega);exact⟨r,ky (l.length+1) _ _ ⟨_,hb,λh=>by(cases h),λ_=>⟨l,nX 0 _ _ ⟨_,e,rfl⟩,hr⟩⟩⟩
theorem Cx(t:Tree)(ht:tbulk t≤1000000):∃b,dw t b∧(b=true→shapeK t=true):=by
 obtain⟨b,hb,hsh⟩:=pw t ht;cases b with
 |false=>exact⟨false,eE 0 _ _ ⟨_,hb,λh=>by(cases h),λ_=>rfl⟩,λh=>(by cases h)⟩
 | true=>
  obtain⟨b2,hb2⟩:=zU t ht;cases b2 with
  |false=>exact⟨false,eE 0 _ _ ⟨_,hb,λ_=>⟨_,hb2,λh=>by(cases h),λ_=>rfl⟩,λh=>(by cases h)⟩,λh=>(by cases h)⟩
  |true=>
   obtain⟨n,hn,_,_⟩:=Bo t ht;obtain⟨s,hs⟩:=Cj t ht;by_cases h40:n≤40
   ·exact⟨_,eE 0 _ _ ⟨_,hb,λ_=>⟨_,hb2,λ_=>⟨n,hn,λ_=>⟨s,hs,rfl⟩,λh=>absurd h40 h⟩,λh=>(by cases h)⟩,λh=>(by cases h)⟩,λ_=>hsh rfl⟩
   ·exact⟨false,eE 0 _ _ ⟨_,hb,λ_=>⟨_,hb2,λ_=>⟨n,hn,λh=>absurd h h40,λ_=>rfl⟩,λh=>(by cases h)⟩,λh=>(by cases h)⟩,λh=>(by cases h)⟩
theorem Gu(hd:Dc L a):Gt L (λt a'=>ke L a t L a') 500:=by
 obtain⟨r,a1,h1,h2,h3⟩:=dQ hd (n:=5) (by omega) (by omega);by_cases hr:r=0
 ·obtain⟨s,a2,G,J,O⟩:=gD h3 [[84],[85]] (by decide) (by decide);have hs:=fH J (by decide);obtain⟨t,U,q,E,q3⟩:=yM 2 O (by omega);exact⟨_,U,mq 0 _ _ _ _ _ ⟨_,_,_,h1,λ_=>⟨_,_,_,G,_,_,_,q,rfl,rfl,rfl⟩,λh=>absurd hr h⟩,E,by rw[tb1];omega⟩
 ·obtain⟨s,a2,G,J,O⟩:=gD h3 [[102],[103],[104]] (by decide) (by decide);have hs:=fH J (by decide);obtain⟨n,U,g4,g5,g6⟩:=dQ O (n:=4) (by omega) (by omega);have loop:∀(k:Nat) (a:Int) (l:List Tree),Dc L a→l.length+k≤100→Gt L (λt a'=>gp (k+1) s L a l (k:Int) t L a') (tl s+1+wk l+k*13+429):=λk=>by
   induction k with
   |zero=>
    intro a l hd hl;obtain⟨t1,b1,q,E,q3⟩:=yM 1 hd (by omega);obtain⟨t2,b2,q4,q5,q6⟩:=Fs 3 E (by omega);have :eB 3=422:=rfl;refine⟨_,b2,lT 0 _ _ _ _ _ _ _ _ ⟨λh=>by omega,λ_=>⟨_,_,_,q,_,_,_,q4,by simp;omega,rfl,rfl,rfl⟩⟩,q5,?_⟩;rw[tbK,jQ];simp only[wk];omega
   |succ k Z=>
    intro a l hd hl;obtain⟨x,b0,q0,q0',q0''⟩:=gD hd [[120],[121],[122]] (by decide) (by decide);have hx:=fH q0' (by decide);obtain⟨t,b,q,E,q3⟩:=yM 1 q0'' (by omega);refine(Z b (l++[.node 4 x [] [t]]) E (by simp;omega)).map ?_ λt' a' h=>lT (k+1) _ _ _ _ _ _ _ _ ⟨λ_=>⟨_,_,_,q0,_,_,_,q,by simp;omega,by omega,by rw[show((k+1:Nat):Int)-1=(k:Int) by omega];exact h⟩,λh=>by omega⟩;rw[jQ];simp only[wk,tb1];omega
  exact(loop n.toNat U [] g6 (by simp;omega)).map (by simp only[wk];omega) λt a' h=>mq (n.toNat+1) _ _ _ _ _ ⟨_,_,_,h1,λh=>absurd h hr,λ_=>⟨_,_,_,G,_,_,_,g4,by rw[show n=((n.toNat:Nat):Int) by omega];exact h⟩⟩
def Sh(l:List (List UInt8))(n:Nat):Prop:=l.length=n∧∀x∈l,x.length≤2
theorem Sh.sum:∀{l:List (List UInt8)} {n:Nat},Sh l n→cI l≤3*n
 |[],n,h=>by simp[cI]
 |x::r,n,h=>by
  obtain⟨h1,h2⟩:=h;have :=h2 x (by simp);have :=Sh.sum (l:=r) (n:=n-1) ⟨by simp at h1;omega,λy hy=>h2 y (by simp[hy])⟩;simp only[cI];simp at h1;omega
variable{n:Nat}
theorem Sh.set{l:List (List UInt8)}{x:List UInt8}(h:Sh l n)(hx:x.length≤2):Sh (l.set i x) n:=⟨by simpa using h.1,λy hy=>by
 rcases List.mem_or_eq_of_mem_set hy with h1|h1
 ·exact h.2 y h1
 ·subst h1;exact hx⟩
theorem Sh.get{l:List (List UInt8)}(h:Sh l n)(hi:i<n):∃s,l[i]?=some s:=by
 obtain⟨s,q,_⟩|h':=aB l i
 ·exact⟨s,q⟩
 ·have :=h.1;omega
theorem BG{n:Int}(h0:0≤n)(h1:n≤100000000):∃l,hO n l∧Sh l n.toNat:=by
 have loop:∀k i (l:List (List UInt8)),n.toNat-i≤k→i≤n.toNat→Sh l i→∃r,dT (k+1) n l i r∧Sh r n.toNat:=λk=>by
  induction k with
  |zero=>intro i l hi hle hl;exact⟨l,gi 0 _ _ _ _ ⟨λh=>by omega,λ_=>rfl⟩,by rw[show n.toNat=i by omega];exact hl⟩
  | succ k ihk=>
   intro i l hi hle hl;by_cases h:(i:Int)<n
   ·obtain⟨r,e,hr⟩:=ihk (i+1) (l++[[32]]) (by omega) (by omega) ⟨by simp[hl.1],λx hx=>by
     rcases List.mem_append.1 hx with h1|h1
     ·exact hl.2 x h1
     ·simp at h1;subst h1;simp⟩
    exact⟨r,gi (k+1) _ _ _ _ ⟨λ_=>⟨by simp[hl.1];omega,by omega,e⟩,λh'=>absurd h h'⟩,hr⟩
   ·exact⟨l,gi (k+1) _ _ _ _ ⟨λh'=>absurd h' h,λ_=>rfl⟩,by rw[show n.toNat=i by omega];exact hl⟩
 obtain⟨r,e,hr⟩:=loop n.toNat 0 [] (by omega) (by omega) ⟨rfl,λx hx=>by cases hx⟩;exact⟨r,od _ _ _ e,hr⟩
def qn(t:Tree)(i:Int)(first:List UInt8):List UInt8:=if t.kind=1 then[10,10]else if 0<i then[32]else if t.kind=8∨t.kind=22∨t.kind=16∨t.kind=18 then[]else if t.kind=2 then(if(2:Int)<t.kids.length then[]else[32])else if t.kind=17∨t.kind=21 then first else[32]
theorem Cm(t:Tree)(i:Int)(first:List UInt8):ii t i first (qn t i first):=by
 refine oe 1 _ _ _ _ ?_
 repeat' first|(refine And.intro (λ_=>?_) (λ_=>?_))|(refine nL 0 _ _ _ _ ?_)
 all_goals simp_all[qn]
 all_goals (intro h;omega)
theorem yT(t:Tree)(i:Int)(first:List UInt8)(hf:first.length≤2):(qn t i first).length≤2:=by
 unfold qn
 repeat' split
 all_goals first|exact hf|simp
theorem lO{n:Int}(q:0≤n)(a b c:Nat)(z:Int):f0 n a b c z≤b+n:=by
 unfold f0;repeat' split
 all_goals omega
theorem Fe{k n:Int}(q:0≤n):cH k n≤6+n:=by
 have G:=lO q 2 6 2 (-1);have J:=lO q 0 3 0 (-1);have O:=lO q 1 2 0 (-1);have U:=lO q 1 3 0 1;have Z:=lO q 1 2 0 1;have a6:=lO q 1 0 0 1;have a7:=lO q 3 3 0 3;have a8:=lO q 2 4 0 2;have a9:=lO q 2 1 0 2;have E:=lO q 0 1 0 0;simp only[cH]
 repeat' first|omega|split
theorem zA(G:shapeK t=true):(t.kind=1→cH t.kind t.kids.length=3)∧(t.kind=2→6≤cH t.kind t.kids.length)∧(t.kind=4∨t.kind=8∨t.kind=22→cH t.kind t.kids.length=2)∧(t.kind≠17→1≤cH t.kind t.kids.length):=by
 have h:=nt G;refine⟨λE=>?_,λE=>?_,λE=>?_,λE=>?_⟩
 ·rw[E];simp only[cH];simp
 ·rw[E]at h⊢;simp only[cH,f0]at h⊢;simp at h⊢;repeat' split
  all_goals first|omega|(simp_all;omega)
 ·rcases E with E|E|E<;>(rw[E]at h⊢;simp only[cH,f0]at h⊢;simp at h⊢;repeat' split)<;>first|omega|(simp_all;done)|(simp_all;omega)
 ·have key:∀k n:Int,0≤n→k≠17→0≤cH k n→1≤cH k n:=λk n O E h=>by
   have q:∀(a b c:Nat) z,1≤b→f0 n a b c z=-1∨1≤f0 n a b c z:=λa b c z U=>by
    unfold f0;repeat' split
    all_goals omega
   have Z:=q 2 6 2 (-1) (by decide);have a2:=q 0 3 0 (-1) (by decide);have a3:=q 1 2 0 (-1) (by decide);have a4:=q 1 3 0 1 (by decide);have a5:=q 1 2 0 1 (by decide);have a7:=q 3 3 0 3 (by decide);have a8:=q 2 4 0 2 (by decide);have a9:=q 2 1 0 2 (by decide);have J:=q 0 1 0 0 (by decide)
   revert h
   simp only[cH]
   repeat' first|(intro h;omega)|split
  exact key _ _ (by omega) E h
section
variable{t:Tree}{N:Nat}{us:List Tree}
theorem Dn:∀k i (l:List (List UInt8)),N-i≤k→Sh l N→∃l',dF (k+1) t l i us (.node t.kind t.text l' us)∧Sh l' N:=λk=>by
 induction k with
 |zero=>intro i l hi hl;exact⟨l,fq 0 _ _ _ _ _ ⟨λh=>by have :=hl.1;omega,λ_=>rfl⟩,hl⟩
 | succ k ihk=>
  intro i l hi hl;by_cases h:i<l.length
  ·obtain⟨s,hs⟩:=hl.get (i:=i) (by have :=hl.1;omega);obtain⟨l',e,h'⟩:=ihk (i+1) (l.set i []) (by omega) (hl.set (by simp));exact⟨l',fq (k+1) _ _ _ _ _ ⟨λ_=>⟨s,hs,e⟩,λh'=>absurd h h'⟩,h'⟩
  ·exact⟨l,fq (k+1) _ _ _ _ _ ⟨λh'=>absurd h' h,λ_=>rfl⟩,hl⟩
theorem xW:∀k i (l:List (List UInt8)),N-i≤k→Sh l N→∃l',cM (k+1) t l i us (.node t.kind t.text l' us)∧Sh l' N:=λk=>by
 induction k with
 |zero=>intro i l hi hl;exact⟨l,fu 0 _ _ _ _ _ ⟨λh=>by have :=hl.1;omega,λ_=>rfl⟩,hl⟩
 | succ k ihk=>
  intro i l hi hl;by_cases h:i<l.length
  ·obtain⟨s,hs⟩:=hl.get (i:=i) (by have :=hl.1;omega);obtain⟨l',e,h'⟩:=ihk (i+1) (l.set i []) (by omega) (hl.set (by simp));exact⟨l',fu (k+1) _ _ _ _ _ ⟨λ_=>⟨s,hs,e⟩,λh'=>absurd h h'⟩,h'⟩
  ·exact⟨l,fu (k+1) _ _ _ _ _ ⟨λh'=>absurd h' h,λ_=>rfl⟩,hl⟩
theorem sW(E:shapeK t=true)(hN:N=(cH t.kind t.kids.length).toNat){l:List (List UInt8)}(q:Sh l N):∃l',cD (N+2) t l us (.node t.kind t.text l' us)∧Sh l' N:=by
 obtain⟨g1,g2,g3,g4⟩:=zA E;have U:([]:List UInt8).length≤2:=by simp
 by_cases h1:t.kind=1
 ·have :=g1 h1;obtain⟨s,E⟩:=q.get (i:=2) (by omega);exact⟨_,bg (N+1) _ _ _ _ ⟨λ_=>⟨s,E,rfl⟩,λh=>absurd h1 h⟩,q.set (by simp)⟩
 by_cases h2:t.kind=2
 ·have :=g2 h2;have l1:=q.set (i:=2) U;have l2:=l1.set (i:=3) U;have l3:=l2.set (i:=4) U;obtain⟨s,E⟩:=q.get (i:=2) (by omega);obtain⟨s',hs'⟩:=l1.get (i:=3) (by omega);obtain⟨s2,hs2⟩:=l2.get (i:=4) (by omega);obtain⟨l',e,h'⟩:=Dn (t:=t) (us:=us) N 6 _ (by omega) l3;exact⟨l',bg (N+1) _ _ _ _ ⟨λh=>absurd h h1,λ_=>⟨λ_=>⟨s,E,s',hs',s2,hs2,e⟩,λh=>absurd h2 h⟩⟩,h'⟩
 by_cases J:t.kind=4
 ·have :=g3 (by simp[J]);obtain⟨s,E⟩:=q.get (i:=1) (by omega);exact⟨_,bg (N+1) _ _ _ _ ⟨λh=>absurd h h1,λ_=>⟨λh=>absurd h h2,λ_=>⟨λ_=>⟨s,E,rfl⟩,λh=>absurd J h⟩⟩⟩,q.set U⟩
 by_cases Z:t.kind=8
 ·have :=g3 (by simp[Z]);obtain⟨s,E⟩:=q.get (i:=1) (by omega);exact⟨_,bg (N+1) _ _ _ _ ⟨λh=>absurd h h1,λ_=>⟨λh=>absurd h h2,λ_=>⟨λh=>absurd h J,λ_=>⟨λ_=>⟨s,E,rfl⟩,λh=>absurd Z h⟩⟩⟩⟩,q.set U⟩
 by_cases G:t.kind=22
 ·have :=g3 (by simp[G]);obtain⟨s,E⟩:=q.get (i:=1) (by omega);exact⟨_,bg (N+1) _ _ _ _ ⟨λh=>absurd h h1,λ_=>⟨λh=>absurd h h2,λ_=>⟨λh=>absurd h J,λ_=>⟨λh=>absurd h Z,λ_=>⟨λ_=>⟨s,E,rfl⟩,λh=>absurd G h⟩⟩⟩⟩⟩,q.set U⟩
 by_cases O:t.kind=16
 ·obtain⟨l',e,h'⟩:=xW (t:=t) (us:=us) N 1 _ (by omega) q;exact⟨l',bg (N+1) _ _ _ _ ⟨λh=>absurd h h1,λ_=>⟨λh=>absurd h h2,λ_=>⟨λh=>absurd h J,λ_=>⟨λh=>absurd h Z,λ_=>⟨λh=>absurd h G,λ_=>⟨λ_=>e,λh=>absurd O h⟩⟩⟩⟩⟩⟩,h'⟩
 by_cases h18:t.kind=18
 ·obtain⟨l',e,h'⟩:=xW (t:=t) (us:=us) N 1 _ (by omega) q;exact⟨l',bg (N+1) _ _ _ _ ⟨λh=>absurd h h1,λ_=>⟨λh=>absurd h h2,λ_=>⟨λh=>absurd h J,λ_=>⟨λh=>absurd h Z,λ_=>⟨λh=>absurd h G,λ_=>⟨λh=>absurd h O,λ_=>⟨λ_=>e,λh=>absurd h18 h⟩⟩⟩⟩⟩⟩⟩,h'⟩
 ·exact⟨l,bg (N+1) _ _ _ _ ⟨λh=>absurd h h1,λ_=>⟨λh=>absurd h h2,λ_=>⟨λh=>absurd h J,λ_=>⟨λh=>absurd h Z,λ_=>⟨λh=>absurd h G,λ_=>⟨λh=>absurd h O,λ_=>⟨λh=>absurd h h18,λ_=>rfl⟩⟩⟩⟩⟩⟩⟩,q⟩
end
theorem AF:∀t:Tree,wb t≤1000000→shapeK t=true→∀first,first.length≤2→∃u,dU t first u∧wb u+3≤25*wb t∧u.kind=t.kind:=cn λt ih ht hs first hf=>by
 have hk:=tv t;have hbt:=oY t;have h0:=nt hs;have h6:=Fe (k:=t.kind) (n:=(t.kids.length:Int)) (by omega);obtain⟨g1,g2,g3,g4⟩:=zA hs;have htb:=tb_le t;obtain⟨bl,hbl,hsh⟩:=BG h0 (by omega);have loop:∀k i (done rest:List Tree),t.kids.length-i≤k→done.length=i→i≤t.kids.length→rest.length=t.kids.length-i→wk done+3*i≤25*wk (t.kids.take i)→∃M r,cG M t first bl (done++rest) i r∧wb r+3≤25*wb t∧r.kind=t.kind:=λk=>by
  have last:∀i (done rest:List Tree),¬i<t.kids.length→done.length=i→i≤t.kids.length→rest.length=t.kids.length-i→wk done+3*i≤25*wk (t.kids.take i)→∃M r,cG M t first bl (done++rest) i r∧wb r+3≤25*wb t∧r.kind=t.kind:=λi done rest hi hd hle hr hb=>by
   have hr0:rest=[]:=List.length_eq_zero_iff.1 (by omega);subst hr0;rw[List.append_nil];rw[List.take_of_length_le (by omega)]at hb;have fin:∀l',Sh l' (cH t.kind t.kids.length).toNat→wb (.node t.kind t.text l' done)+3≤25*wb t∧(Tree.node t.kind t.text l' done).kind=t.kind:=λl' hl'=>by
    have :=hl'.sum;exact⟨by simp only[wb];omega,rfl⟩
   by_cases h17:t.kind=17
   ·obtain⟨l',e,h'⟩:=sW (us:=done) hs rfl hsh;exact⟨_,_,dq _ _ _ _ _ _ _ ⟨λh=>absurd h hi,λ_=>⟨λh=>absurd h17 h,λ_=>e⟩⟩,fin l' h'⟩
   ·by_cases h21:t.kind=21
    ·obtain⟨l',e,h'⟩:=sW (us:=done) hs rfl hsh;exact⟨_,_,dq _ _ _ _ _ _ _ ⟨λh=>absurd h hi,λ_=>⟨λ_=>⟨λh=>absurd h21 h,λ_=>e⟩,λh=>absurd h h17⟩⟩,fin l' h'⟩
    ·obtain⟨l',e,h'⟩:=sW (us:=done) hs rfl (hsh.set (i:=0) hf);have :=g4 h17;obtain⟨s,hs0⟩:=hsh.get (i:=0) (by omega);exact⟨_,_,dq _ _ _ _ _ _ _ ⟨λh=>absurd h hi,λ_=>⟨λ_=>⟨λ_=>⟨s,hs0,e⟩,λh=>absurd h h21⟩,λh=>absurd h h17⟩⟩,fin l' h'⟩
  induction k with
  |zero=>intro i done rest hi hd hle hr hb;exact last i done rest (by omega) hd hle hr hb
  | succ k ihk=>
   intro i done rest hi hd hle hr hb;obtain⟨u,hu,hul⟩|h':=aB t.kids i
   ·have hbu:=uz hu;obtain⟨v,hv,hvb,_⟩:=ih i u hu (by omega) (tN hs hu).1 _ (yT t i first hf)
    match rest,hr with
    |z::rest',hr=>
     obtain⟨M,r,e,hb2⟩:=ihk (i+1) (done++[v]) rest' (by omega) (by simp[hd]) (by omega) (by simp at hr;omega) (by rw[pQ hu,jQ];simp only[wk];omega);refine⟨M+1,r,dq M _ _ _ _ _ _ ⟨λ_=>⟨u,hu,_,Cm t i first,v,hv,z,by simp[←hd],by omega,?_⟩,λh=>absurd hul h⟩,hb2⟩;have :(done++z::rest').set i v=done++[v]++rest':=by simp[←hd]
     rw[this];exact e
    |[],hr=>simp at hr;omega
   ·exact last i done rest h' hd hle hr hb
 obtain⟨M,r,e,hb⟩:=loop t.kids.length 0 [] (List.replicate t.kids.length (.node 0 [] [] [])) (by omega) rfl (by omega) (by simp) (by simp[wk]);exact⟨r,nN (M+1) _ _ _ ⟨_,oB (by omega) (by omega),bl,hbl,mZ M _ _ _ _ ⟨by omega,by simpa using e⟩⟩,hb⟩
theorem AO(t:Tree)(ht:wb t≤1000000):∃u,gK t u∧wb u≤25*wb t∧(u.kind=t.kind∨u.kind=0):=by
 have G:=tb_le t;have h1:=tB t (by omega);have :=AH t;cases q:shapeK t with
 |false=>rw[q]at h1;exact⟨.node 0 [] [] [],jL 0 _ _ ⟨_,h1,λ_=>rfl,λh=>(by cases h)⟩,by rw[tb0];simp only[em];omega,.inr rfl⟩
 |true=>
  rw[q]at h1;obtain⟨u,J,O,E⟩:=AF t ht q [] (by simp);exact⟨u,jL 0 _ _ ⟨_,h1,λh=>(by cases h),λ_=>⟨u,J,rfl⟩⟩,by omega,.inl E⟩
theorem uW:∀(l:List (List UInt8)) (i:Nat) (x:List UInt8),cI (l.set i x)≤cI l+x.length
 |[],i,x=>by simp[cI]
 |y::r,0,x=>by simp only[List.set_cons_zero,cI];omega
 |y::r,i+1,x=>by have :=uW r i x;simp only[List.set_cons_succ,cI];omega
theorem Bp:∀t:Tree,wb t≤1000000→∀{a:Int},Dc L a→Gt L (λu a'=>fO L a t u L a'∧u.kind=t.kind) (6*wb t):=cn λt ih ht a hd=>by
 have hk:=tv t;have hl:=yh t;have hbt:=oY t;have kids:∀k i (done:List Tree) (ls:List (List UInt8)) (a:Int),t.kids.length-i≤k→i≤t.kids.length→done.length=i→wk done≤6*wk (t.kids.take i)→cI ls≤6*cI t.leads→Dc L a→∃M,Gt L (λu a'=>dv M t L a (done++t.kids.drop i) i ls u L a'∧u.kind=t.kind) (6*wb t):=λk=>by
  have last:∀i (done:List Tree) (ls:List (List UInt8)) (a:Int),¬i<t.kids.length→i≤t.kids.length→done.length=i→wk done≤6*wk (t.kids.take i)→cI ls≤6*cI t.leads→Dc L a→∃M,Gt L (λu a'=>dv M t L a (done++t.kids.drop i) i ls u L a'∧u.kind=t.kind) (6*wb t):=λi done ls a hi hle hdn hb hls hd=>by
   rw[List.drop_of_length_le (by omega),List.append_nil];rw[List.take_of_length_le (by omega)]at hb;exact⟨1,_,a,⟨lc 0 _ _ _ _ _ _ _ _ _ ⟨λh=>absurd h (by omega),λ_=>⟨rfl,rfl,rfl⟩⟩,rfl⟩,hd,by simp only[wb];omega⟩
  induction k with
  |zero=>intro i done ls a hi hle hdn hb hls hd;exact last i done ls a (by omega) hle hdn hb hls hd
  | succ k ihk=>
   intro i done ls a hi hle hdn hb hls hd;obtain⟨u,hu,hul⟩|h':=aB t.kids i
   ·have hbu:=uz hu;obtain⟨v,a1,⟨q1,_⟩,q2,q3⟩:=ih i u hu (by omega) hd;obtain⟨M,hM⟩:=ihk (i+1) (done++[v]) ls a1 (by omega) (by omega) (by simp[hdn]) (by rw[pQ hu,jQ];simp only[wk];omega) hls q2;have hg:(done++t.kids.drop i)[i]?=some u:=by rw[List.getElem?_append_right (by omega),hdn];simpa using hu
    refine⟨M+1,hM.map (Nat.le_refl _) λw b ⟨h,hw⟩=>⟨lc M _ _ _ _ _ _ _ _ _ ⟨λ_=>⟨u,hg,_,_,_,q1,u,hg,?_⟩,λh'=>absurd (by simp[hdn];omega) h'⟩,hw⟩⟩;have :(done++t.kids.drop i).set i v=done++[v]++t.kids.drop (i+1):=by rw[cm hu];simp[←hdn]
    rw[this];exact h
   ·exact last i done ls a h' hle hdn hb hls hd
 have lead:∀k i (ls:List (List UInt8)) (a:Int),t.leads.length-i≤k→i≤t.leads.length→ls.length=t.leads.length→cI ls≤cI t.leads+5*i→Dc L a→∃M,Gt L (λu a'=>cC M t L a ls i u L a'∧u.kind=t.kind) (6*wb t):=λk=>by
  have hll:=oI t.leads;have last:∀i (ls:List (List UInt8)) (a:Int),¬i<t.leads.length→i≤t.leads.length→ls.length=t.leads.length→cI ls≤cI t.leads+5*i→Dc L a→∃M,Gt L (λu a'=>cC M t L a ls i u L a'∧u.kind=t.kind) (6*wb t):=λi ls a hi hle hlen hb hd=>by
   obtain⟨M,hM⟩:=kids t.kids.length 0 [] ls a (by omega) (by omega) rfl (by simp[wk]) (by omega) hd;exact⟨M+1,hM.map (Nat.le_refl _) λw b ⟨h,hw⟩=>⟨ia M _ _ _ _ _ _ _ _ ⟨λh'=>absurd h' (by omega),λ_=>⟨by omega,by simpa using h⟩⟩,hw⟩⟩
  induction k with
  |zero=>intro i ls a hi hle hlen hb hd;exact last i ls a (by omega) hle hlen hb hd
  | succ k ihk=>
   intro i ls a hi hle hlen hb hd;obtain⟨x,hx,hxl⟩|h':=aB ls i
   ·obtain⟨n,a1,h1,h2,h3⟩:=dQ hd (n:=9) (by omega) (by omega);by_cases hn:n=1
    ·obtain⟨s,a2,g1,g2,g3⟩:=gD h3 [[32,35,32,99,10],[32,32],[10,9],[35,10]] (by decide) (by decide);have hs5:=Nat.le_trans (CT s) (fH g2 (by decide));have :=uW ls i s;obtain⟨M,hM⟩:=ihk (i+1) (ls.set i s) a2 (by omega) (by omega) (by simpa using hlen) (by omega) g3;exact⟨M+1,hM.map (Nat.le_refl _) λw b ⟨h,hw⟩=>⟨ia M _ _ _ _ _ _ _ _ ⟨λ_=>⟨_,_,_,h1,λ_=>⟨_,_,_,g1,x,hx,h⟩,λh'=>absurd hn h'⟩,λh'=>absurd hxl h'⟩,hw⟩⟩
    ·obtain⟨M,hM⟩:=ihk (i+1) ls a1 (by omega) (by omega) hlen (by omega) h3;exact⟨M+1,hM.map (Nat.le_refl _) λw b ⟨h,hw⟩=>⟨ia M _ _ _ _ _ _ _ _ ⟨λ_=>⟨_,_,_,h1,λh'=>absurd h' hn,λ_=>h⟩,λh'=>absurd hxl h'⟩,hw⟩⟩
   ·exact last i ls a (by omega) hle hlen hb hd
 obtain⟨M,hM⟩:=lead t.leads.length 0 t.leads a (by omega) (by omega) rfl (by omega) hd;exact hM.map (Nat.le_refl _) λw b ⟨h,hw⟩=>⟨pr M _ _ _ _ _ _ ⟨by omega,h⟩,hw⟩
theorem BY(hd:Dc L a)(name:List UInt8)(hname:tl name≤5):Gt L (λt a'=>iv L a name t L a'∧(t.kind=1∨t.kind=0)) 300000:=by
 obtain⟨n,a1,h1,h2,h3⟩:=dQ hd (n:=4) (by omega) (by omega);have loop:∀(k:Nat) (a:Int) (l:List Tree),Dc L a→l.length+k≤100→wk l+k*500≤1500→Gt L (λt a'=>eL (k+1) name L a l (k:Int) t L a'∧(t.kind=1∨t.kind=0)) 300000:=λk=>by
  induction k with
  |zero=>
   intro a l hd hl hb;have ht:wb (.node 1 name [] l)≤1506:=by rw[tbK];omega
   obtain⟨u,J,hub,q⟩:=AO (.node 1 name [] l) (by omega);obtain⟨z,a2,O,g2,U⟩:=dQ hd (n:=2) (by omega) (by omega);by_cases Z:z=0
   ·exact(Bp u (by omega) U).map (by omega) λw b ⟨h,E⟩=>⟨gu 0 _ _ _ _ _ _ _ _ ⟨λh'=>by omega,λ_=>⟨u,J,_,_,_,O,λ_=>⟨_,_,_,h,rfl,rfl,rfl⟩,λh'=>absurd Z h'⟩⟩,by rw[E];exact q⟩
   ·exact⟨u,a2,⟨gu 0 _ _ _ _ _ _ _ _ ⟨λh'=>by omega,λ_=>⟨u,J,_,_,_,O,λh'=>absurd h' Z,λ_=>⟨rfl,rfl,rfl⟩⟩⟩,q⟩,U,by omega⟩
  |succ k G=>
   intro a l hd hl hb;obtain⟨t,b,q1,q2,q3⟩:=Gu hd;exact(G b (l++[t]) q2 (by simp;omega) (by rw[jQ];simp only[wk];omega)).map (Nat.le_refl _) λw c ⟨h,E⟩=>⟨gu (k+1) _ _ _ _ _ _ _ _ ⟨λ_=>⟨_,_,_,q1,by simp;omega,by omega,by rw[show((k+1:Nat):Int)-1=(k:Int) by omega];exact h⟩,λh=>by omega⟩,E⟩
 exact(loop n.toNat a1 [] h3 (by simp;omega) (by simp only[wk];omega)).map (Nat.le_refl _) λw b ⟨h,E⟩=>⟨pd (n.toNat+1) _ _ _ _ _ _ ⟨_,_,_,h1,by rw[show n=((n.toNat:Nat):Int) by omega];exact h⟩,E⟩
def Mok(p:List Tree):Prop:=∀t∈p,t.kind=1∧shapeK t=true
theorem yL(l:List Int)(hl:l.length≤1000000):∃p,hJ l p∧wk p≤1000000∧Mok p:=by
 have hd0:Dc l 0:=⟨by omega,by omega,by omega⟩;obtain⟨n,a1,h1,h2,h3⟩:=dQ hd0 (n:=4) (by omega) (by omega);have loop:∀(k:Nat) (a:Int) (p:List Tree),Dc l a→p.length+k≤3→wk p+k*300001≤900003→Mok p→∃r,bf (k+1) l a p (k:Int) r∧wk r≤900003∧Mok r:=λk=>by
  induction k with
  |zero=>intro a p hd hp hb hmk;exact⟨p,gh 0 _ _ _ _ _ ⟨λh=>by omega,λ_=>rfl⟩,by omega,hmk⟩
  | succ k ihk=>
   intro a p hd hp hb hmk;have hb2:wk p+k*300001+300001≤900003:=Nat.le_trans (Nat.le_of_eq (by rw[Nat.succ_mul,Nat.add_assoc])) hb;have hb3:wk p+k*300001≤900003:=Nat.le_trans (Nat.le_add_right _ _) hb2;obtain⟨x,hx,_⟩|h':=aB [[(65:UInt8)],[66],[67]] p.length
   rotate_left
   ·simp at h';omega
   have hx5:tl x≤5:=fH (List.mem_of_getElem? hx) (by decide);obtain⟨t,a2,⟨q1,qk⟩,q2,q3⟩:=BY hd x hx5;obtain⟨z,a3,g1,g2,g3⟩:=dQ q2 (n:=8) (by omega) (by omega);have step:∀u:Tree,wb u≤300001→(u.kind=1∨u.kind=0)→∃b r,dw u b∧((b=true)→(p++[u]).length≤1000000000∧InI (((k+1:Nat):Int)-1)∧bf (k+1) l a3 (p++[u]) (((k+1:Nat):Int)-1) r)∧((b=false)→InI (((k+1:Nat):Int)-1)∧bf (k+1) l a3 p (((k+1:Nat):Int)-1) r)∧wk r≤900003∧Mok r:=λu hu huk=>by
    obtain⟨b,hb',hbs⟩:=Cx u (Nat.le_trans (tb_le u) (by omega));have e:((k+1:Nat):Int)-1=(k:Int):=by omega
    rw[e];cases b with
    | true=>
     have hus:=hbs rfl;have hu1:u.kind=1:=by
      rcases huk with h|h
      ·exact h
      ·have :=nt hus;rw[h]at this;simp[cH]at this
     obtain⟨r,hr,hrb⟩:=ihk a3 (p++[u]) g3 (by simp;omega) (by clear hb;rw[jQ];simp only[wk];omega) (λt ht=>by
      rcases List.mem_append.1 ht with h|h
      ·exact hmk t h
      ·rw[List.mem_singleton]at h;subst h;exact⟨hu1,hus⟩)
     exact⟨true,r,hb',λ_=>⟨by simp;omega,by omega,hr⟩,λh=>(by cases h),hrb⟩
    |false=>
     obtain⟨r,hr,hrb⟩:=ihk a3 p g3 (by omega) hb3 hmk;exact⟨false,r,hb',λh=>(by cases h),λ_=>⟨by omega,hr⟩,hrb⟩
   by_cases hz:z=7
   ·have hub:wb (.node t.kind [65] t.leads t.kids)≤300001:=by have :=oY t;simp only[wb,show tl [65]=1 from by decide];omega
    obtain⟨b,r,e1,e2,e3,e4⟩:=step _ hub qk;exact⟨r,gh (k+1) _ _ _ _ _ ⟨λ_=>⟨x,hx,_,_,_,q1,_,_,_,g1,λ_=>⟨b,e1,e2,e3⟩,λh=>absurd hz h⟩,λh=>by omega⟩,e4⟩
   ·obtain⟨b,r,e1,e2,e3,e4⟩:=step t (by omega) qk;exact⟨r,gh (k+1) _ _ _ _ _ ⟨λ_=>⟨x,hx,_,_,_,q1,_,_,_,g1,λh=>absurd h hz,λ_=>⟨b,e1,e2,e3⟩⟩,λh=>by omega⟩,e4⟩
 obtain⟨r,hr,hrb,hrm⟩:=loop n.toNat a1 [] h3 (by simp;omega) (by simp only[wk];omega) (λt h=>by cases h);exact⟨r,nR (n.toNat+1) _ _ ⟨_,_,px 0 _ _ _ ⟨by omega,rfl,rfl⟩,_,_,_,h1,by rw[show n=((n.toNat:Nat):Int) by omega];exact hr⟩,by omega,hrm⟩
theorem xg(l:List Int):iW l (decide (((l.length:Nat):Int)≤120)):=pq 0 _ _ rfl
theorem DD(l:List ah):iL l l true:=by
 have loop:∀m i,l.length-i≤m→fk (m+1) l l i true:=λm=>by
  induction m with
  |zero=>intro i hi;exact kY 0 _ _ _ _ ⟨λh=>by omega,λh=>rfl⟩
  |succ m E=>
   intro i hi;refine kY (m+1) _ _ _ _ ⟨λh=>?_,λh=>rfl⟩;obtain⟨u,q,_⟩|h':=aB l i
   ·exact⟨u,q,u,q,λh=>absurd rfl h,λ_=>⟨u,q,u,q,_,ms _,λh=>(by cases h),λ_=>⟨u,q,u,q,_,ms _,λh=>(by cases h),λ_=>E (i+1) (by omega)⟩⟩⟩
   ·exact absurd h h'
 exact pn (l.length+1) _ _ _ ⟨λh=>absurd rfl h,λ_=>loop l.length 0 (by omega)⟩
theorem EW(l:List Tree):l.length≤wk l:=Nat.le_trans (mf l) (kb_le l)
theorem CI:∀(q:List Int) (t u:Tree),atK t q=some u→wb u≤wb t
 |[],t,u,h=>by simp only[atK,Option.some.injEq]at h;subst h;exact Nat.le_refl _
 | x::q,t,u,h=>by
  simp only[atK]at h;split at h
  ·cases h
  ·split at h
   ·cases h
   ·rename_i y hy;have :=CI q y u h;have :=uz hy;omega
theorem GQ(h:wb t≤1000000):∀x u,atK t x=some u→u.text≠[113]:=λx u q=>by
 have h1:=CI x t u q;have h2:=oY u;exact GI (by omega)
theorem vX (l:List Int) (hl:l.length≤1000000):∃fs,fv l fs∧(∀f∈fs,wb f≤1000000)∧fs.length≤1000000:=by
 obtain⟨p,h1,h2,_⟩:=yL l hl;have loop:∀(k i:Nat) (a:List Tree),p.length-i≤k→(∀f∈a,wb f≤1000000)→a.length+wk (p.drop i)≤1000000→∃m r,bX m p i a r∧(∀f∈r,wb f≤1000000)∧r.length≤1000000:=λk=>by
  have fin:∀(i:Nat) (a:List Tree),¬i<p.length→(∀f∈a,wb f≤1000000)→a.length≤1000000→∃m r,bX m p i a r∧(∀f∈r,wb f≤1000000)∧r.length≤1000000:=λi a hi ha hal=>⟨1,a,iE 0 _ _ _ _ ⟨λh=>absurd h hi,λ_=>rfl⟩,ha,hal⟩
  induction k with
  |zero=>intro i a hi ha hb;exact fin i a (by omega) ha (by omega)
  | succ k ih=>
   intro i a hi ha hb;obtain⟨t,ht,hlt⟩|h':=aB p i
   rotate_left
   ·exact fin i a h' ha (by omega)
   ·rw [cm ht,wk]at hb;have htb:=sm ht;have hteq:=oY t;have inner:∀(j d:Nat) (a:List Tree),t.kids.length-d≤j→(∀f∈a,wb f≤1000000)→a.length+wk (t.kids.drop d)+wk (p.drop (i+1))≤1000000→∃m r,bG m p a d i r∧(∀f∈r,wb f≤1000000)∧r.length≤1000000:=λj=>by
     have fin1:∀(d:Nat) (a:List Tree),¬d<t.kids.length→(∀f∈a,wb f≤1000000)→a.length+wk (t.kids.drop d)+wk (p.drop (i+1))≤1000000→∃m r,bG m p a d i r∧(∀f∈r,wb f≤1000000)∧r.length≤1000000:=λd a hd ha hb=>by
      obtain⟨m,r,hm,hr⟩:=ih (i+1) a (by omega) ha (by omega);have :=EW p;exact⟨m+1,r,eI m _ _ _ _ _ ⟨t,ht,λh=>absurd h hd,λ_=>⟨by omega,hm⟩⟩,hr⟩
     induction j with
     |zero=>intro d a hd ha hb;exact fin1 d a (by omega) ha hb
     | succ j ihj=>
      intro d a hd ha hb;obtain⟨u,hu,hlu⟩|h':=aB t.kids d
      rotate_left
      ·exact fin1 d a h' ha hb
      ·have hub:=sm hu;have hup:=AH u;rw[cm hu,wk]at hb;by_cases h2':u.kind=2
       ·obtain⟨m,r,hm,hr⟩:=ihj (d+1) (a++[u]) (by omega) (λf hf=>by
         rcases List.mem_append.1 hf with h|h
         ·exact ha f h
         ·simp only[List.mem_singleton]at h;subst h;omega) (by simp;omega)
        exact⟨m+1,r,eI m _ _ _ _ _ ⟨t,ht,λ_=>⟨t,ht,u,hu,λ_=>⟨t,ht,u,hu,by simp;omega,hm⟩,λh=>absurd h2' h⟩,λh=>absurd hlu h⟩,hr⟩
       ·obtain⟨m,r,hm,hr⟩:=ihj (d+1) a (by omega) ha (by omega);exact⟨m+1,r,eI m _ _ _ _ _ ⟨t,ht,λ_=>⟨t,ht,u,hu,λh=>absurd h h2',λ_=>hm⟩,λh=>absurd hlu h⟩,hr⟩
    obtain⟨m,r,hm,hr⟩:=inner t.kids.length 0 a (by omega) ha (by rw[List.drop_zero];omega);exact⟨m+1,r,iE m _ _ _ _ ⟨λ_=>hm,λh=>absurd hlt h⟩,hr⟩
 obtain⟨m,r,hm,hr⟩:=loop p.length 0 [] (by omega) (by simp) (by rw[List.drop_zero];simpa using h2);exact⟨r,mx m _ _ ⟨p,h1,hm⟩,hr⟩
set_option maxHeartbeats 4000000
def du(q:Tree)(p1:List Int)(E:Tree):Prop:=qS 9 [.agg (ak q),.row 1 (List.map (V.int .i64) p1)] (.agg (ak E))
def il(q:List Int)(p1:Int)(E:Bool):Prop:=qS 3 [.row 1 (List.map (V.int .i64) q),qi p1] (.bool E)
theorem oQ(m:Nat)(q:Tree)(p1:List Int)(E:Tree)(h:∃b c,nc q p1 b c∧∃a d,oh q p1 (Tree.node b.kind [113] b.leads b.kids) a d∧a=E):du q p1 E:=by
 refine⟨rfl,rfl,?_⟩;refine qA 24 [] func9 λK G=>?_;refine gR 3 rfl<|gFP 0 rfl rfl rfl rfl<|gR 7 rfl ?_;obtain⟨b,c,e,h⟩:=h;refine qC0 e rfl<|gR 19 rfl ?_;obtain⟨a,d,f,h⟩:=h;refine qC0 f rfl<|gR 15 rfl ?_;subst h;exact go_sub (F':=(mkF 24 0 [(4,.ptr 0 0)])) (H':=⟨1,[(0,vB a.kind a.text a.leads a.kids)]⟩) [1] [] rfl G pq1 (pqo1 rfl rfl) rfl<|qN [.cell 4 31]
def aO(m:Nat)(p1:Int)(a:List Tree)(b:Nat)(E:Bool):Prop:=∀(K:Ctx) (q:Nat),ar K []→m≤q→qLG K Tryz.f3 (λu _=>u=.bool E) (xN (ae Tryz.f3)) [.loop (xN (ae Tryz.f3)) q,.blk 0,.seq (xJ (ae Tryz.f3))] 82 (mkF 82 0 [(1,qi p1),(5,.row 4 (kidsV a)),(6,qi (b:Int))]) ⟨0,[]⟩
def dP(m:Nat)(p1:Int)(a:List Tree)(b:List ah)(d:ah)(e:Tree)(f:Nat)(E:Bool):Prop:=∀(K:Ctx) (q:Nat),ar K []→m≤q→Go prog K (bodyPost prog Tryz.f3 (SP K (λu _=>u=.bool E))) (.ex .normal) [.seq (xA (xH (cK (cA (cB (xN (ae Tryz.f3))))))),.blk 1,.seq (xA (xN (ae Tryz.f3))),.loop (xN (ae Tryz.f3)) q,.blk 0,.seq (xJ (ae Tryz.f3))] 82 (mkF 82 0 [(1,qi p1),(5,.row 4 (kidsV a)),(6,qi (f:Int)),(7,.row 3 (List.map ah.w b)),(8,.ptr 0 0),(9,.ptr 1 0)]) ⟨2,[(1,.var 31 (ak e)),(0,.var 33 (ah.c d))]⟩
def ba(m:Nat)(p1:Int)(a:List Tree)(b:List ah)(d:ah)(e:Tree)(f g:Nat)(G:Bool):Prop:=∀(K:Ctx) (q E:Nat),ar K []→m≤q→m≤E→qLG K Tryz.f3 (λu _=>u=.bool G) (xI (xH (cK (cA (cB (xN (ae Tryz.f3))))))) [.loop (xI (xH (cK (cA (cB (xN (ae Tryz.f3))))))) q,.blk 2,.seq (xJ (xA (cK (cA (cB (xN (ae Tryz.f3))))))),.blk 1,.seq (xA (xN (ae Tryz.f3))),.loop (xN (ae Tryz.f3)) E,.blk 0,.seq (xJ (ae Tryz.f3))] 82 (mkF 82 0 [(1,qi p1),(5,.row 4 (kidsV a)),(6,qi (g:Int)),(7,.row 3 (List.map ah.w b)),(8,.ptr 0 0),(9,.ptr 1 0),(10,qi (f:Int))]) ⟨2,[(1,.var 31 (ak e)),(0,.var 33 (ah.c d))]⟩
theorem gQ(m:Nat)(p0:List Int)(p1:Int)(r0:Bool)(h:∃a,iW p0 a∧((a=false)→∃b,iz b∧b=r0)∧((a=true)→∃c,fv p0 c∧aO m p1 c 0 r0)):il p0 p1 r0:=by
 refine⟨rfl,rfl,?_⟩;refine qA 82 [] func3 λK hK=>?_;refine gR 9 rfl ?_;obtain⟨a,d,h⟩:=h;refine qC0 d rfl<|gR 3 rfl<|qXh 13 rfl rfl rfl h cx cw ?_ ?_<;>intro hd h;refine gR 3 rfl ?_;obtain⟨b,e,h⟩:=h;refine qC0 e rfl<|gR 5 rfl ?_;subst h;exact qN [.tmp 4];refine gR 6 rfl ?_;obtain⟨c,f,h⟩:=h;exact qC0 f rfl<|gR 10 rfl<|go_loop m<|qW hK h []
theorem cc(m:Nat)(p1:Int)(b:List Tree)(a:Nat)(E:Bool)(h:((a<b.length)→∃g,b[a]?=some g∧∃c,eu g c∧(((c.length:Int)=0)→aO m p1 b (a+1) E)∧(((c.length:Int)≠0)→∃k,hW p1 (c.length:Int) k∧∃e,k=((e:Nat):Int)∧∃d,c[e]?=some d∧((d.Free=true)→aO m p1 b (a+1) E)∧((d.Free=false)→∃l,b[a]?=some l∧∃n,du l d.Binder n∧dP m p1 b c d n a E)))∧((¬a<b.length)→∃o,iz o∧o=E)):aO (m+1) p1 b a E:=by
 refine qj λK J G β=>?_;refine gR 6 rfl<|gV 19 (qi (b.length:Int)) rfl (aW (aN _)) rfl<|gLB 18 rfl (aN _) λs=>gR 3 rfl<|qXh 20 rfl rfl rfl h ec ej ?_ ?_<;>intro hd h;refine gR 9 rfl ?_;obtain⟨g,p,h⟩:=h;refine gY (aG (aq p) ac rfl rfl rfl rfl) rfl rfl<|gR 1 rfl ?_;obtain⟨c,x,h⟩:=h;refine qC0 x rfl<|gR 8 rfl<|gV 29 (qi (c.length:Int)) rfl (aW (ax ah.w _)) rfl<|gLB 28 rfl (ax ah.w _) λα=>gR 3 rfl<|qXe 30 rfl rfl rfl h ?_ ?_<;>intro hd h;exact gR 8 rfl<|gV 22 (qi ((a+1:Nat):Int)) rfl (an (by have :=s;omega) (by omega)) rfl<|gR 2 rfl<|go_xloop<|qW G h [];refine gR 9 rfl<|gV 34 (qi (c.length:Int)) rfl (aW (ax ah.w _)) rfl ?_;obtain⟨k,y,h⟩:=h;refine qC0 y rfl ?_;obtain⟨e,v,h⟩:=h;refine gV 35 (qi ((e:Nat):Int)) rfl (ds v) rfl ?_;obtain⟨d,q,h⟩:=h;refine gY (aG (au (f:=ah.w) q) ac rfl rfl rfl rfl) rfl rfl<|gR 12 rfl<|qXi 39 rfl rfl rfl h ?_ ?_<;>intro hd h;exact gR 8 rfl<|gV 22 (qi ((a+1:Nat):Int)) rfl (an (by have :=s;omega) (by omega)) rfl<|gR 2 rfl<|go_xloop<|qW G h [];refine gR 4 rfl<|qDs [0] 8 9<|qDr [(0,2),(1,2)] rfl rfl ?_;obtain⟨l,r,h⟩:=h;refine gYd 2 rfl (by kernel_rfl) (aG (aq r) ac rfl rfl rfl rfl) rfl rfl<|qDr [(3,2),(4,2),(5,3)] rfl rfl ?_;obtain⟨n,t,h⟩:=h;apply oz (i:=6) (j:=7) (by kernel_rfl) rfl rfl rfl rfl;exact(lS (L':=[0]) (by kernel_rfl) rfl rfl (un t .rfl [0] rfl) (.inl rfl));exact(oV ac rfl rfl);exact qDr [(7,0),(8,1)] rfl rfl<|qDe<|qW G h [0,1];refine bD 6 t (by kernel_rfl) rfl (by kernel_rfl) rfl rfl .rfl rfl rfl ?_;exact qDr [(8,1)] rfl rfl<|qDe<|qW G h [0,1];refine gR 3 rfl<|go_xloopE<|gR 4 rfl ?_;obtain⟨o,z,h⟩:=h;refine qC0 z rfl<|gR 4 rfl ?_;subst h;exact qN [.tmp 4]
theorem lE(m:Nat)(p1:Int)(a:List Tree)(b:List ah)(c:ah)(d:Tree)(e:Nat)(r0:Bool)(h:ba m p1 a b c d 0 e r0):dP (m+1) p1 a b c d e r0:=by
 refine qj λK j1 hK f=>?_;exact gR 8 rfl<|go_loop m<|qJ hK (h K _ _ hK (by omega) (by omega)) [0,1]
theorem cd(m:Nat)(p1:Int)(d:List Tree)(b:List ah)(e:ah)(g:Tree)(a c:Nat)(G:Bool)(h:((a<b.length)→∃i,b[a]?=some i∧((i.Free=false)→∃n,b[a]?=some n∧∃k,bh n.Binder e.Binder k∧((k=true)→∃o,b[a]?=some o∧∃p,du g o.Path p∧ba m p1 d b e p (a+1) c G)∧((k=false)→ba m p1 d b e g (a+1) c G))∧((i.Free=true)→ba m p1 d b e g (a+1) c G))∧((¬a<b.length)→∃q,eu g q∧∃l,iL q b l∧((l=false)→false=G)∧((l=true)→c+1≤9223372036854775807∧aO m p1 d (c+1) G))):ba (m+1) p1 d b e g a c G:=by
 intro K J O E β γ;obtain⟨J,rfl⟩:∃j,J=j+1:=⟨J-1,by omega⟩;obtain⟨O,rfl⟩:∃j,O=j+1:=⟨O-1,by omega⟩;refine gR 6 rfl<|gV 49 (qi (b.length:Int)) rfl (aW (ax ah.w _)) rfl<|gLB 48 rfl (ax ah.w _) λr=>gR 3 rfl<|qXh 50 rfl rfl rfl h ec ej ?_ ?_<;>intro hd h;refine gR 6 rfl<|qDs [0] 14 16<|qDr [(0,2),(1,0)] rfl rfl ?_;obtain⟨i,s,h⟩:=h;refine dI 2 rfl (by kernel_rfl) (aG (au (f:=ah.w) s) ac rfl rfl rfl rfl) rfl rfl ?_;refine qDr (qR 3 4 0 []) rfl rfl<|qXhZ 59 58 rfl rfl rfl rfl h cx cw ?_ ?_<;>intro hd h;refine qDr [(7,2),(8,2)] rfl rfl ?_;obtain⟨n,t,h⟩:=h;refine gYd 9 rfl (by kernel_rfl) (aG (au (f:=ah.w) t) ac rfl rfl rfl rfl) rfl rfl<|qDr [(10,2),(11,2),(12,0),(13,0)] rfl rfl ?_;obtain⟨k,x,h⟩:=h;refine bD 14 x (by kernel_rfl) rfl (by kernel_rfl) rfl rfl .rfl rfl rfl ?_;refine qDr [(15,1)] rfl rfl<|qDe<|gR 1 rfl<|qXi 68 rfl rfl rfl h ?_ ?_<;>intro hd h;refine gR 1 rfl<|qDs [1] 7 8<|qDr [(0,3),(1,2),(2,0)] rfl rfl ?_;obtain⟨o,v,h⟩:=h;refine dI 3 rfl (by kernel_rfl) (aG (au (f:=ah.w) v) ac rfl rfl rfl rfl) rfl rfl ?_;refine qDr [(4,0),(5,0)] rfl rfl ?_;obtain⟨p,y,h⟩:=h;refine bD 6 y (by kernel_rfl) rfl (by kernel_rfl) rfl rfl .rfl rfl rfl ?_;exact qDr [(7,1)] rfl rfl<|qDe<|gR 5 rfl<|gV 52 (qi ((a+1:Nat):Int)) rfl (an (by have :=r;omega) (by omega)) rfl<|gR 2 rfl<|go_xloop<|qJ E (h K _ _ E (by omega) (by omega)) [0,1];exact gR 7 rfl<|gV 52 (qi ((a+1:Nat):Int)) rfl (an (by have :=r;omega) (by omega)) rfl<|gR 2 rfl<|go_xloop<|qJ E (h K _ _ E (by omega) (by omega)) [0,1];exact qDr (qR 7 5 2 (qR 12 3 0 [(15,1)])) rfl rfl<|qDe<|gR 8 rfl<|gV 52 (qi ((a+1:Nat):Int)) rfl (an (by have :=r;omega) (by omega)) rfl<|gR 2 rfl<|go_xloop<|qJ E (h K _ _ E (by omega) (by omega)) [0,1];refine gR 3 rfl<|go_xloopE<|gR 5 rfl ?_;obtain⟨q,z,h⟩:=h;refine qC0 z rfl<|gR 1 rfl ?_;obtain⟨l,α,h⟩:=h;refine qC0 α rfl<|gR 3 rfl<|qXh 80 rfl rfl rfl h cx cw ?_ ?_<;>intro hd h;refine gR 9 rfl<|go_xloopR<|gR 2 rfl ?_;subst h;exact qN [.tmp 4];refine gR 6 rfl ?_;obtain⟨U,h⟩:=h;exact gR 1 rfl<|gV 22 (qi ((c+1:Nat):Int)) rfl (an (by omega) (by omega)) rfl<|gR 2 rfl<|go_xloop<|qW E h []
theorem qM(a b:List Int):bh a b (decide (a=b)):=by
 by_cases q:a.length=b.length
 rotate_left
 ·exact fp 0 _ _ _ ⟨λ_=>(decide_eq_false λe=>q (by rw[e])).symm,λh=>absurd h q⟩
 have loop:∀m i,a.length-i≤m→a.take i=b.take i→cg (m+1) a b i (decide (a=b)):=λm=>by
  have fin:∀i,¬i<a.length→a.take i=b.take i→true=decide (a=b):=λi hi h=>by
   rw[List.take_of_length_le (by omega),List.take_of_length_le (by omega)]at h;exact(decide_eq_true h).symm
  induction m with
  |zero=>intro i hi h;exact dh 0 _ _ _ _ ⟨λh=>by omega,λh'=>fin i h' h⟩
  |succ m E=>
   intro i hi h;refine dh (m+1) _ _ _ _ ⟨λh'=>?_,λh'=>fin i h' h⟩;have J:=List.getElem?_eq_getElem h';have O:=List.getElem?_eq_getElem (l:=b) (i:=i) (by omega);refine⟨_,J,_,O,λG=>(decide_eq_false λe=>G (by subst e;rfl)).symm,λU=>E (i+1) (by omega) ?_⟩;rw[List.take_add_one,List.take_add_one,J,O,h,U]
 exact fp (a.length+1) _ _ _ ⟨λh=>absurd q h,λ_=>loop a.length 0 (by omega) rfl⟩
theorem vx{g:Tree}{q:List Int}(G:tbulk g≤2000000)(E:atK g q=some u):du g q (fK g q (nM u [113])):=by
 have h1:=wX q g u E;have h2:nc g q u true:=by have :=FN g q (by omega) (by omega);rwa [E]at this
 have J:=bo u;have O:tbulk (nM u [113])=1+cI u.leads+kbulk u.kids+1:=by cases u;simp only[nM,tbulk,Tree.leads,Tree.kids,List.length_cons,List.length_nil]
 exact oQ 0 _ _ _ ⟨u,true,h2,_,true,yt g (nM u [113]) u q (by omega) (by omega) (by omega) E,rfl⟩
theorem Bd(t:Tree):(bc t).length≤tbulk t:=by
 unfold bc;split
 ·have :=wa t (nodK t []);have :=nodK_len t [];omega
 ·simp
theorem AR{f:Tree}{b:ah}{p1:Int}{fs:List Tree}{m:Nat}(hw:wb f≤1000000)(hb:b∈bc f)(hfr:b.Free=false)(hi:i+1≤9223372036854775807)(hm:aO m p1 fs (i+1) true):
  ∃g m',du f b.Binder g∧dP m' p1 fs (bc f) b g i true:=by
 have hbf:tbulk f≤1000000:=Nat.le_trans (tb_le f) hw;have hf:=sF hb;obtain⟨w,hwB⟩:=(tK hb).2 hfr;have loop:∀(j k:Nat) (g:Tree),(bc f).length-k≤j→Rel (Sk (bc f) b.Binder k) f g→∃m',ba m' p1 fs (bc f) b g k i true:=λj=>by
  have fin:∀(k:Nat) (g:Tree),¬k<(bc f).length→Rel (Sk (bc f) b.Binder k) f g→∃m',ba m' p1 fs (bc f) b g k i true:=λk g hk hr=>by
   have hr':Rel (Sf (bc f) b.Binder) f g:=hr.congr λx=>by
    rw[←EU];simp only[Sk,List.take_of_length_le (Nat.not_lt.1 hk),List.take_length]
   have hv:=BC hf (GQ hw) hb hfr hr';have hbg:=ux f g _ hr;have hV:=mF g (by omega);rw[hv]at hV;exact⟨m+1,cd m _ _ _ _ _ _ _ _ (⟨λh=>absurd h hk,λ_=>⟨_,hV,true,DD _,(λh=>by cases h),λ_=>⟨hi,hm⟩⟩⟩)⟩
  induction j with
  |zero=>intro k g hj hr;exact fin k g (by omega) hr
  | succ j ih=>
   intro k g hj hr;obtain⟨y,hy,hlt⟩|h':=aB (bc f) k
   rotate_left
   ·exact fin k g h' hr
   have hyv:y∈bc f:=List.mem_of_getElem? hy;by_cases hyf:y.Free=true
   ·obtain⟨m',h⟩:=ih (k+1) g (by omega) (hr.congr λx=>CV hy (λh=>by have :=h.1;rw[hyf]at this;cases this) x);exact⟨m'+1,cd m' _ _ _ _ _ _ _ _ (⟨λ_=>⟨y,hy,(λh=>by rw[hyf]at h;cases h),λ_=>h⟩,λh=>absurd hlt h⟩)⟩
   ·have hyf':y.Free=false:=by simpa using hyf
    by_cases hyb:y.Binder=b.Binder
    ·obtain⟨⟨w2,hw2⟩,_⟩:=tK hyv;obtain⟨u,hu,_⟩:=hr.some_ hw2;have hbg:=ux f g _ hr;obtain⟨m',h⟩:=ih (k+1) _ (by omega) ((hr.set hu).congr λx=>El hy ⟨hyf',hyb⟩ x);exact⟨m'+1,cd m' _ _ _ _ _ _ _ _ (⟨λ_=>⟨y,hy,λ_=>⟨y,hy,_,qM _ _,λ_=>⟨y,hy,_,vx (by omega) hu,h⟩,λh=>absurd hyb (of_decide_eq_false h)⟩,λh=>absurd h hyf⟩,λh=>absurd hlt h⟩)⟩
    ·obtain⟨m',h⟩:=ih (k+1) g (by omega) (hr.congr λx=>CV hy (λh=>hyb h.2) x);exact⟨m'+1,cd m' _ _ _ _ _ _ _ _ (⟨λ_=>⟨y,hy,λ_=>⟨y,hy,_,qM _ _,λh=>absurd (of_decide_eq_true h) hyb,λ_=>h⟩,λh=>absurd h hyf⟩,λh=>absurd hlt h⟩)⟩
 obtain⟨m',h⟩:=loop (bc f).length 0 _ (by omega) (((Rel.start f).set hwB).congr λx=>by simp[Sk]);exact⟨_,m'+1,vx (by omega) hwB,lE m' _ _ _ _ _ _ _ (h)⟩
theorem DX(aw:iz true)(l:List Int)(z:Int):il l z true:=by
 refine Classical.byCases (λh:((l.length:Nat):Int)≤120=>?_) (λh=>gQ 0 _ _ _ ⟨_,xg l,λ_=>⟨_,aw,rfl⟩,λh'=>absurd (of_decide_eq_true h') h⟩);obtain⟨fs,h1,h2,h3⟩:=vX l (by omega);have loop:∀(k i:Nat),fs.length-i≤k→∃m,aO m z fs i true:=λk=>by
  have fin:∀i,¬i<fs.length→∃m,aO m z fs i true:=λi hi=>⟨1,cc 0 _ _ _ _ (⟨λh=>absurd h hi,λ_=>⟨_,aw,rfl⟩⟩)⟩
  induction k with
  |zero=>intro i hi;exact fin i (by omega)
  | succ k ih=>
   intro i hi;obtain⟨f,hf,hlt⟩|h':=aB fs i
   rotate_left
   ·exact fin i h'
   have hw:=h2 f (List.mem_of_getElem? hf);have hbf:tbulk f≤1000000:=Nat.le_trans (tb_le f) hw;obtain⟨m,hm⟩:=ih (i+1) (by omega);have hV:=mF f (by omega);have hvl:(bc f).length≤1000000000:=by have :=Bd f;omega
   by_cases h0:(((bc f).length:Nat):Int)=0
   ·exact⟨m+1,cc m _ _ _ _ (⟨λ_=>⟨f,hf,_,hV,λ_=>hm,λh=>absurd h0 h⟩,λh=>absurd hlt h⟩)⟩
   ·obtain⟨r,hr,hr0,hr1⟩:=CE (a:=z) (n:=(((bc f).length:Nat):Int)) (by omega) (by omega);obtain⟨b,hb,_⟩|h':=aB (bc f) r.toNat
    rotate_left
    ·omega
    by_cases hfr:b.Free=true
    ·exact⟨m+1,cc m _ _ _ _ (⟨λ_=>⟨f,hf,_,hV,λh=>absurd h h0,λ_=>⟨r,hr,r.toNat,by omega,b,hb,λ_=>hm,(λh=>by rw[hfr]at h;cases h)⟩⟩,λh=>absurd hlt h⟩)⟩
    ·have hfr':b.Free=false:=by simpa using hfr
     obtain⟨g,m',hg,hL⟩:=AR (p1:=z) (fs:=fs) (i:=i) hw (List.mem_of_getElem? hb) hfr' (by omega) hm;exact⟨m'+1,cc m' _ _ _ _ (⟨λ_=>⟨f,hf,_,hV,λh=>absurd h h0,λ_=>⟨r,hr,r.toNat,by omega,b,hb,λh=>absurd h hfr,λ_=>⟨f,hf,g,hg,hL⟩⟩⟩,λh=>absurd hlt h⟩)⟩
 obtain⟨m,hm⟩:=loop fs.length 0 (by omega);exact gQ m _ _ _ (⟨_,xg l,λh'=>absurd h (of_decide_eq_false h'),λ_=>⟨fs,h1,hm⟩⟩)
open Go.RowKit Go.ChangeShapes Go.WideShapes Go.Deep
theorem Bh:prog.cellsOf 3=1:=by kernel_rfl
variable{W:World}
theorem FK{H:Type}{enc:TypeId×Value→H}{U:Option Addr}{len cap:Nat}{d:DataW H}{p:List MemPlace}(h:DataW.Trod enc prog W 0 (λ_=>true) true 22 (.slice U len cap) d p):
  ∃zs:List Int,len=zs.length∧len≤cap∧cap≤maxLen∧RowIn Any W 1 U zs.length (zs.map λz=>.int .i64 z):=by
 obtain⟨fuel,hf⟩:=h;rcases open_ints underlying22 underlying3 Bh hf with⟨q,hx⟩|⟨a,len',cap',zs,q,hb,hl,hm,E,hx,hcell,hwf⟩
 ·simp[Value.cells]at q;obtain⟨rfl,rfl,rfl⟩:=q;exact⟨[],rfl,Nat.le_refl _,Nat.zero_le _,RowIn.none_⟩
 ·simp[Value.cells]at q;obtain⟨rfl,rfl,rfl⟩:=q;simp only[if_true]at E;have G:(zs.take len).length=len:=by simp;omega
  refine⟨zs.take len,G.symm,hl,hm,by simp,λh0=>?_⟩;rw[G]at h0⊢;have Z:a.spot=none:=World.cell?_spot (a:=a) (by have :=hcell 0 (by omega);simpa[Addr.add]using this);obtain⟨b,off,spot⟩:=a;simp only at Z;subst Z;have J:∀k,(⟨b,off,none⟩:Addr).add k=⟨b,off+k,none⟩:=λk=>by unfold Addr.add;split<;>simp_all
  refine⟨b,off,rfl,trivial,?_,λj hj=>?_⟩
  ·have :=hcell 0 (by omega);exact World.block_lt_of_cell? W ⟨b,off,none⟩ (by simpa[Addr.add]using this)
  ·have O:j<len:=by omega
   have :=hcell j (by omega);rw[J]at this;rw[this];simp[O,List.getD_eq_getElem?_getD,show j<zs.length from by omega]
abbrev nj(W:World):Nat→Prop:=λb=>b<W.heap.size
variable{xs:List Value}
theorem RowIn.live{sz:Nat}{A:Option Addr}(h:RowIn Any W sz A n xs):RowIn (nj W) W sz A n xs:=⟨h.1,λE=>by
 obtain⟨b,off,h1,_,q,G⟩:=h.2 E;exact⟨b,off,h1,q,q,G⟩⟩
abbrev qg(W:World)(v:V)(x:Value):Prop:=VRel (nj W) W (λ_=>none) v x
theorem Hh{l:List Int}{A:Option Addr}{cap:Nat}(q:l.length≤cap)(E:cap≤maxLen)(hr:RowIn Any W 1 A l.length (l.map λz=>.int .i64 z)):qg W (.row 1 (l.map (V.int .i64))) (.slice A l.length cap):=by
 simp only[qg,VRel];exact⟨A,cap,_,by simp,by simpa using q,E,vO l,by simpa using hr.live⟩
theorem Hl(z:Int):qg W (.int .i64 z) (.int .i64 z):=by simp only[qg,VRel]
theorem Hk{fid:FuncId}{us:List V}{b:Bool}(h:nJ prog fid us (.bool b))(E:∀p∈ut,VRel (nj W) W ρ0 (.box p.2 0) (.pointer (some ⟨p.1,0,none⟩)):=by exact λp U=>nomatch U)(hx:LRel (nj W) W (λ_=>none) us xs):Calls prog fid xs.toArray W λe W'=>e=.returned (.bool b)∧Ext W W':=by
 have G:HRel (nj W) W (λ_=>none) (⟨0,[]⟩:Hp).get:=CJ ⟨λ_ h=>h,E⟩;refine(h.2.2 _ W _ xs G hx).mono ?_;rintro e W' ⟨x,S',ρ',v,H',rfl,rfl,h1,h2,O⟩;simp only[VRel]at O;subst O;have J:∀b,¬∃id,own (λ_=>none) id ((⟨0,[]⟩:Hp).get id) b:=λb ⟨id,q⟩=>by rw[pz]at q;exact q
 exact⟨rfl,Chg.ext ⟨h2.chg.os,h2.chg.tape,h2.chg.output,h2.chg.size,λb q _=>h2.chg.block b q (J b)⟩⟩
theorem lr1{u:V}{x:Value}(h:qg W u x):LRel (nj W) W (λ_=>none) [u] [x]:=⟨x,[],rfl,h,rfl⟩
theorem lrc{u:V}{us:List V}{x:Value}(h:qg W u x)(k:LRel (nj W) W (λ_=>none) us xs):LRel (nj W) W (λ_=>none) (u::us) (x::xs):=⟨x,xs,rfl,h,k⟩
def auL(t:Tree):Tree→List Int→List ab→List Int→List ab×Bool
 |_,_,l,[]=>(l,true)
 |u,done,l,n::r=>if n<0 then([],false)else match u.kids[n.toNat]? with
  |none=>([],false)
  |some v=>auL t v (done++[n]) ((if done=[]∧n=(t.kids.length:Int)-1 then cF t else l)++(if u.kind=20∧n=1 then[⟨u.text,done⟩]else[])) r
theorem vJ(t:Tree)(q:List Int)(h2:2≤t.kids.length)(ht:t.kids.length≤100000000)(hq:q.length≤100000000):je t q (auL t t [] [] q).1 (auL t t [] [] q).2:=by
 have hs0:(cF t).length≤t.kids.length:=by
  rw[cF,List.length_reverse,rf,List.length_take];omega
 have loop:∀(r done:List Int) (u:Tree) (l:List ab),q=done++r→l.length≤t.kids.length+done.length→dS (2*r.length+1) t q l u done.length (auL t u done l r).1 (auL t u done l r).2:=λr=>by
  induction r with
  |nil=>
   intro done u l hqd hl;refine mO 0 _ _ _ _ _ _ _ ⟨λh=>by rw[hqd]at h;simp at h,λ_=>⟨rfl,rfl⟩⟩
  | cons n r ih=>
   intro done u l hqd hl;have hlen:done.length+(r.length+1)=q.length:=by rw[hqd];simp
   have hn:q[done.length]?=some n:=by rw[hqd,List.getElem?_append_right (Nat.le_refl _)];simp
   have htk:q.take done.length=done:=by rw[hqd,List.take_append_of_le_length (Nat.le_refl _),List.take_length]
   rw[show 2*(n::r).length+1=2*r.length+1+1+1 by simp;omega];have e:auL t u done l (n::r)=if n<0 then([],false)else match u.kids[n.toNat]? with
    |none=>([],false)
    |some v=>auL t v (done++[n]) ((if done=[]∧n=(t.kids.length:Int)-1 then cF t else l)++(if u.kind=20∧n=1 then[⟨u.text,done⟩]else[])) r:=rfl
   have step:∀l',l'=(if done=[]∧n=(t.kids.length:Int)-1 then cF t else l)→¬n<0→¬((u.kids.length:Nat):Int)≤n→fN (2*r.length+1+1) t q n l' u done.length done.length (auL t u done l (n::r)).1 (auL t u done l (n::r)).2:=λl' hl' h0 h1=>by
    have hll:l'.length≤t.kids.length+done.length:=by rw[hl'];split<;>omega
    obtain⟨v,hv,_⟩|h':=aB u.kids n.toNat
    rotate_left
    ·omega
    ·rw[e,if_neg h0,hv];simp only;rw[←hl'];have hih:=ih (done++[n]) v;rw[List.length_append,List.length_singleton]at hih;refine rh _ _ _ _ _ _ _ _ _ _ ⟨λh20=>⟨λhn1=>⟨by omega,by simp;omega,n.toNat,by omega,v,hv,by omega,?_⟩,λhn1=>⟨n.toNat,by omega,v,hv,by omega,?_⟩⟩,λh20=>⟨n.toNat,by omega,v,hv,by omega,?_⟩⟩
     ·rw[if_pos ⟨h20,hn1⟩,htk];exact hih (l'++[⟨u.text,done⟩]) (by rw[hqd];simp) (by simp;omega)
     ·rw[if_neg (λh=>hn1 h.2),List.append_nil];exact hih l' (by rw[hqd];simp) (by omega)
     ·rw[if_neg (λh=>h20 h.1),List.append_nil];exact hih l' (by rw[hqd];simp) (by omega)
   refine mO _ _ _ _ _ _ _ _ ⟨λ_=>⟨n,hn,λh0=>?_,λh0=>⟨λh1=>?_,λh1=>⟨λhd=>⟨λhb=>⟨_,vo t h2 (by omega),?_⟩,λhb=>?_⟩,λhd=>?_⟩⟩⟩,λh=>by omega⟩
   ·rw[e,if_pos h0];exact⟨rfl,rfl⟩
   ·rw[e,if_neg h0,List.getElem?_eq_none (by omega)];exact⟨rfl,rfl⟩
   ·have hdn:done=[]:=List.length_eq_zero_iff.1 (by omega);exact step _ (by rw[if_pos ⟨hdn,hb⟩]) h0 h1
   ·exact step _ (by rw[if_neg (λh=>hb h.2)]) h0 h1
   ·exact step _ (by rw[if_neg (λh=>hd (by rw[h.1];rfl))]) h0 h1
 exact sH (2*q.length+1) _ _ _ _ (loop q [] t [] rfl (by simp))
theorem Dk(stk:List ab)(w:List UInt8)(hs:stk.length≤1000000000)(hp:∀b∈stk,b.path.length≤1000000000):jA stk w (bH stk.reverse w).1 (bH stk.reverse w).2:=by
 have loop:∀n,n≤stk.length→fC (n+1) stk w ((n:Int)-1) (bH (stk.take n).reverse w).1 (bH (stk.take n).reverse w).2:=λn=>by
  induction n with
  |zero=>intro _;exact lj 0 _ _ _ _ _ ⟨λh=>by omega,λ_=>⟨rfl,rfl⟩⟩
  | succ n ih=>
   intro hn;obtain⟨x,hx,_⟩|h':=aB stk n
   ·rw[vq hx,bH];refine lj (n+1) _ _ _ _ _ ⟨λ_=>⟨n,by omega,x,hx,λh=>⟨n,by omega,x,hx,_,xR _ (hp x (List.mem_of_getElem? hx)),by rw[if_pos h],by rw[if_pos h]⟩,λh=>⟨by omega,?_⟩⟩,λh=>by omega⟩;rw[if_neg h,show((n+1:Nat):Int)-1-1=(n:Int)-1 by omega];exact ih (by omega)
   ·omega
 have :=loop stk.length (Nat.le_refl _);rw[List.take_length]at this;exact pB (stk.length+1) _ _ _ _ this
theorem AU(t:Tree)(q:List Int)(w:List UInt8)(hf:cv t=true)(ht:tbulk t≤100000000)(E:q.length≤100000000)(G:(auL t t [] [] q).1.length≤1000000000)(J:∀b∈(auL t t [] [] q).1,b.path.length≤1000000000):lC t q w (bH (auL t t [] [] q).1.reverse w).1 (bH (auL t t [] [] q).1.reverse w).2:=by
 have :=dB t;exact sg 0 _ _ _ _ _ ⟨_,uu t (by omega),λh=>(by rw[hf]at h;cases h),λ_=>⟨_,_,vJ t q (fP hf) (by omega) E,_,_,Dk _ w G J,rfl,rfl⟩⟩
abbrev Nm:=List UInt8
theorem sB:∀x:Nm,Op.bytesLess x x=false
 |[]=>by simp[Op.bytesLess]
 |a::x=>by simp[Op.bytesLess,sB x]
theorem oS:∀{x y z:Nm},Op.bytesLess x y=true→Op.bytesLess y z=true→Op.bytesLess x z=true
 |x,y,[],_,h=>by cases y<;>simp[Op.bytesLess]at h
 |x,[],c::z,h,_=>by cases x<;>simp[Op.bytesLess]at h
 |[],b::y,c::z,_,_=>by simp[Op.bytesLess]
 | a::x,b::y,c::z,h,k=>by
  simp only[Op.bytesLess,Bool.or_eq_true,Bool.and_eq_true,decide_eq_true_eq,beq_iff_eq]at h k⊢;rcases h with h|⟨h1,h2⟩
  ·rcases k with k|⟨k1,_⟩
   ·exact .inl (UInt8.lt_trans h k)
   ·subst k1;exact .inl h
  ·subst h1;rcases k with k|⟨k1,k2⟩
   ·exact .inl k
   ·exact .inr ⟨k1,oS h2 k2⟩
theorem zx:∀{x y:Nm},Op.bytesLess x y=false→Op.bytesLess y x=false→x=y
 |[],[],_,_=>rfl
 |[],b::y,h,_=>by simp[Op.bytesLess]at h
 |a::x,[],_,h=>by simp[Op.bytesLess]at h
 |a::x,b::y,h,k=>by
  simp only[Op.bytesLess,Bool.or_eq_false_iff,Bool.and_eq_false_imp,decide_eq_false_iff_not,beq_iff_eq]at h k;have e:a=b:=UInt8.le_antisymm (UInt8.not_lt.1 k.1) (UInt8.not_lt.1 h.1);subst e;rw[zx (h.2 rfl) (k.2 rfl)]
def asc:List Nm→Prop
 |[]=>True
 |x::r=>(∀y∈r,Op.bytesLess x y=true)∧asc r
def iu(w:Nm):List Nm→List Nm
 |[]=>[w]
 |x::r=>if Op.bytesLess x w=true then x::iu w r else if x=w then x::r else w::x::r
def eh(w:Nm):List Nm→Nat
 |[]=>0
 |x::r=>if Op.bytesLess x w=true then eh w r+1 else 0
theorem te(w:Nm):∀l,eh w l≤l.length
 |[]=>Nat.le_refl _
 |x::r=>by have :=te w r;simp only[eh];split<;>simp <;>omega
theorem xY{w:Nm}:∀{l:List Nm} {i:Nat} {x:Nm},asc l→l[i]?=some x→(Op.bytesLess x w=true↔i<eh w l)
 |[],i,x,_,h=>by simp at h
 | y::r,i,x,ha,h=>by
  simp only[eh];by_cases hy:Op.bytesLess y w=true
  ·rw[if_pos hy];cases i with
   |zero=>simp only[List.getElem?_cons_zero,Option.some.injEq]at h;subst h;simp[hy]
   |succ i=>rw[xY (i:=i) ha.2 (by simpa using h)];omega
  ·rw[if_neg hy];refine⟨λhx=>absurd ?_ hy,λh=>by omega⟩;cases i with
   |zero=>simp only[List.getElem?_cons_zero,Option.some.injEq]at h;subst h;exact hx
   |succ i=>exact oS (ha.1 x (List.mem_of_getElem? (i:=i) (by simpa using h))) hx
theorem ra(w:Nm):∀l,iu w l=if l[eh w l]?=some w then l else l.take (eh w l)++w::l.drop (eh w l)
 |[]=>by simp[iu,eh]
 | x::r=>by
  by_cases hx:Op.bytesLess x w=true
  ·have e:eh w (x::r)=eh w r+1:=if_pos hx;rw[show iu w (x::r)=x::iu w r from if_pos hx,ra w r];simp only[e,List.getElem?_cons_succ,List.take_succ_cons,List.drop_succ_cons];split<;>rfl
  ·have e:eh w (x::r)=0:=if_neg hx;rw[show iu w (x::r)=if x=w then x::r else w::x::r from if_neg hx];simp only[e];simp
theorem rc(w:Nm):∀l y,y∈iu w l↔y=w∨y∈l
 |[],y=>by simp[iu]
 | x::r,y=>by
  simp only[iu];split
  ·simp only[List.mem_cons,rc w r];constructor
   ·rintro(h|h|h)
    ·exact .inr (.inl h)
    ·exact .inl h
    ·exact .inr (.inr h)
   ·rintro(h|h|h)
    ·exact .inr (.inl h)
    ·exact .inl h
    ·exact .inr (.inr h)
  ·split
   ·rename_i h;subst h;simp
   ·simp
theorem rA(w:Nm):∀l,asc l→asc (iu w l)
 |[],_=>⟨λy hy=>by simp at hy,trivial⟩
 | x ::r,h=>by
  simp only[iu];split
  ·rename_i hx;refine⟨λy hy=>?_,rA w r h.2⟩;rcases(rc w r y).1 hy with rfl|hy
   ·exact hx
   ·exact h.1 y hy
  ·rename_i hx;split
   ·exact h
   ·rename_i hne;have hwx:Op.bytesLess w x=true:=by
     cases hb:Op.bytesLess w x
     ·exact absurd (zx (by simpa using hx) hb) hne
     ·rfl
    refine⟨λy hy=>?_,h⟩;rcases List.mem_cons.1 hy with rfl|hy
    ·exact hwx
    ·exact oS hwx (h.1 y hy)
theorem xl:∀{a b:List Nm},asc a→asc b→(∀y,y∈a↔y∈b)→a=b
 |[],[],_,_,_=>rfl
 |[],y::b,_,_,h=>by have :=(h y).2 (by simp);simp at this
 |x::a,[],_,_,h=>by have :=(h x).1 (by simp);simp at this
 | x::a,y::b,ha,hb,h=>by
  have e:x=y:=by
   rcases List.mem_cons.1 ((h x).1 (by simp))with h1|h1
   ·exact h1
   ·rcases List.mem_cons.1 ((h y).2 (by simp))with h2|h2
    ·exact h2.symm
    ·have :=oS (ha.1 y h2) (hb.1 x h1);rw[sB]at this;cases this
  subst e;rw[xl ha.2 hb.2 λy=>?_];constructor
  ·intro hy;rcases List.mem_cons.1 ((h y).1 (List.mem_cons_of_mem _ hy))with rfl|h1
   ·have :=ha.1 _ hy;rw[sB]at this;cases this
   ·exact h1
  ·intro hy;rcases List.mem_cons.1 ((h y).2 (List.mem_cons_of_mem _ hy))with rfl|h1
   ·have :=hb.1 _ hy;rw[sB]at this;cases this
   ·exact h1
def lD(l:List Nm)(ns:List Nm):List Nm:=ns.foldl (λl w=>iu w l) l
theorem qX:∀(ns l:List Nm),asc l→asc (lD l ns)
 |[],l,h=>h
 |w::r,l,h=>qX r (iu w l) (rA w l h)
theorem rj:∀(ns l:List Nm) y,y∈lD l ns↔y∈l∨y∈ns
 |[],l,y=>by simp[lD]
 | w::r,l,y=>by
  have :=rj r (iu w l) y;simp only[lD,List.foldl_cons]at this⊢;rw[this,rc,List.mem_cons];constructor
  ·rintro((h|h)|h)
   ·exact .inr (.inl h)
   ·exact .inl h
   ·exact .inr (.inr h)
  ·rintro(h|h|h)
   ·exact .inl (.inr h)
   ·exact .inl (.inl h)
   ·exact .inr h
theorem uL(w:Nm):∀l,(iu w l).length≤l.length+1
 |[]=>Nat.le_refl _
 |x::r=>by have :=uL w r;simp only[iu];split<;>(try split)<;>simp <;>omega
theorem Bv(ns:List Nm):lD [] ns.reverse=lD [] ns:=xl (qX _ _ trivial) (qX _ _ trivial) λy=>by rw[rj,rj,List.mem_reverse]
def vH(v:Tree):Prop:=shapeK v=true∧(iX v.kind=true∨v.kind=4)
theorem Cq{w:Tree}{j:Nat}(h:vH v)(E:v.kids[j]?=some w):vH w:=by
 obtain⟨q,J⟩:=h;rw[dR]at q;simp only[Bool.and_eq_true,decide_eq_true_eq]at q;have O:(5≤v.kind∧v.kind≤9)∨v.kind=4:=by
  rcases J with h|h
  ·exact .inl (by simpa[iX]using h)
  ·exact .inr h
 obtain⟨h1,h2⟩:=fZ q.2 E;have G:=(List.getElem?_eq_some_iff.1 E).1;refine⟨h2,.inl ?_⟩;have hl:=q.1.1;by_cases U:v.kind=4
 ·rw[U]at h1;simpa[gj]using h1
 ·by_cases Z:v.kind=8
  ·rw[Z]at h1;simpa[gj]using h1
  ·exfalso;have h5:v.kind=5∨v.kind=6∨v.kind=7∨v.kind=9:=by omega
   have :cH v.kind v.kids.length=f0 v.kids.length 0 1 0 0:=by
    rcases h5 with e|e|e|e<;>rw[e]<;>rfl
   have h6:f0 v.kids.length 0 1 0 0=-1:=by
    unfold f0;rw[if_pos ⟨by omega,by omega⟩]
   omega
theorem Dv(h:vH v):v.kind≠20:=by
 rcases h.2 with h|h
 ·have :5≤v.kind∧v.kind≤9:=by simpa[iX]using h
  omega
 ·omega
theorem xd{t:Tree}:∀(r:List Int) (v:Tree) (done:List Int),vH v→done≠[]→(auL t v done [] r).1=[]
 |[],v,done,_,_=>rfl
 | n::r,v,done,hv,hd=>by
  unfold auL;split
  ·rfl
  ·split
   ·rfl
   ·rename_i w hw;rw[if_neg (λh=>hd h.1),if_neg (λh=>Dv hv h.1),List.append_nil];exact xd r w _ (Cq hv hw) (by simp)
theorem xO{t:Tree}{b:Int}(hb:b=(t.kids.length:Int)-1):∀(r:List Int) (v:Tree) (done:List Int) (l:List ab),atK t done=some v→(∃q,done=b::q)→l.reverse=(arP t done).map (bW t)→(auL t v done l r).1.reverse=if(atK v r).isSome=true then(arP t (done++r)).map (bW t)else[]
 |[],v,done,l,hv,hd,hl=>by simp[auL,atK,hl]
 | n ::r,v,done,l,hv,hd,hl=>by
  unfold auL atK;split
  ·simp
  ·rename_i hn;split
   ·rename_i hw;rw[hw];simp
   ·rename_i w hw;rw[hw];simp only;obtain⟨q,hq⟩:=hd;have hne:done≠[]:=by rw[hq];simp
    have hnn:n=((n.toNat:Nat):Int):=by omega
    have hat:atK t (done++[n])=some w:=by
     rw[nZ,hv];have :=ea hw;rw[←hnn]at this;exact this
    rw[if_neg (λh=>hne h.1)];have :=xO hb r w (done++[n]) (l++if v.kind=20∧n=1 then[⟨v.text,done⟩]else[]) hat ⟨q++[n],by rw[hq];rfl⟩ (by
     have hs:=vY (j:=n.toNat) hq hb hv (by rw[←hnn,hat];rfl);rw[←hnn]at hs;rw[hs,List.map_append,List.reverse_append,hl];by_cases h:v.kind=20∧n=1
     ·rw[if_pos h,if_pos ⟨h.1,by omega⟩];have :bW t done=⟨v.text,done⟩:=by unfold bW atD;rw[hv];rfl
      simp[this]
     ·rw[if_neg h,if_neg (λh'=>h ⟨h'.1,by omega⟩)];rfl)
    rw[this,List.append_assoc];rfl
theorem EX(hf:cv t=true)(hat:atK t [(t.kids.length:Int)-1]=some u):(cF t).reverse=(arP t [(t.kids.length:Int)-1]).map (bW t):=by
 have h2:=fP hf;rw[cF,List.reverse_reverse];have e:arP t [(t.kids.length:Int)-1]=eX t [(t.kids.length:Int)-1] 1++mh (t.kids.length-2):=by
  unfold arP;rw[hat];simp
 simp only[cv,Bool.and_eq_true,beq_iff_eq]at hf;have e2:eX t [(t.kids.length:Int)-1] 1=[]:=by
  simp only[eX,List.append_nil];rw[if_neg];intro h;have :=h.1;simp only[List.take_zero,atD,atK,Option.getD_some]at this;omega
 rw[e,e2,List.nil_append,mh,List.map_map];have key:∀n,n≤t.kids.length→eJ 0 (t.kids.take n)=(List.range n).map (bW t∘λ(i:Nat)=>[(i:Int)]):=λn=>by
  induction n with
  |zero=>intro _;simp[eJ]
  | succ n ih=>
   intro hn;obtain⟨x,hx,_⟩|h':=aB t.kids n
   ·rw[List.take_add_one,hx,Option.toList_some,lV,ih (by omega),List.range_succ,List.map_append,List.length_take];rw[show min n t.kids.length=n by omega,Nat.zero_add]
    congr 1
    simp only[List.map_cons,List.map_nil,Function.comp];have :atK t [(n:Int)]=some x:=ea hx;simp[bW,atD,this]
   ·omega
 exact key _ (by omega)
theorem CG(hf:cv t=true)(q:List Int):(auL t t [] [] q).1.reverse=(arP t q).map (bW t):=by
 have hf':=hf;simp only[cv,Bool.and_eq_true,beq_iff_eq]at hf';have h2:=fP hf;cases q with
 |nil=>simp[auL,arP,atK]
 | cons n r=>
  have e0:arP t (n::r)=if(atK t (n::r)).isSome=false then[]else if n=(t.kids.length:Int)-1 then eX t (n::r) (n::r).length++mh (t.kids.length-2)else[]:=rfl
  have e1:atK t (n::r)=if n<0 then none else match t.kids[n.toNat]? with
   |none=>none
   |some u=>atK u r:=rfl
  unfold auL;split
  ·rename_i hn;rw[e0,e1,if_pos hn];rfl
  ·rename_i hn;split
   ·rename_i hw;rw[e0,e1,if_neg hn,hw];rfl
   ·rename_i w hw;have hnn:n=((n.toNat:Nat):Int):=by omega
    have hat:atK t [n]=some w:=by
     have :=ea hw;rw[←hnn]at this;exact this
    by_cases hb:n=(t.kids.length:Int)-1
    ·rw[if_pos ⟨rfl,hb⟩,if_neg (λh=>by omega),List.append_nil];have :=xO (t:=t) rfl r w [n] (cF t) hat ⟨[],by rw[hb]⟩ (by rw[hb]at hat⊢;exact EX hf hat);rw[List.nil_append,this,List.singleton_append];split
     ·rfl
     ·rename_i hs;rw[e0,e1,if_neg hn,hw];simp only;rw[if_pos (by simpa using hs)];rfl
    ·rw[if_neg (λh=>hb h.2),if_neg (λh=>by omega),List.append_nil];have hty:vH w:=by
      have hs:=hf'.2;rw[dR,hf'.1]at hs;simp only[Bool.and_eq_true]at hs;obtain⟨g1,g2⟩:=fZ hs.2 hw;have hlen:=(List.getElem?_eq_some_iff.1 hw).1;refine⟨g2,?_⟩;rw[Nat.zero_add]at g1;simp only[gj]at g1;rw[if_neg (by omega),if_pos trivial,if_neg (by omega)]at g1;split at g1
      ·exact .inl g1
      ·exact .inr (by simpa using g1)
     have :=xd (t:=t) r w ([]++[n]) hty (by simp);rw[this,e0,if_neg hb];split<;>rfl
theorem BV(hf:cv t=true)(q:List Int):lD [] ((auL t t [] [] q).1.map (·.name))=lD [] (((arP t q).map (bW t)).map (·.name)):=by
 rw[←CG hf q,List.map_reverse,Bv]
def nr(E:(List (List UInt8)))(p1:Int)(q:(List (List UInt8)))(J:(List (List UInt8))):Prop:=dd [1] prog 27 [.sl 0,qi p1,.sl 1] ⟨2,[(1,.row 9 1 (List.map V.str q)),(0,.row 9 1 (List.map V.str E))]⟩ (λu G=>u=.sl 2∧G=⟨3,[(2,.row 9 1 (List.map V.str J)),(1,.row 9 1 (List.map V.str q))]⟩)
def rR(q:List UInt8)(E:Tree)(G J:Int):Prop:=qS 12 [.str q] (.tup [.agg (ak E),qi G,qi J])
def lu(q:List UInt8)(E:Bool):Prop:=qS 46 [.str q] (.bool E)
def nP(q:List UInt8)(E:Bool):Prop:=qS 71 [.str q] (.bool E)
def oO(q p1:List UInt8)(E:Bool):Prop:=qS 45 [.str q,.str p1] (.bool E)
def gv(q:(List (List UInt8)))(p1:List UInt8)(E:Int)(J:Bool):Prop:=dd [0] prog 26 [.sl 0,.str p1] ⟨1,[(0,.row 9 1 (List.map V.str q))]⟩ (λu G=>u=.tup [qi E,.bool J]∧G=⟨1,[(0,.row 9 1 (List.map V.str q))]⟩)
def kH(q:Tree)(p1:List Int)(E:(List (List UInt8))):Prop:=dd [] prog 14 [.agg (ak q),.row 1 (List.map (V.int .i64) p1)] ⟨0,[]⟩ (λu G=>u=.sl 0∧G=⟨1,[(0,.row 9 1 (List.map V.str E))]⟩)
def gx(q:Bool):Prop:=qS 5 [] (.bool q)
theorem sa(m:Nat)(q:List UInt8)(E:Bool)(h:(q !=q)=E):lu q E:=by
 refine⟨rfl,rfl,?_⟩;refine qA 6 [] func46 λK G=>?_;refine gR 14 rfl ?_;subst h;exact qN [.tmp 2]
theorem vl(m:Nat)(q:List UInt8)(E:Bool)(h:(q !=q)=E):nP q E:=by
 refine⟨rfl,rfl,?_⟩;refine qA 6 [] func71 λK G=>?_;refine gR 14 rfl ?_;subst h;exact qN [.tmp 2]
theorem wH(m:Nat)(q p1:List UInt8)(E:Bool)(h:∃a,nP q a∧((a=true)→∃b,nP p1 b∧((b=false)→true=E)∧((b=true)→Op.bytesLess q p1=E))∧((a=false)→Op.bytesLess q p1=E)):oO q p1 E:=by
 refine⟨rfl,rfl,?_⟩;refine qA 17 [] func45 λK G=>?_;refine gR 8 rfl ?_;obtain⟨a,c,h⟩:=h;refine qC0 c rfl<|gR 1 rfl<|qBiZ 7 6 rfl rfl rfl rfl h ?_ ?_<;>intro h;refine gR 1 rfl ?_;obtain⟨b,d,h⟩:=h;refine qC0 d rfl<|gR 3 rfl<|qBhZ 12 11 rfl rfl rfl rfl h cx cw ?_ ?_<;>intro h;refine gR 8 rfl ?_;subst h;exact qN [.tmp 4];refine gR 2 rfl<|gY (yLt rfl rfl) rfl rfl<|gR 5 rfl ?_;subst h;exact qN [.tmp 4];refine gR 7 rfl<|gY (yLt rfl rfl) rfl rfl<|gR 5 rfl ?_;subst h;exact qN [.tmp 4]
def bO(m:Nat)(q:(List (List UInt8)))(p1:List UInt8)(a b:Nat)(J:Int)(O:Bool):Prop:=∀(K:Ctx) (E:Nat),ar K [0]→m≤E→qLG K f26 (λu G=>u=.tup [qi J,.bool O]∧G=⟨1,[(0,.row 9 1 (List.map V.str q))]⟩) (cL (cK (cA (xH (ae f26))))) [.loop (cL (cK (cA (xH (ae f26))))) E,.blk 0,.seq (xJ (ae f26))] 54 (mkF 54 0 [(0,.sl 0),(1,.str p1),(6,qi (q.length:Int)),(7,qi (a:Int)),(8,qi (b:Int))]) ⟨1,[(0,.row 9 1 (List.map V.str q))]⟩
theorem nG(m:Nat)(p0:(List (List UInt8)))(p1:List UInt8)(r0:Int)(r1:Bool)(h:bO m p0 p1 0 p0.length r0 r1):gv p0 p1 r0 r1:=by
 refine qA 54 [0] func26 λK hK=>?_;exact gR 10 rfl<|gV 11 (qi (p0.length:Int)) rfl (aW (ax V.str _)) rfl<|gLO 0 rfl (ax V.str _) λa=>gR 12 rfl<|go_loop m<|qW hK h [0]
theorem jp(m:Nat)(E:(List (List UInt8)))(p1:List UInt8)(a b:Nat)(G:Int)(J:Bool)(h:((a<b)→a+b≤9223372036854775807∧a+b≤9223372036854775807∧(a+b)/2≤9223372036854775807∧∃l,E[(a+b)/2]?=some l∧∃c,oO l p1 c∧((c=true)→(a+b)/2+1≤9223372036854775807∧bO m E p1 ((a+b)/2+1) b G J)∧((c=false)→bO m E p1 a ((a+b)/2) G J))∧((¬a<b)→((a<E.length)→∃d,E[a]?=some d∧((d=p1)→(a:Int)=G∧true=J)∧((d≠p1)→∃n,E[a]?=some n∧∃e,lu n e∧((e=true)→∃g,lu p1 g∧(a:Int)=G∧g=J)∧((e=false)→(a:Int)=G∧false=J)))∧((¬a<E.length)→(a:Int)=G∧false=J))):bO (m+1) E p1 a b G J:=by
 refine qj λK Z O r=>?_;refine gR 8 rfl<|qXh 15 rfl rfl rfl h ec ej ?_ ?_<;>intro hd h;refine gR 8 rfl ?_;obtain⟨U,h⟩:=h;refine gR 1 rfl<|gV 18 (qi ((a+b:Nat):Int)) rfl (an (by omega) (by omega)) rfl ?_;obtain⟨U,h⟩:=h;refine gY (yCv underlying3 underlying88 rfl (Gf (by omega) (by omega))) rfl rfl<|gY (GO rfl rfl) rfl rfl ?_;obtain⟨U,h⟩:=h;refine gY (yCv underlying88 underlying3 rfl (Gm (by omega) (by omega))) rfl rfl<|gR 7 rfl ?_;obtain⟨l,i,h⟩:=h;refine gY (yIO ac rfl rfl rfl rfl (qG (au (f:=V.str) i))) rfl rfl ?_;refine gDo (.nop) (dLe ac rfl rfl rfl (au (f:=V.str) i) rfl) trivial rfl rfl rfl<|gR 1 rfl ?_;obtain⟨c,o,h⟩:=h;refine qC0 o rfl<|gR 2 rfl<|qXi 27 rfl rfl rfl h ?_ ?_<;>intro hd h;refine gR 3 rfl ?_;obtain⟨U,h⟩:=h;exact gR 1 rfl<|gV 29 (qi (((a+b)/2+1:Nat):Int)) rfl (an (by omega) (by omega)) rfl<|gR 3 rfl<|go_xloop<|qW O h [0];exact gR 6 rfl<|go_xloop<|qW O h [0];refine gR 3 rfl<|go_xloopE<|gR 9 rfl<|qXhZ 35 34 rfl rfl rfl rfl h ec ej ?_ ?_<;>intro hd h;refine gR 2 rfl ?_;obtain⟨d,j,h⟩:=h;refine gY (yIO ac rfl rfl rfl rfl (qG (au (f:=V.str) j))) rfl rfl ?_;refine gDo (.nop) (dLe ac rfl rfl rfl (au (f:=V.str) j) rfl) trivial rfl rfl rfl<|gR 3 rfl<|qXeZ 42 41 rfl rfl rfl rfl h ?_ ?_<;>intro hd h;refine gR 16 rfl ?_;obtain⟨rfl,rfl⟩:=h;exact gE O [] [(4,qi (a:Int)),(5,.bool true)] [0] [.tmp 4,.tmp 5];refine gR 2 rfl ?_;obtain⟨n,k,h⟩:=h;refine gY (yIO ac rfl rfl rfl rfl (qG (au (f:=V.str) k))) rfl rfl ?_;refine gDo (.nop) (dLe ac rfl rfl rfl (au (f:=V.str) k) rfl) trivial rfl rfl rfl ?_;obtain⟨e,p,h⟩:=h;refine qC0 p rfl<|gR 1 rfl<|qXiZ 48 47 rfl rfl rfl rfl h ?_ ?_<;>intro hd h;refine gR 1 rfl ?_;obtain⟨g,q,h⟩:=h;refine qC0 q rfl<|gR 8 rfl ?_;obtain⟨rfl,rfl⟩:=h;exact gE O [] [(4,qi (a:Int)),(5,.bool g)] [0] [.tmp 4,.tmp 5];refine gR 10 rfl ?_;obtain⟨rfl,rfl⟩:=h;exact gE O [] [(4,qi (a:Int)),(5,.bool false)] [0] [.tmp 4,.tmp 5];refine gR 23 rfl ?_;obtain⟨rfl,rfl⟩:=h;exact gE O [] [(4,qi (a:Int)),(5,.bool false)] [0] [.tmp 4,.tmp 5]
def fa(m:Nat)(a:List ab)(b:(List (List UInt8)))(c:Nat)(E:(List (List UInt8))):Prop:=∀(K:Ctx) (q:Nat),ar K []→m≤q→qLG K f14 (λu G=>u=.sl 0∧G=⟨1,[(0,.row 9 1 (List.map V.str E))]⟩) (xI (xA (ae f14))) [.loop (xI (xA (ae f14))) q,.blk 0,.seq (xA (xH (ae f14)))] 44 (mkF 44 0 [(7,.sl 0),(21,.row 2 (List.map ab.w a)),(22,qi (a.length:Int)),(23,qi (c:Int))]) ⟨1,[(0,.row 9 1 (List.map V.str b))]⟩
theorem mz(m:Nat)(p0:Tree)(p1:List Int)(r0:(List (List UInt8)))(h:∃a,eW p0 a∧((a=false)→([]:List (List UInt8))=r0)∧((a=true)→∃b c,je p0 p1 b c∧fa m b ([]:List (List UInt8)) 0 r0)):kH p0 p1 r0:=by
 refine qA 44 [] func14 λK hK=>?_;refine gR 3 rfl<|gFP 0 rfl rfl rfl rfl<|gR 7 rfl ?_;obtain⟨a,d,h⟩:=h;refine qC0 d rfl<|gR 3 rfl<|qXh 14 rfl rfl rfl h cx cw ?_ ?_<;>intro hd h;refine gR 8 rfl<|gNS 4 9 1 rfl rfl rfl rfl ?_;subst h;exact gE hK [] [(4,.sl 0)] [1] [.tmp 4];refine gR 7 rfl ?_;obtain⟨b,c,e,h⟩:=h;exact qC0 e rfl<|gR 17 rfl<|gV 22 (qi (b.length:Int)) rfl (aW (ax ab.w _)) rfl<|gLB 21 rfl (ax ab.w _) λf=>gR 4 rfl<|go_loop m<|gNS 7 9 1 rfl rfl rfl rfl<|qW hK h [1]
theorem jy(m:Nat)(c:List ab)(b:(List (List UInt8)))(a:Nat)(q:(List (List UInt8)))(h:((a<c.length)→∃d,c[a]?=some d∧∃i g,gv b d.name i g∧((g=false)→∃e,nr b i [d.name] e∧a+1≤9223372036854775807∧fa m c e (a+1) q)∧((g=true)→a+1≤9223372036854775807∧fa m c b (a+1) q))∧((¬a<c.length)→b=q)):fa (m+1) c b a q:=by
 refine qj λK J E n=>?_;refine gR 6 rfl<|qXh 24 rfl rfl rfl h ec ej ?_ ?_<;>intro hd h;refine gR 7 rfl ?_;obtain⟨d,j,h⟩:=h;refine gY (aG (au (f:=ab.w) j) ac rfl rfl rfl rfl) rfl rfl<|gR 10 rfl ?_;obtain⟨i,g,k,h⟩:=h;refine qC k [0] ?_;refine gHR 0 (List.map V.str b) rfl (dN _ V.str (λ_=>rfl) b) rfl<|gR 13 rfl<|qXh 35 rfl rfl rfl h cx cw ?_ ?_<;>intro hd h;refine gR 7 rfl ?_;obtain⟨e,l,h⟩:=h;refine qC l [0,3] ?_;refine gHR 6 (List.map V.str e) rfl (dN _ V.str (λ_=>rfl) e) rfl<|gHR 3 (List.map V.str [d.name]) rfl (dN _ V.str (λ_=>rfl) [d.name]) rfl<|gR 5 rfl ?_;obtain⟨G,h⟩:=h;exact gR 1 rfl<|gV 42 (qi ((a+1:Nat):Int)) rfl (an (by omega) (by omega)) rfl<|gR 2 rfl<|go_xloop<|qW E h [6];refine gR 5 rfl ?_;obtain⟨G,h⟩:=h;exact gR 1 rfl<|gV 42 (qi ((a+1:Nat):Int)) rfl (an (by omega) (by omega)) rfl<|gR 2 rfl<|go_xloop<|qW E h [0];refine gR 3 rfl<|go_xloopE<|gR 9 rfl ?_;subst h;exact gE E [] [(4,.sl 0)] [0] [.tmp 4]
theorem nI(m:Nat)(E:Bool)(h:∃b y k,rR [109,111,100,117,108,101,32,77,32,100,101,102,32,102,40,120,58,32,73,110,116,41,58,32,73,110,116,32,61,32,108,101,116,32,121,32,61,32,120,32,105,110,32,108,101,116,32,120,32,61,32,121,32,105,110,32,120] b y k∧((k≠0)→false=E)∧((k=0)→(((b.kids.length:Int)≠1)→false=E)∧(((b.kids.length:Int)=1)→∃o,b.kids[0]?=some o∧∃c,eu o c∧∃p,b.kids[0]?=some p∧∃z l,lC p [2,0] [121] z l∧(((c.length:Int)=3)→∃n,c[0]?=some n∧((n.Free=false)→∃g,c[0]?=some g∧∃d,bh g.Binder [0] d∧((d=true)→∃i,c[2]?=some i∧∃e,bh i.Binder [2,1] e∧((e=true)→((l=false)→∃j,b.kids[0]?=some j∧∃a,kH j [2,1,1] a∧((a.length:Int)==2)=E)∧((l=true)→false=E))∧((e=false)→false=E))∧((d=false)→false=E))∧((n.Free=true)→false=E))∧(((c.length:Int)≠3)→false=E)))):gx E:=by
 refine⟨rfl,rfl,?_⟩;refine qA 74 [] func5 λK G=>?_;refine gR 7 rfl ?_;obtain⟨b,y,k,α,h⟩:=h;refine qC0 α rfl<|gR 16 rfl<|qBhZ 14 13 rfl rfl rfl rfl h mj jT ?_ ?_<;>intro h;refine gR 15 rfl ?_;subst h;exact qN [.tmp 0];refine gR 3 rfl<|gV 17 (qi (b.kids.length:Int)) rfl (aW (aN _)) rfl<|gLB 16 rfl (aN _) λη=>gR 4 rfl<|qBh 19 rfl rfl rfl h mj jT ?_ ?_<;>intro h;refine gR 8 rfl ?_;subst h;exact qN [.tmp 0];refine gR 7 rfl ?_;obtain⟨o,t,h⟩:=h;refine gY (aG (aq t) ac rfl rfl rfl rfl) rfl rfl<|gR 1 rfl ?_;obtain⟨c,β,h⟩:=h;refine qC0 β rfl<|gR 7 rfl ?_;obtain⟨p,v,h⟩:=h;refine gY (aG (aq v) ac rfl rfl rfl rfl) rfl rfl<|gR 2 rfl<|gFR 1 rfl rfl rfl rfl ?_;obtain⟨z,l,γ,h⟩:=h;refine qC0 γ rfl<|gR 11 rfl<|gV 35 (qi (c.length:Int)) rfl (aW (ax ah.w _)) rfl<|gLB 34 rfl (ax ah.w _) λθ=>gR 2 rfl<|qBeZ 37 36 rfl rfl rfl rfl h ?_ ?_<;>intro h;refine gR 1 rfl ?_;obtain⟨n,x,h⟩:=h;refine gY (aG (au (f:=ah.w) x) ac rfl rfl rfl rfl) rfl rfl<|gR 5 rfl<|qBhZ 44 43 rfl rfl rfl rfl h cx cw ?_ ?_<;>intro h;refine gR 1 rfl ?_;obtain⟨g,q,h⟩:=h;refine gY (aG (au (f:=ah.w) q) ac rfl rfl rfl rfl) rfl rfl<|gR 3 rfl<|gFR 2 rfl rfl rfl rfl ?_;obtain⟨d,δ,h⟩:=h;refine qC0 δ rfl<|gR 2 rfl<|qBiZ 52 51 rfl rfl rfl rfl h ?_ ?_<;>intro h;refine gR 1 rfl ?_;obtain⟨i,r,h⟩:=h;refine gY (aG (au (f:=ah.w) r) ac rfl rfl rfl rfl) rfl rfl<|gR 3 rfl<|gFR 3 rfl rfl rfl rfl ?_;obtain⟨e,ε,h⟩:=h;refine qC0 ε rfl<|gR 2 rfl<|qBiZ 60 59 rfl rfl rfl rfl h ?_ ?_<;>intro h;refine gR 4 rfl<|qBhZ 64 63 rfl rfl rfl rfl h cx cw ?_ ?_<;>intro h;refine gR 2 rfl ?_;obtain⟨j,s,h⟩:=h;refine gY (aG (aq s) ac rfl rfl rfl rfl) rfl rfl<|gR 2 rfl<|gFR 4 rfl rfl rfl rfl ?_;obtain⟨a,ζ,h⟩:=h;refine qC ζ [] ?_;refine gHR 5 (List.map V.str a) rfl (dN _ V.str (λ_=>rfl) a) rfl<|gR 1 rfl<|gV 71 (qi (a.length:Int)) rfl (aW (ax V.str _)) rfl<|gLO 5 rfl (ax V.str _) λι=>gR 6 rfl ?_;subst h;exact qN [.tmp 0];refine gR 13 rfl ?_;subst h;exact qN [.tmp 0];refine gR 17 rfl ?_;subst h;exact qN [.tmp 0];refine gR 25 rfl ?_;subst h;exact qN [.tmp 0];refine gR 33 rfl ?_;subst h;exact qN [.tmp 0];refine gR 40 rfl ?_;subst h;exact qN [.tmp 0]
open Go.RowKit Go.Shelf Lx Sx
def io:Go.Shelf.Ren:=⟨fun|22=>27|29=>47|30=>48|36=>72|17=>93|n=>n,fun|24=>29|9=>9|3=>3|4=>4|0=>0|n=>n,fun|n=>n⟩
theorem DK:Go.Proofs.Lays2.n22 prog io:={
 mixed:=by kernel_rfl
 f17:=func93.trans (congrArg some (by kernel_rfl))
 f22:=func27.trans (congrArg some (by kernel_rfl))
 f29:=func47.trans (congrArg some (by kernel_rfl))
 f30:=func48.trans (congrArg some (by kernel_rfl))
 f36:=func72.trans (congrArg some (by kernel_rfl))
 t0:=underlying0
 a0:=isAgg0
 z0:=sizeOf0
 v0:=zeroValue0
 t3:=underlying3
 a3:=isAgg3
 z3:=sizeOf3
 v3:=zeroValue3
 t4:=underlying4
 a4:=isAgg4
 z4:=sizeOf4
 v4:=zeroValue4
 t9:=underlying9
 a9:=isAgg9
 z9:=sizeOf9
 v9:=zeroValue9
 t24:=underlying29
 a24:=isAgg29
 z24:=sizeOf29
 v24:=zeroValue29
 i9:=by kernel_rfl}
theorem gG{b:Nat}{t:TypeId}:∀(vs:List Value) (o:Nat) {w:World} {cs:List Value},Blk w b t cs→o+vs.length≤cs.length→Blk (w.setCells b o vs) b t (cs.take o++vs++cs.drop (o+vs.length))
 |[],o,w,cs,h,_=>by simpa[World.setCells]using h
 | v::r,o,w,cs,h,hl=>by
  simp only[List.length_cons]at hl;have :=gG r (o+1) (h.set o v) (by simp;omega);have e:(cs.set o v).take (o+1)++r++(cs.set o v).drop (o+1+r.length)=cs.take o++(v::r)++cs.drop (o+(v::r).length):=by
   have h1:(cs.set o v).take (o+1)=cs.take o++[v]:=by
    rw[List.take_add_one,List.take_set_of_le (Nat.le_refl _),List.getElem?_set_self (by omega)];rfl
   rw[h1,List.drop_set_of_lt (by omega),List.length_cons,show o+1+r.length=o+(r.length+1) by omega];simp
  rw[e]at this;exact this
theorem gs{b:Nat}:∀(vs:List Value) (o:Nat) (w:World),Chg [b] w (w.setCells b o vs)
 |[],o,w=>Chg.refl _ _
 |v::r,o,w=>(Chg.set w b o v).trans (gs r (o+1) _) λ_ h=>.inl h
theorem qz{w:World}{g c:Nat}{e:TypeId}{C:List Value}(h:Blk w g e C)(q:C.length=c)(E:n≤c)(G:c≤maxLen)(hx:C.take n=xs):w.ownsRow 0 e 1 (.slice (some ⟨g,0,none⟩) n c) n xs:=by
 refine⟨by rw[←hx,List.length_take];omega,.inr ⟨g,c,C.toArray,rfl,Nat.zero_le _,h,E,G,by simp[q],by simpa using hx⟩⟩
theorem Ea{D M:List Value}{x:Value}(hi:i<n)(q:n+1≤D.length)(E:M.length=n-i):
  ((D.take i++[x]++D.drop (i+1)).take (i+1)++M++(D.take i++[x]++D.drop (i+1)).drop (i+1+M.length)).take (n+1)=D.take i++x::M:=by
 have h1:(D.take i++[x]).length=i+1:=by simp;omega
 rw[List.take_append_of_le_length (by simp;omega),List.take_of_length_le (by simp;omega)];rw[List.take_append_of_le_length (by omega),List.take_of_length_le (by omega)];simp
theorem Be{C:List Value}{x:Value}(hi:i<n)(E:n+1≤C.length):
  (let C1:=C.take (i+1)++(C.take n).drop i++C.drop (i+1+((C.take n).drop i).length);C1.take i++[x]++C1.drop (i+[x].length)).take (n+1)=(C.take n).take i++x::(C.take n).drop i:=by
 have G:((C.take n).drop i).length=n-i:=by simp;omega
 have h1:(C.take (i+1)).length=i+1:=by simp;omega
 simp only[List.length_singleton];rw[List.append_assoc (C.take (i+1))];have q:∀Y:List Value,(C.take (i+1)++Y).take i=C.take i:=λY=>by rw[List.take_append_of_le_length (by omega),List.take_take,show min i (i+1)=i by omega]
 rw[q];have h2:(C.take (i+1)++((C.take n).drop i++C.drop (i+1+((C.take n).drop i).length))).drop (i+1)=(C.take n).drop i++C.drop (i+1+((C.take n).drop i).length):=by
  rw[List.drop_append_of_le_length (by omega),List.drop_of_length_le (by omega)];rfl
 rw[h2,←List.append_assoc,List.take_append_of_le_length (by simp;omega),List.take_of_length_le (by simp;omega),List.take_take,show min i n=i by omega];simp
theorem DF{C:List Value}{x:Value}(q:n+1≤C.length):(C.take n++[x]++C.drop (n+[x].length)).take (n+1)=C.take n++[x]:=by
 rw[List.take_append_of_le_length (by simp;omega),List.take_of_length_le (by simp;omega)]
theorem DH(w:World)(v v1:Value)(l:List (List UInt8))(i:Nat)(x:List UInt8)(h0:w.ownsRow 0 9 1 v l.length (l.map aE))(h1:w.ownsRow 0 9 1 v1 1 [aE x])(hd:∀b,v.ownBlock=some b→v1.ownBlock≠some b)(hi:i≤l.length)(hl:l.length≤100000000):
  Calls prog 27 #[v,.int .i64 (i:Int),v1] w λe w'=>∃v',e=.returned v'∧w'.ownsRow 0 9 1 v' (l.length+1) ((l.take i++x::l.drop i).map aE)∧Chg v.ownBlock.toList w w'∧(v'.ownBlock=v.ownBlock∨v'.ownBlock=some w.heap.size):=by
 have L:=DK;obtain⟨_,hv1⟩:=h1;rcases hv1 with⟨_,hz⟩|⟨g1,c1,cur1,rfl,_,hg1,hn1,hc1,hs1,ht1⟩
 ·cases hz
 have hcell1:∀j u,[aE x][j]?=some u→w.cell? ⟨g1,0+j,none⟩=some u:=λj u hj=>by
  have :cur1.toList[j]?=some u:=by
   have hj1:j<1:=by have :=(List.getElem?_eq_some_iff.1 hj).1;simpa using this
   rw[←ht1,List.getElem?_take,if_pos (by omega)]at hj;exact hj
  rw[Nat.zero_add];simpa[World.cell?,hg1]using this
 have one1:∀u∈[aE x],u.oneCell'=true:=by simp[aE,Value.oneCell']
 have oneL:∀m:List (List UInt8),∀u∈m.map aE,u.oneCell'=true:=λm u hu=>by
  obtain⟨s,_,rfl⟩:=List.mem_map.1 hu;rfl
 have grow:∀(base:Option Addr) (c:Nat),l.length≤c→c<l.length+1→(base=none→l.length=0)→(∀a,base=some a→∀j u,(l.map aE)[j]?=some u→w.cell? (a.add j)=some u)→i=l.length→
   Calls prog 27 #[.slice base l.length c,.int .i64 (i:Int),.slice (some ⟨g1,0,none⟩) 1 c1] w λe w'=>∃v',e=.returned v'∧w'.ownsRow 0 9 1 v' (l.length+1) ((l.take i++x::l.drop i).map aE)∧Chg [] w w'∧v'.ownBlock=some w.heap.size:=λbase c hc1 hc2 hb hcs hie=>by
  subst hie;refine(Any2.slices_Insert_string_end_grow L base l.length c g1 0 1 c1 (l.map aE) [aE x] w (by omega) hc1 hc2 (by omega) (by simp) (by simp) hb hcs hcell1 one1).mono ?_;rintro e w' ⟨rfl,rfl⟩;have hcap:=grownCap_ge w (l.length+1) c (io.t 9);have hcm:=grownCap_le_maxLen w (l.length+1) c (io.t 9) (by simp only[maxLen];omega);refine⟨_,rfl,?_,(Chg.drew w).trans (Chg.alloc _ _) (by simp),rfl⟩;refine qz (C:=(l.map aE++[aE x])++(Builtin.zeroCells (Value.string ⟨#[]⟩).cells (grownCap w (l.length+1) c (io.t 9)-(l.length+1))).toList) ?_ ?_ hcap hcm ?_
  ·have :=Blk.new w.drew 9 ((l.map aE++[aE x])++(Builtin.zeroCells (Value.string ⟨#[]⟩).cells (grownCap w (l.length+1) c (io.t 9)-(l.length+1))).toList);have e:((l.map aE++[aE x]).toArray++Builtin.zeroCells (Value.string ⟨#[]⟩).cells (grownCap w (l.length+1) c (io.t 9)-(l.length+1)))=((l.map aE++[aE x])++(Builtin.zeroCells (Value.string ⟨#[]⟩).cells (grownCap w (l.length+1) c (io.t 9)-(l.length+1))).toList).toArray:=by
    apply Array.ext';simp
   rw[e];exact this
  ·have hz:(Builtin.zeroCells (Value.string ⟨#[]⟩).cells (grownCap w (l.length+1) c (io.t 9)-(l.length+1))).toList.length=(grownCap w (l.length+1) c (io.t 9)-(l.length+1))*1:=size_zeroCells _ _;rw[List.length_append,hz];simp;omega
  ·rw[List.take_append_of_le_length (by simp),List.take_of_length_le (by simp)];simp
 obtain⟨_,hv0⟩:=h0;rcases hv0 with⟨rfl,hz⟩|⟨g,c,cur,rfl,_,hg,hn,hc,hs,ht⟩
 ·rw[Nat.mul_one]at *;have hl0:l=[]:=List.length_eq_zero_iff.1 hz;subst hl0;refine(grow none 0 (by simp) (by simp) (λ_=>rfl) (λa h=>by cases h) (by simpa using hi)).mono ?_;rintro e w' ⟨v',h2,h3,h4,h5⟩;exact⟨v',h2,h3,h4,.inr h5⟩
 ·rw [Nat.mul_one]at *;have hgg:g1≠g:=λe=>hd g rfl (by rw[e];rfl);obtain⟨C,rfl⟩:∃C:List Value,cur=C.toArray:=⟨cur.toList,rfl⟩;simp only[List.size_toArray]at hs ht;have hB:Blk w g 9 C:=hg;have hcs:∀j u,(l.map aE)[j]?=some u→w.cell? ⟨g,0+j,none⟩=some u:=λj u hj=>by
   rw[Nat.zero_add,hB.cell j];rw[←ht,List.getElem?_take]at hj;split at hj
   ·exact hj
   ·cases hj
  have hlt:l.length≤C.length:=by omega
  by_cases hroom:l.length+1≤c
  ·by_cases hin:i<l.length
   ·refine(Any2.slices_Insert_string_shift L g 0 l.length c i g1 0 1 c1 (l.map aE) [aE x] w hin (by omega) hroom (by simp only[maxLen]at hc;omega) hgg (by simp) (by simp) hcs (λj hj=>by rw[Nat.zero_add,hB.cell j,List.getElem?_eq_getElem (by omega)];rfl) (λj hj=>hB.frozen _) hcell1 (oneL l) one1 9 9 cur1.size C.length (by simp[World.shape?,hg1]) (by simp[World.shape?,hg]) (by omega) (by simp[World.frozen?,hg1]) (by simp[World.frozen?,hg1])).mono ?_;rintro e w' ⟨rfl,rfl⟩;refine⟨_,rfl,?_,(Chg.drew w|>.mono (by simp)).trans ((gs _ _ _).trans (gs _ _ _) λ_ h=>.inl h) (λb hb=>.inl (by simp at hb;subst hb;simp[Value.ownBlock])),.inl rfl⟩;have hB0:Blk w.drew g 9 C:=hB;simp only[Nat.zero_add];have hB1:=gG ((l.map aE).drop i) (i+1) hB0 (by simp;omega);have hB2:=gG [aE x] i hB1 (by simp;omega);have hi':i<l.length:=hin;refine qz hB2 (by simp;omega) hroom hc ?_;rw[←ht];have :=Be (C:=C) (i:=i) (n:=l.length) (x:=aE x) hin (by omega);simp only at this;rw[this,ht];simp
   ·have hie:i=l.length:=by omega
    subst hie;refine(Any2.slices_Insert_string_end_room L g 0 l.length c g1 0 1 c1 [aE x] w (by omega) hroom (by simp only[maxLen]at hc;omega) (by simp) (λj hj=>by rw[hB.cell,List.getElem?_eq_getElem (by omega)];rfl) (λj hj=>hB.frozen _) hcell1 one1).mono ?_;rintro e w' ⟨rfl,rfl⟩;refine⟨_,rfl,?_,(gs _ _ _).mono (λb hb=>by simp at hb;subst hb;simp[Value.ownBlock]),.inl rfl⟩;simp only[Nat.zero_add];have hB1:=gG [aE x] l.length hB (by simp;omega);refine qz hB1 (by simp;omega) hroom hc ?_;rw[DF (by omega),ht];simp
  ·by_cases hin:i<l.length
   ·refine(Any2.slices_Insert_string_grow L g 0 l.length c i g1 0 1 c1 (l.map aE) [aE x] w hin (by omega) hn (by omega) (by omega) (by simp) (by simp) hcs hcell1 (oneL l) one1).mono ?_;rintro e w' ⟨rfl,rfl⟩;have hcap:=grownCap_ge w (l.length+1) c (io.t 9);have hcm:=grownCap_le_maxLen w (l.length+1) c (io.t 9) (by simp only[maxLen];omega);obtain⟨cap,hce⟩:∃cap,cap=grownCap w (l.length+1) c (io.t 9):=⟨_,rfl⟩;rw[←hce]at hcap hcm⊢;obtain⟨D,hD⟩:∃D:List Value,D=(l.map aE).take i++((Builtin.zeroCells (Value.string ⟨#[]⟩).cells (l.length+1-i)).toList++(Builtin.zeroCells (Value.string ⟨#[]⟩).cells (cap-(l.length+1))).toList):=⟨_,rfl⟩;have h1c:(Value.string ⟨#[]⟩).cells.size=1:=rfl;have hz:∀k,(Builtin.zeroCells (Value.string ⟨#[]⟩).cells k).toList.length=k*1:=λk=>size_zeroCells _ _;have hDl:D.length=cap:=by rw[hD,List.length_append,List.length_append,hz,hz];simp;omega
    have hDt:D.take i=(l.map aE).take i:=by rw[hD,List.take_append_of_le_length (by simp;omega),List.take_take];simp
    have hB0:Blk (w.alloc (.cells D.toArray 9)).drew w.heap.size 9 D:=Blk.new w _ D;have e:((((l.map aE).take i).toArray++Builtin.zeroCells (Value.string ⟨#[]⟩).cells (l.length+1-i))++Builtin.zeroCells (Value.string ⟨#[]⟩).cells (cap-(l.length+1)))=D.toArray:=by
     rw[hD];apply Array.ext';simp
    rw[e];have hB1:=gG [aE x] i hB0 (by simp;omega);have hB2:=gG ((l.map aE).drop i) (i+1) (show Blk (World.drew ((w.alloc (.cells D.toArray 9)).drew.setCells w.heap.size i [aE x])) w.heap.size 9 _ from hB1) (by simp;omega);refine⟨_,rfl,?_,?_,.inr rfl⟩
    ·refine qz hB2 (by simp;omega) hcap hcm ?_;have :=Ea (D:=D) (M:=(l.map aE).drop i) (i:=i) (n:=l.length) (x:=aE x) hin (by omega) (by simp);rw[List.length_singleton,this,hDt];simp
    ·have a1:Chg [] w (w.alloc (.cells D.toArray 9)).drew:=(Chg.alloc w _).trans (Chg.drew _) (by simp);have a2:=gs (b:=w.heap.size) [aE x] i (w.alloc (.cells D.toArray 9)).drew;have a3:=gs (b:=w.heap.size) ((l.map aE).drop i) (i+1) (World.drew ((w.alloc (.cells D.toArray 9)).drew.setCells w.heap.size i [aE x]));refine(Chg.mono ?_ (X:=[]) (by simp));refine a1.trans (Y:=[w.heap.size]) (a2.trans (((Chg.drew _).mono (Y:=[w.heap.size]) (by simp)).trans a3 λ_ h=>.inl h) λ_ h=>.inl h) λb hb=>.inr (by simp at hb;omega)
   ·refine(grow (some ⟨g,0,none⟩) c hn (by omega) (λh=>by cases h) (λa ha j u hj=>by cases ha;rw[iP];exact hcs j u hj) (by omega)).mono ?_;rintro e w' ⟨v',h2,h3,h4,h5⟩;exact⟨v',h2,h3,h4.mono (by simp),.inr h5⟩
theorem lW{S:Nat→Prop}{w:World}{ρ:Nat→Option Value}:∀{l:List (List UInt8)} {xs:List Value},CRel S w ρ 1 (l.map V.str) xs↔xs=l.map aE
 |[],xs=>by simp[CRel]
 | s::r,xs=>by
  simp only[List.map_cons,CRel];constructor
  ·rintro⟨y,ys,rfl,_,h2,h3⟩;simp only[VRel]at h2;subst h2;rw[lW.1 h3];rfl
  ·rintro rfl;exact⟨aE s,r.map aE,rfl,⟨rfl,rfl⟩,by simp only[VRel,aE],lW.2 rfl⟩
theorem Cp(l:List (List UInt8))(x:List UInt8)(i:Nat)(hi:i≤l.length)(hl:l.length≤100000000):nr l (i:Int) [x] (l.take i++x::l.drop i):=λS w ρ xs hr hx=>by
 simp only[LRel,VRel]at hx;obtain⟨v,ys,rfl,⟨k1,k2⟩,u,zs,rfl,rfl,v1,ts,rfl,⟨q1,q2⟩,rfl⟩:=hx;have E:(⟨2,[(1,.row 9 1 (List.map V.str [x])),(0,.row 9 1 (List.map V.str l))]⟩:Hp).get 0=.row 9 1 (List.map V.str l):=rfl;have o1:(⟨2,[(1,.row 9 1 (List.map V.str [x])),(0,.row 9 1 (List.map V.str l))]⟩:Hp).get 1=.row 9 1 (List.map V.str [x]):=rfl;obtain⟨a,as',O,G,e3⟩:=gw hr E;rw[k1]at O;cases O;obtain⟨b,bs,f1,f2,f3⟩:=gw hr o1;rw[q1]at f1;cases f1;rw[lW.1 e3,List.length_map]at G;rw[lW.1 f3]at f2;have U:∀c,v.ownBlock=some c→v1.ownBlock≠some c:=λc h1 h2=>by
  have :=hr.dis 0 1 c (by rw[E];exact⟨v,k1,h1⟩) (by rw[o1];exact⟨v1,q1,h2⟩);cases this
 refine(DH w v v1 l i x G f2 U hi hl).mono λe w' hR=>?_;obtain⟨v',rfl,g2,g3,Z⟩:=hR;obtain⟨H,hH⟩:∃H:Hp,H=⟨2,[(1,.row 9 1 (List.map V.str [x])),(0,.row 9 1 (List.map V.str l))]⟩:=⟨_,rfl⟩;rw[←hH]at hr E o1⊢;have hf:H.get 2=.free:=by rw[hH];rfl
 have hX:∀b,b∈v.ownBlock.toList→own ρ 0 (H.get 0) b:=λb J=>by simp at J;rw[E];exact⟨v,k1,J⟩
 have he:=rH (x:=v') (o:=.row 9 1 ((l.take i++x::l.drop i).map V.str)) hr hf (by rw[E];simp) g3 hX ⟨v',_,aJ _ _ _,by rw[List.length_map,show(l.take i++x::l.drop i).length=l.length+1 by simp;omega];exact g2,lW.2 rfl⟩ (λb J=>by
  obtain⟨q,O,G⟩:=J;rw[aJ]at O;cases O;rcases Z with Z|Z
  ·exact .inl (by rw[E];exact⟨v,k1,by rw[←Z];exact G⟩)
  ·rw[Z]at G;simp at G;exact .inr (by omega))
 have hget:bM (bM H.get 0 .gone) 2 (.row 9 1 ((l.take i++x::l.drop i).map V.str))=(⟨3,[(2,.row 9 1 (List.map V.str (l.take i++x::l.drop i))),(1,.row 9 1 (List.map V.str [x]))]⟩:Hp).get:=by
  funext j
  match j with
  |0=>rfl
  |1=>rw[hH];rfl
  |2=>rfl
  |n+3=>rw[hH];rfl
 rw[hget]at he;have hi:Inv ⟨w,S,λb=>∃id,own ρ id (H.get id) b,mH [1] H.get ρ⟩ S w ρ H.get:=⟨ChgP.refl _ _,λ_ h=>h,λ_ h=>.inl h,λid b J=>.inl ⟨id,J⟩,λid x h=>by
  simp only[mH]at h;split at h
  ·exact h
  ·cases h⟩
 exact⟨v',S,dc ρ 2 v',_,_,rfl,⟨rfl,rfl⟩,he.hr,hi.eff he,by simp only[VRel];exact⟨aJ _ _ _,sU g2⟩⟩
theorem xm(p:List UInt8):(p !=p)=false:=by simp
theorem FH(p q:List UInt8):oO p q (Op.bytesLess p q):=by
 refine wH 0 _ _ _ ⟨_,vl 0 _ _ rfl,λh=>?_,λh=>rfl⟩;rw[xm]at h;cases h
theorem ta(l:List Nm)(w:Nm)(ha:asc l)(hl:l.length≤1000000000):gv l w (eh w l:Nat) (decide (l[eh w l]?=some w)):=by
 have fin:∀m i j,¬i<j→i≤eh w l→eh w l≤j→bO (m+1) l w i j (eh w l:Nat) (decide (l[eh w l]?=some w)):=λm i j hij h1 h2=>by
  have e:i=eh w l:=by omega
  subst e;refine jp m _ _ _ _ _ _ ⟨λh=>absurd h hij,λ_=>⟨λh=>?_,λh=>?_⟩⟩
  ·obtain⟨x,hx,_⟩|h':=aB l (eh w l)
   ·refine⟨x,hx,λhe=>⟨rfl,by rw[hx,he];simp⟩,λhe=>⟨x,hx,_,sa 0 _ _ rfl,λhb=>?_,λ_=>⟨rfl,by rw[hx];simp[he]⟩⟩⟩;rw[xm]at hb;cases hb
   ·exact absurd h h'
  ·refine⟨rfl,?_⟩;rw[List.getElem?_eq_none (by omega)];simp
 have hp:=te w l;have loop:∀k i j,j-i≤k→i≤eh w l→eh w l≤j→j≤l.length→bO (k+1) l w i j (eh w l:Nat) (decide (l[eh w l]?=some w)):=λk=>by
  induction k with
  |zero=>intro i j h0 h1 h2 h3;exact fin 0 i j (by omega) h1 h2
  | succ k ih=>
   intro i j h0 h1 h2 h3;by_cases hij:i<j
   ·obtain⟨x,hx,_⟩|h':=aB l ((i+j)/2)
    ·have hlt:=xY (w:=w) ha hx;refine jp (k+1) _ _ _ _ _ _ ⟨λ_=>⟨by omega,by omega,by omega,x,hx,_,FH x w,λhb=>⟨by omega,?_⟩,λhb=>?_⟩,λh=>absurd hij h⟩
     ·have :=hlt.1 hb;exact ih _ _ (by omega) (by omega) h2 h3
     ·have :¬(i+j)/2<eh w l:=λh=>by rw[hlt.2 h]at hb;cases hb
      exact ih _ _ (by omega) h1 (by omega) (by omega)
    ·omega
   ·exact fin _ i j hij h1 h2
 exact nG (l.length+1) _ _ _ _ (loop l.length 0 l.length (by omega) (by omega) hp (Nat.le_refl _))
theorem Du(t:Tree)(q:List Int):(arP t q).length≤q.length+t.kids.length:=by
 cases q with
 |nil=>unfold arP;split<;>simp
 | cons i r=>
  have :=vV t (i::r) (i::r).length;unfold arP;split
  ·simp
  ·simp only;split
   ·simp only[List.length_append,mh,List.length_map,List.length_range];omega
   ·simp
def uU(t:Tree)(q:List Int):List Nm:=if cv t=true then lD [] (((arP t q).map (bW t)).map (·.name))else[]
theorem Bf(l:List Nm)(w:Nm)(r:List Nm):lD l (w::r)=lD (iu w l) r:=rfl
theorem yG(t:Tree)(q:List Int)(ht:tbulk t≤10000000)(hq:q.length≤10000000):kH t q (uU t q):=by
 have hk:=dB t;by_cases hf:cv t=true
 rotate_left
 ·exact mz 0 _ _ _ ⟨_,uu t (by omega),λh=>by simp[uU,h],λh=>absurd h hf⟩
 ·have ha:=vJ t q (fP hf) (by omega) (by omega);have hlen:(auL t t [] [] q).1.length≤q.length+t.kids.length:=by
   have :=congrArg List.length (CG hf q);simp only[List.length_reverse,List.length_map]at this;rw[this];exact Du t q
  have e:uU t q=lD [] ((auL t t [] [] q).1.map (·.name)):=by rw[uU,if_pos hf,BV hf]
  rw[e];obtain⟨A,hA⟩:∃A,A=(auL t t [] [] q).1:=⟨_,rfl⟩;rw[←hA]at ha hlen⊢;have loop:∀k i l,A.length-i≤k→i≤A.length→l.length≤i→asc l→fa (k+1) A l i (lD l ((A.drop i).map (·.name))):=λk=>by
   induction k with
   |zero=>
    intro i l h0 hi hl hs;refine jy 0 _ _ _ _ ⟨λh=>by omega,λ_=>?_⟩;rw[List.drop_of_length_le (by omega)];rfl
   | succ k ih=>
    intro i l h0 hi hl hs;obtain⟨x,hx,_⟩|h':=aB A i
    ·rw[cm hx,List.map_cons,Bf];have hil:=uL x.name l;refine jy (k+1) _ _ _ _ ⟨λ_=>⟨x,hx,_,_,ta l x.name hs (by omega),λhb=>⟨iu x.name l,?_,by omega,ih (i+1) _ (by omega) (by omega) (by omega) (rA _ _ hs)⟩,λhb=>⟨by omega,?_⟩⟩,λh=>by omega⟩
     ·have hne:=of_decide_eq_false hb;rw[ra,if_neg hne];exact Cp l x.name _ (te _ _) (by omega)
     ·have he:=of_decide_eq_true hb;rw[ra,if_pos he];exact ih (i+1) l (by omega) (by omega) (by omega) hs
    ·refine jy (k+1) _ _ _ _ ⟨λh=>absurd h h',λ_=>?_⟩;rw[List.drop_of_length_le (by omega)];rfl
  refine mz (A.length+1) _ _ _ ⟨_,uu t (by omega),λh=>(by rw[hf]at h;cases h),λ_=>⟨_,_,ha,?_⟩⟩;have :=loop A.length 0 [] (by omega) (by omega) (by simp) trivial
  rwa [List.drop_zero]at this
def CD:List UInt8:=[109,111,100,117,108,101,32,77,32,100,101,102,32,102,40,120,58,32,73,110,116,41,58,32,73,110,116,32,61,32,108,101,116,32,121,32,61,32,120,32,105,110,32,108,101,116,32,120,32,61,32,121,32,105,110,32,120]
def qu:Tree:=(Fx CD).1
def fE:Tree:=qu.kids.headD zT0
end Go.Proofs.YtojjjmkmkbnieaaGreat
