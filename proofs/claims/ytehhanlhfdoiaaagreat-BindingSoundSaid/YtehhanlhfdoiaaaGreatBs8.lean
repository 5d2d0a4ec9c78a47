/- Contracts of the functions that the law reaches, part 8. -/
import Derived.Test.YtehhanlhfdoiaaaGreatBs7
set_option linter.unusedVariables false
set_option linter.unusedSimpArgs false
namespace Go.Proofs.YtehhanlhfdoiaaaGreat
open _root_.Go.Proofs.Tryz
open Go.RowKit Lx Sx
set_option maxHeartbeats 1000000
set_option maxRecDepth 100000
theorem Su{L:YI}{a:Int}(E:Dc L a):Gt L (λt a'=>nR L a t L a') 500:=by
 obtain⟨r,a1,h1,h2,h3⟩:=fF E (n:=5) (by omega) (by omega);by_cases hr:r=0
 ·obtain⟨s,a2,g1,g2,U⟩:=jH h3 [[84],[85]] (by decide) (by decide);have hs:=iv g2 (by decide);obtain⟨t,a3,G,J,q3⟩:=Jb 2 U (by omega);exact⟨_,a3,rA 0 _ _ _ _ _ ⟨_,_,_,h1,λ_=>⟨_,_,_,g1,_,_,_,G,I,I,I⟩,λh=>absurd hr h⟩,J,by rw[tb1];omega⟩
 ·obtain⟨s,a2,g1,g2,U⟩:=jH h3 [[102],[103],[104]] (by decide) (by decide);have hs:=iv g2 (by decide);obtain⟨n,a3,g4,g5,g6⟩:=fF U (n:=4) (by omega) (by omega);have loop:∀(k:Nat) (a:Int) (l:YT),Dc L a->l.length+k<=100->Gt L (λt a'=>ji (k+1) s L a l (k:Int) t L a') (s.length+1+kbulk l+k*13+429):=λk=>by
   induction k with
   |zero=>
    intro a l E hl;obtain⟨t1,b1,G,J,q3⟩:=Jb 1 E (by omega);obtain⟨t2,b2,q4,q5,q6⟩:=Rx 3 J (by omega);have :eB 3=422:=rfl;refine⟨_,b2,qV 0 _ _ _ _ _ _ _ _ ⟨λh=>by omega,λ_=>⟨_,_,_,G,_,_,_,q4,by simp;omega,rfl,rfl,rfl⟩⟩,q5,?_⟩;rw[tbK,fD];simp only[kbulk];omega
   |succ k Z=>
    intro a l E hl;obtain⟨x,b0,q0,q0',q0''⟩:=jH E [[120],[121],[122]] (by decide) (by decide);have hx:=iv q0' (by decide);obtain⟨t,b,G,J,q3⟩:=Jb 1 q0'' (by omega);refine(Z b (l++[.node 4 x [] [t]]) J (by simp;omega)).map ?_ λt' a' h=>qV (k+1) _ _ _ _ _ _ _ _ ⟨λ_=>⟨_,_,_,q0,_,_,_,G,by simp;omega,by omega,by rw[show((k+1:Nat):Int)-1=(k:Int) by omega];exact h⟩,λh=>by omega⟩;rw[fD];simp only[kbulk,tb1];omega
  exact(loop n.toNat a3 [] g6 (by simp;omega)).map (by simp only[kbulk];omega) λt a' h=>rA (n.toNat+1) _ _ _ _ _ ⟨_,_,_,h1,λh=>absurd h hr,λ_=>⟨_,_,_,g1,_,_,_,g4,by rw[show n=((n.toNat:Nat):Int) by omega];exact h⟩⟩
def Sh(l:List YB)(n:Nat):Prop:=l.length=n∧∀x∈l,x.length<=2
theorem Sh.sum:∀{l:List YB} {n:Nat},Sh l n->eh l<=3*n
 |[],n,h=>by simp[eh]
 |x::r,n,h=>by
  obtain⟨h1,h2⟩:=h;have :=h2 x (by simp);have :=Sh.sum (l:=r) (n:=n-1) ⟨by simp at h1;omega,λy hy=>h2 y<|by simp[hy]⟩;simp only[eh];simp at h1;omega
variable{n:Nat}
theorem Sh.set{l:List YB}{i:Nat}{x:YB}(h:Sh l n)(hx:x.length<=2):Sh (l.set i x) n:=⟨by simpa using h.1,λy hy=>by
 rcases List.mem_or_eq_of_mem_set hy with h1|h1
 ·exact h.2 y h1
 ·subst h1;exact hx⟩
theorem Sh.get{l:List YB}{i:Nat}(h:Sh l n)(hi:i<n):∃s,l[i]?=some s:=by
 obtain⟨s,hs,_⟩|h':=aZ l i
 ·exact⟨s,hs⟩
 ·have :=h.1;omega
theorem Nf{n:Int}(h0:0<=n)(h1:n<=100000000):∃l,kx n l∧Sh l n.toNat:=by
 have loop:∀k i (l:List YB),n.toNat-i<=k->i<=n.toNat->Sh l i->∃r,fR (k+1) n l i r∧Sh r n.toNat:=λk=>by
  induction k with
  |zero=>intro i l hi hle hl;exact⟨l,iY 0 _ _ _ _ ⟨λh=>by omega,λ_=>rfl⟩,by rw[show n.toNat=i by omega];exact hl⟩
  | succ k ihk=>
   intro i l hi hle hl;by_cases h:(i:Int)<n
   ·obtain⟨r,e,hr⟩:=ihk (i+1) (l++[[32]]) (by omega) (by omega) ⟨by simp[hl.1],λx hx=>by
     rcases List.mem_append.1 hx with h1|h1
     ·exact hl.2 x h1
     ·simp at h1;subst h1;simp⟩
    exact⟨r,iY (k+1) _ _ _ _ ⟨λ_=>⟨by simp[hl.1];omega,by omega,e⟩,λh'=>absurd h h'⟩,hr⟩
   ·exact⟨l,iY (k+1) _ _ _ _ ⟨λh'=>absurd h' h,λ_=>I⟩,by rw[show n.toNat=i by omega];exact hl⟩
 obtain⟨r,e,hr⟩:=loop n.toNat 0 [] (by omega) (by omega) ⟨rfl,λx hx=>by cases hx⟩;exact⟨r,vL _ _ _ e,hr⟩
def zg(t:Tree)(i:Int)(first:YB):YB:=if t.kind=1 then[10,10]else if 0<i then[32]else if t.kind=8∨t.kind=22∨t.kind=16∨t.kind=18 then[]else if t.kind=2 then(if(2:Int)<t.kids.length then[]else[32])else if t.kind=17∨t.kind=21 then first else[32]
theorem Nb(t:Tree)(i:Int)(first:YB):ku t i first (zg t i first):=by
 refine vl 1 _ _ _ _ ?_
 repeat' first|(refine And.intro (λ_=>?_) λ_=>?_)|(refine uT 0 _ _ _ _ ?_)
 all_goals simp_all[zg]
 all_goals (intro h;omega)
theorem Ju(t:Tree)(i:Int)(first:YB)(hf:first.length<=2):(zg t i first).length<=2:=by
 unfold zg
 repeat' split
 all_goals first|exact hf|simp
theorem qD{n:Int}(hn:0<=n)(a b c:Nat)(z:Int):f0 n a b c z<=b+n:=by
 unfold f0;repeat' split
 all_goals omega
variable{k:Int}
theorem RE{n:Int}(hn:0<=n):bB k n<=6+n:=by
 have a1:=qD hn 2 6 2<|-1;have a2:=qD hn 0 3 0<|-1;have a3:=qD hn 1 2 0<|-1;have G:=qD hn 1 3 0 1;have J:=qD hn 1 2 0 1;have U:=qD hn 1 0 0 1;have Z:=qD hn 3 3 0 3;have a8:=qD hn 2 4 0 2;have a9:=qD hn 2 1 0 2;have E:=qD hn 0 1 0 0;simp only[bB]
 repeat' first|omega|split
variable{t:Tree}
theorem Ln(hs:shapeK t=true):(t.kind=1->bB t.kind t.kids.length=3)∧(t.kind=2->6<=bB t.kind t.kids.length)∧(t.kind=4∨t.kind=8∨t.kind=22->bB t.kind t.kids.length=2)∧(t.kind≠17->1<=bB t.kind t.kids.length):=by
 have h:=lu hs;refine⟨λE=>?_,λE=>?_,λE=>?_,λE=>?_⟩
 ·rw[E];simp only[bB];simp
 ·rw[E]at h⊢;simp only[bB,f0]at h⊢;simp at h⊢;repeat' split
  all_goals first|omega|(simp_all;omega)
 ·rcases E with E|E|E<;>(rw[E]at h⊢;simp only[bB,f0]at h⊢;simp at h⊢;repeat' split)<;>first|omega|(simp_all;done)|(simp_all;omega)
 ·have key:∀k n:Int,0<=n->k≠17->0<=bB k n->1<=bB k n:=λk n hn E h=>by
   have q:∀(a b c:Nat) z,1<=b->f0 n a b c z=-1∨1<=f0 n a b c z:=λa b c z hb=>by
    unfold f0;repeat' split
    all_goals omega
   have a1:=q 2 6 2 (-1) (by decide);have a2:=q 0 3 0 (-1) (by decide);have a3:=q 1 2 0 (-1) (by decide);have J:=q 1 3 0 1 (by decide);have U:=q 1 2 0 1 (by decide);have Z:=q 3 3 0 3 (by decide);have a8:=q 2 4 0 2 (by decide);have a9:=q 2 1 0 2 (by decide);have G:=q 0 1 0 0 (by decide)
   revert h
   simp only[bB]
   repeat' first|(intro h;omega)|split
  exact key _ _ (by omega) E h
section
variable{t:Tree}{N:Nat}{us:YT}
theorem PG:∀k i (l:List YB),N-i<=k->Sh l N->∃l',fq (k+1) t l i us (.node t.kind t.text l' us)∧Sh l' N:=λk=>by
 induction k with
 |zero=>intro i l hi hl;exact⟨l,hJ 0 _ _ _ _ _ ⟨λh=>by have :=hl.1;omega,λ_=>rfl⟩,hl⟩
 | succ k ihk=>
  intro i l hi hl;by_cases h:i<l.length
  ·obtain⟨s,hs⟩:=hl.get (i:=i) (by have :=hl.1;omega);obtain⟨l',e,h'⟩:=ihk (i+1) (l.set i []) (by omega) (hl.set<|by simp);exact⟨l',hJ (k+1) _ _ _ _ _ ⟨λ_=>⟨s,hs,e⟩,λh'=>absurd h h'⟩,h'⟩
  ·exact⟨l,hJ (k+1) _ _ _ _ _ ⟨λh'=>absurd h' h,λ_=>I⟩,hl⟩
theorem Ip:∀k i (l:List YB),N-i<=k->Sh l N->∃l',dD (k+1) t l i us (.node t.kind t.text l' us)∧Sh l' N:=λk=>by
 induction k with
 |zero=>intro i l hi hl;exact⟨l,ia 0 _ _ _ _ _ ⟨λh=>by have :=hl.1;omega,λ_=>rfl⟩,hl⟩
 | succ k ihk=>
  intro i l hi hl;by_cases h:i<l.length
  ·obtain⟨s,hs⟩:=hl.get (i:=i) (by have :=hl.1;omega);obtain⟨l',e,h'⟩:=ihk (i+1) (l.set i []) (by omega) (hl.set<|by simp);exact⟨l',ia (k+1) _ _ _ _ _ ⟨λ_=>⟨s,hs,e⟩,λh'=>absurd h h'⟩,h'⟩
  ·exact⟨l,ia (k+1) _ _ _ _ _ ⟨λh'=>absurd h' h,λ_=>I⟩,hl⟩
theorem Ce(hs:shapeK t=true)(hN:N=(bB t.kind t.kids.length).toNat){l:List YB}(hl:Sh l N):∃l',dF (N+2) t l us (.node t.kind t.text l' us)∧Sh l' N:=by
 obtain⟨g1,g2,g3,g4⟩:=Ln hs;have U:([]:YB).length<=2:=by simp
 by_cases h1:t.kind=1
 ·have :=g1 h1;obtain⟨s,hs⟩:=hl.get (i:=2) (by omega);exact⟨_,bF (N+1) _ _ _ _ ⟨λ_=>⟨s,hs,rfl⟩,λh=>absurd h1 h⟩,hl.set<|by simp⟩
 by_cases h2:t.kind=2
 ·have :=g2 h2;have l1:=hl.set (i:=2) U;have l2:=l1.set (i:=3) U;have l3:=l2.set (i:=4) U;obtain⟨s,hs⟩:=hl.get (i:=2) (by omega);obtain⟨s',hs'⟩:=l1.get (i:=3) (by omega);obtain⟨s2,hs2⟩:=l2.get (i:=4) (by omega);obtain⟨l',e,h'⟩:=PG (t:=t) (us:=us) N 6 _ (by omega) l3;exact⟨l',bF (N+1) _ _ _ _ ⟨λh=>absurd h h1,λ_=>⟨λ_=>⟨s,hs,s',hs',s2,hs2,e⟩,λh=>absurd h2 h⟩⟩,h'⟩
 by_cases G:t.kind=4
 ·have :=g3 (by simp[G]);obtain⟨s,hs⟩:=hl.get (i:=1) (by omega);exact⟨_,bF (N+1) _ _ _ _ ⟨λh=>absurd h h1,λ_=>⟨λh=>absurd h h2,λ_=>⟨λ_=>⟨s,hs,I⟩,λh=>absurd G h⟩⟩⟩,hl.set U⟩
 by_cases Z:t.kind=8
 ·have :=g3 (by simp[Z]);obtain⟨s,hs⟩:=hl.get (i:=1) (by omega);exact⟨_,bF (N+1) _ _ _ _ ⟨λh=>absurd h h1,λ_=>⟨λh=>absurd h h2,λ_=>⟨λh=>absurd h G,λ_=>⟨λ_=>⟨s,hs,I⟩,λh=>absurd Z h⟩⟩⟩⟩,hl.set U⟩
 by_cases E:t.kind=22
 ·have :=g3 (by simp[E]);obtain⟨s,hs⟩:=hl.get (i:=1) (by omega);exact⟨_,bF (N+1) _ _ _ _ ⟨λh=>absurd h h1,λ_=>⟨λh=>absurd h h2,λ_=>⟨λh=>absurd h G,λ_=>⟨λh=>absurd h Z,λ_=>⟨λ_=>⟨s,hs,I⟩,λh=>absurd E h⟩⟩⟩⟩⟩,hl.set U⟩
 by_cases J:t.kind=16
 ·obtain⟨l',e,h'⟩:=Ip (t:=t) (us:=us) N 1 _ (by omega) hl;exact⟨l',bF (N+1) _ _ _ _ ⟨λh=>absurd h h1,λ_=>⟨λh=>absurd h h2,λ_=>⟨λh=>absurd h G,λ_=>⟨λh=>absurd h Z,λ_=>⟨λh=>absurd h E,λ_=>⟨λ_=>e,λh=>absurd J h⟩⟩⟩⟩⟩⟩,h'⟩
 by_cases h18:t.kind=18
 ·obtain⟨l',e,h'⟩:=Ip (t:=t) (us:=us) N 1 _ (by omega) hl;exact⟨l',bF (N+1) _ _ _ _ ⟨λh=>absurd h h1,λ_=>⟨λh=>absurd h h2,λ_=>⟨λh=>absurd h G,λ_=>⟨λh=>absurd h Z,λ_=>⟨λh=>absurd h E,λ_=>⟨λh=>absurd h J,λ_=>⟨λ_=>e,λh=>absurd h18 h⟩⟩⟩⟩⟩⟩⟩,h'⟩
 ·exact⟨l,bF (N+1) _ _ _ _ ⟨λh=>absurd h h1,λ_=>⟨λh=>absurd h h2,λ_=>⟨λh=>absurd h G,λ_=>⟨λh=>absurd h Z,λ_=>⟨λh=>absurd h E,λ_=>⟨λh=>absurd h J,λ_=>⟨λh=>absurd h h18,λ_=>I⟩⟩⟩⟩⟩⟩⟩,hl⟩
end
variable{u:Tree}
theorem uD{l:YT}{i:Nat}(h:l[i]?=some u):kbulk (l.take<|i+1)=kbulk (l.take i)+tbulk u:=by rw[List.take_add_one,h,fD];simp[kbulk]
theorem Lv:∀t:Tree,tbulk t<=1000000->shapeK t=true->∀first,first.length<=2->∃u,fQ t first u∧tbulk u+3<=25*tbulk t∧u.kind=t.kind:=df λt ih ht hs first hf=>by
 have hk:=cS t;have hbt:=bt t;have h0:=lu hs;have h6:=RE (k:=t.kind) (n:=(t.kids.length:Int)) (by omega);obtain⟨g1,g2,g3,g4⟩:=Ln hs;obtain⟨bl,hbl,hsh⟩:=Nf h0 (by omega);have loop:∀k i (done rest:YT),t.kids.length-i<=k->done.length=i->i<=t.kids.length->rest.length=t.kids.length-i->kbulk done+3*i<=25*kbulk (t.kids.take i)->∃M r,dG M t first bl (done++rest) i r∧tbulk r+3<=25*tbulk t∧r.kind=t.kind:=λk=>by
  have last:∀i (done rest:YT),¬i<t.kids.length->done.length=i->i<=t.kids.length->rest.length=t.kids.length-i->kbulk done+3*i<=25*kbulk (t.kids.take i)->∃M r,dG M t first bl (done++rest) i r∧tbulk r+3<=25*tbulk t∧r.kind=t.kind:=λi done rest hi hd hle hr hb=>by
   have hr0:rest=[]:=List.length_eq_zero_iff.1 (by omega);subst hr0;rw[aaz];rw[List.take_of_length_le<|by omega]at hb;have fin:∀l',Sh l' (bB t.kind t.kids.length).toNat->tbulk (.node t.kind t.text l' done)+3<=25*tbulk t∧(Tree.node t.kind t.text l' done).kind=t.kind:=λl' hl'=>by have :=hl'.sum;exact⟨by simp only[tbulk];omega,rfl⟩
   by_cases h17:t.kind=17
   ·obtain⟨l',e,h'⟩:=Ce (us:=done) hs rfl hsh;exact⟨_,_,eI _ _ _ _ _ _ _ ⟨λh=>absurd h hi,λ_=>⟨λh=>absurd h17 h,λ_=>e⟩⟩,fin l' h'⟩
   ·by_cases h21:t.kind=21
    ·obtain⟨l',e,h'⟩:=Ce (us:=done) hs rfl hsh;exact⟨_,_,eI _ _ _ _ _ _ _ ⟨λh=>absurd h hi,λ_=>⟨λ_=>⟨λh=>absurd h21 h,λ_=>e⟩,λh=>absurd h h17⟩⟩,fin l' h'⟩
    ·obtain⟨l',e,h'⟩:=Ce (us:=done) hs rfl<|hsh.set (i:=0) hf;have :=g4 h17;obtain⟨s,hs0⟩:=hsh.get (i:=0) (by omega);exact⟨_,_,eI _ _ _ _ _ _ _ ⟨λh=>absurd h hi,λ_=>⟨λ_=>⟨λ_=>⟨s,hs0,e⟩,λh=>absurd h h21⟩,λh=>absurd h h17⟩⟩,fin l' h'⟩
  induction k with
  |zero=>intro i done rest hi hd hle hr hb;exact last i done rest (by omega) hd hle hr hb
  | succ k ihk=>
   intro i done rest hi hd hle hr hb;obtain⟨u,hu,hul⟩|h':=aZ t.kids i
   ·have hbu:=dx hu;obtain⟨v,hv,hvb,_⟩:=ih i u hu (by omega) (iB hs hu).1 _ (Ju t i first hf)
    match rest,hr with
    |z::rest',hr=>
     obtain⟨M,r,e,hb2⟩:=ihk (i+1) (done++[v]) rest' (by omega) (by simp[hd]) (by omega) (by simp at hr;omega) (by rw[uD hu,fD];simp only[kbulk];omega);refine⟨M+1,r,eI M _ _ _ _ _ _ ⟨λ_=>⟨u,hu,_,Nb t i first,v,hv,z,by simp[<-hd],by omega,?_⟩,λh=>absurd hul h⟩,hb2⟩;have :(done++z::rest').set i v=done++[v]++rest':=by simp[<-hd]
     rw[this];exact e
    |[],hr=>simp at hr;omega
   ·exact last i done rest h' hd hle hr hb
 obtain⟨M,r,e,hb⟩:=loop t.kids.length 0 [] (List.replicate t.kids.length<|.node 0 [] [] []) (by omega) rfl (by omega) (by simp) (by simp[kbulk]);exact⟨r,vc (M+1) _ _ _ ⟨_,xh (by omega) (by omega),bl,hbl,tu M _ _ _ _ ⟨by omega,by simpa using e⟩⟩,hb⟩
theorem Ll(t:Tree)(ht:tbulk t<=1000000):∃u,jF t u∧tbulk u<=25*tbulk t∧(u.kind=t.kind∨u.kind=0):=by
 have h1:=CH t (by omega);have :=bK t;cases hs:shapeK t with
 |false=>rw[hs]at h1;exact⟨.node 0 [] [] [],nt 0 _ _ ⟨_,h1,λ_=>rfl,λh=>(by cases h)⟩,by rw[tb0];simp;omega,.inr rfl⟩
 |true=>
  rw[hs]at h1;obtain⟨u,G,hb,E⟩:=Lv t ht hs [] (by simp);exact⟨u,nt 0 _ _ ⟨_,h1,λh=>(by cases h),λ_=>⟨u,G,rfl⟩⟩,by omega,.inl E⟩
theorem Ek:∀(l:List YB) (i:Nat) (x:YB),eh (l.set i x)<=eh l+x.length
 |[],i,x=>by simp[eh]
 |y::r,0,x=>by simp only[List.set_cons_zero,eh];omega
 |y::r,i+1,x=>by have :=Ek r i x;simp only[List.set_cons_succ,eh];omega
theorem NU{L:YI}:∀t:Tree,tbulk t<=1000000->∀{a:Int},Dc L a->Gt L (λu a'=>iF L a t u L a'∧u.kind=t.kind) (6*tbulk t):=df λt ih ht a hd=>by
 have hk:=cS t;have hl:=yB t;have hbt:=bt t;have kids:∀k i (done:YT) (ls:List YB) (a:Int),t.kids.length-i<=k->i<=t.kids.length->done.length=i->kbulk done<=6*kbulk (t.kids.take i)->eh ls<=6*eh t.leads->Dc L a->∃M,Gt L (λu a'=>eR M t L a (done++t.kids.drop i) i ls u L a'∧u.kind=t.kind) (6*tbulk t):=λk=>by
  have last:∀i (done:YT) (ls:List YB) (a:Int),¬i<t.kids.length->i<=t.kids.length->done.length=i->kbulk done<=6*kbulk (t.kids.take i)->eh ls<=6*eh t.leads->Dc L a->∃M,Gt L (λu a'=>eR M t L a (done++t.kids.drop i) i ls u L a'∧u.kind=t.kind) (6*tbulk t):=λi done ls a hi hle hdn hb hls hd=>by
   rw[List.drop_of_length_le (by omega),aaz];rw[List.take_of_length_le<|by omega]at hb;exact⟨1,_,a,⟨pf 0 _ _ _ _ _ _ _ _ _ ⟨λh=>absurd h (by omega),λ_=>⟨rfl,rfl,rfl⟩⟩,rfl⟩,hd,by simp only[tbulk];omega⟩
  induction k with
  |zero=>intro i done ls a hi hle hdn hb hls hd;exact last i done ls a (by omega) hle hdn hb hls hd
  | succ k ihk=>
   intro i done ls a hi hle hdn hb hls hd;obtain⟨u,hu,hul⟩|h':=aZ t.kids i
   ·have hbu:=dx hu;obtain⟨v,a1,⟨q1,_⟩,q2,q3⟩:=ih i u hu (by omega) hd;obtain⟨M,hM⟩:=ihk (i+1) (done++[v]) ls a1 (by omega) (by omega) (by simp[hdn]) (by rw[uD hu,fD];simp only[kbulk];omega) hls q2;have hg:(done++t.kids.drop i)[i]?=some u:=by rw[List.getElem?_append_right (by omega),hdn];simpa using hu
    refine⟨M+1,hM.map (aag _) λw b ⟨h,hw⟩=>⟨pf M _ _ _ _ _ _ _ _ _ ⟨λ_=>⟨u,hg,_,_,_,q1,u,hg,?_⟩,λh'=>absurd (by simp[hdn];omega) h'⟩,hw⟩⟩;have :(done++t.kids.drop i).set i v=done++[v]++t.kids.drop (i+1):=by rw[bJ hu];simp[<-hdn]
    rw[this];exact h
   ·exact last i done ls a h' hle hdn hb hls hd
 have lead:∀k i (ls:List YB) (a:Int),t.leads.length-i<=k->i<=t.leads.length->ls.length=t.leads.length->eh ls<=eh t.leads+5*i->Dc L a->∃M,Gt L (λu a'=>dA M t L a ls i u L a'∧u.kind=t.kind) (6*tbulk t):=λk=>by
  have hll:=xu t.leads;have last:∀i (ls:List YB) (a:Int),¬i<t.leads.length->i<=t.leads.length->ls.length=t.leads.length->eh ls<=eh t.leads+5*i->Dc L a->∃M,Gt L (λu a'=>dA M t L a ls i u L a'∧u.kind=t.kind) (6*tbulk t):=λi ls a hi hle hlen hb hd=>by obtain⟨M,hM⟩:=kids t.kids.length 0 [] ls a (by omega) (by omega) rfl (by simp[kbulk]) (by omega) hd;exact⟨M+1,hM.map (aag _) λw b ⟨h,hw⟩=>⟨kf M _ _ _ _ _ _ _ _ ⟨λh'=>absurd h' (by omega),λ_=>⟨by omega,by simpa using h⟩⟩,hw⟩⟩
  induction k with
  |zero=>intro i ls a hi hle hlen hb hd;exact last i ls a (by omega) hle hlen hb hd
  | succ k ihk=>
   intro i ls a hi hle hlen hb hd;obtain⟨x,hx,hxl⟩|h':=aZ ls i
   ·obtain⟨n,a1,h1,h2,h3⟩:=fF hd (n:=9) (by omega) (by omega);by_cases hn:n=1
    ·obtain⟨s,a2,g1,g2,g3⟩:=jH h3 [[32,35,32,99,10],[32,32],[10,9],[35,10]] (by decide) (by decide);have hs5:=iv g2 (by decide);have :=Ek ls i s;obtain⟨M,hM⟩:=ihk (i+1) (ls.set i s) a2 (by omega) (by omega) (by simpa using hlen) (by omega) g3;exact⟨M+1,hM.map (aag _) λw b ⟨h,hw⟩=>⟨kf M _ _ _ _ _ _ _ _ ⟨λ_=>⟨_,_,_,h1,λ_=>⟨_,_,_,g1,x,hx,h⟩,λh'=>absurd hn h'⟩,λh'=>absurd hxl h'⟩,hw⟩⟩
    ·obtain⟨M,hM⟩:=ihk (i+1) ls a1 (by omega) (by omega) hlen (by omega) h3;exact⟨M+1,hM.map (aag _) λw b ⟨h,hw⟩=>⟨kf M _ _ _ _ _ _ _ _ ⟨λ_=>⟨_,_,_,h1,λh'=>absurd h' hn,λ_=>h⟩,λh'=>absurd hxl h'⟩,hw⟩⟩
   ·exact last i ls a (by omega) hle hlen hb hd
 obtain⟨M,hM⟩:=lead t.leads.length 0 t.leads a (by omega) (by omega) rfl (by omega) hd;exact hM.map (aag _) λw b ⟨h,hw⟩=>⟨xQ M _ _ _ _ _ _ ⟨by omega,h⟩,hw⟩
theorem NB{L:YI}{a:Int}(E:Dc L a)(name:YB)(hname:name.length<=5):Gt L (λt a'=>kG L a name t L a'∧(t.kind=1∨t.kind=0)) 300000:=by
 obtain⟨n,a1,h1,h2,h3⟩:=fF E (n:=4) (by omega) (by omega);have loop:∀(k:Nat) (a:Int) (l:YT),Dc L a->l.length+k<=100->kbulk l+k*500<=1500->Gt L (λt a'=>ga (k+1) name L a l (k:Int) t L a'∧(t.kind=1∨t.kind=0)) 300000:=λk=>by
  induction k with
  |zero=>
   intro a l E hl hb;have ht:tbulk (.node 1 name [] l)<=1506:=by rw[tbK];omega
   obtain⟨u,Z,hub,G⟩:=Ll (.node 1 name [] l) (by omega);obtain⟨z,a2,g1,g2,g3⟩:=fF E (n:=2) (by omega) (by omega);by_cases hz:z=0
   ·exact(NU u (by omega) g3).map (by omega) λw b ⟨h,J⟩=>⟨jt 0 _ _ _ _ _ _ _ _ ⟨λh'=>by omega,λ_=>⟨u,Z,_,_,_,g1,λ_=>⟨_,_,_,h,I,I,I⟩,λh'=>absurd hz h'⟩⟩,by rw[J];exact G⟩
   ·exact⟨u,a2,⟨jt 0 _ _ _ _ _ _ _ _ ⟨λh'=>by omega,λ_=>⟨u,Z,_,_,_,g1,λh'=>absurd h' hz,λ_=>⟨I,I,I⟩⟩⟩,G⟩,g3,by omega⟩
  |succ k U=>
   intro a l E hl hb;obtain⟨t,b,q1,q2,q3⟩:=Su E;exact(U b (l++[t]) q2 (by simp;omega) (by rw[fD];simp only[kbulk];omega)).map (aag _) λw c ⟨h,J⟩=>⟨jt (k+1) _ _ _ _ _ _ _ _ ⟨λ_=>⟨_,_,_,q1,by simp;omega,by omega,by rw[show((k+1:Nat):Int)-1=(k:Int) by omega];exact h⟩,λh=>by omega⟩,J⟩
 exact(loop n.toNat a1 [] h3 (by simp;omega) (by simp only[kbulk];omega)).map (aag _) λw b ⟨h,J⟩=>⟨wV (n.toNat+1) _ _ _ _ _ _ ⟨_,_,_,h1,by rw[show n=((n.toNat:Nat):Int) by omega];exact h⟩,J⟩
def Mok(p:YT):Prop:=∀t∈p,t.kind=1∧Vld t
theorem JG(l:YI)(hl:l.length<=1000000):∃p,km l p∧kbulk p<=1000000∧Mok p∧p.length<=3:=by
 have hd0:Dc l 0:=⟨by omega,by omega,by omega⟩;obtain⟨n,a1,h1,h2,h3⟩:=fF hd0 (n:=4) (by omega) (by omega);have loop:∀(k:Nat) (a:Int) (p:List Tree),Dc l a->p.length+k<=3->kbulk p+k*300001<=900003->Mok p->∃r,bE (k+1) l a p (k:Int) r∧kbulk r<=900003∧Mok r∧r.length<=3:=λk=>by
  induction k with
  |zero=>intro a p hd hp hb hmk;exact⟨p,iX 0 _ _ _ _ _ ⟨λh=>by omega,λ_=>rfl⟩,by omega,hmk,by omega⟩
  | succ k ihk=>
   intro a p hd hp hb hmk;have hb2:kbulk p+k*300001+300001<=900003:=aao (Nat.le_of_eq (by rw[Nat.succ_mul,aav])) hb;have hb3:kbulk p+k*300001<=900003:=aao (Nat.le_add_right _ _) hb2;obtain⟨x,hx,_⟩|h':=aZ [[(65:UInt8)],[66],[67]] p.length
   rotate_left
   ·simp at h';omega
   have hx5:x.length<=5:=iv (List.mem_of_getElem? hx) (by decide);obtain⟨t,a2,⟨q1,qk⟩,q2,q3⟩:=NB hd x hx5;obtain⟨z,a3,g1,g2,g3⟩:=fF q2 (n:=8) (by omega) (by omega);have step:∀u:Tree,tbulk u<=300001->(u.kind=1∨u.kind=0)->∃b r,eU u b∧((b=true)->(p++[u]).length<=1000000000∧InI (((k+1:Nat):Int)-1)∧bE (k+1) l a3 (p++[u]) (((k+1:Nat):Int)-1) r)∧((b=false)->InI (((k+1:Nat):Int)-1)∧bE (k+1) l a3 p (((k+1:Nat):Int)-1) r)∧kbulk r<=900003∧Mok r∧r.length<=3:=λu hu huk=>by
    obtain⟨b,hb',hbs⟩:=Ny u (by omega);have e:((k+1:Nat):Int)-1=(k:Int):=by omega
    rw[e];cases b with
    | true=>
     have hus:=hbs.1 rfl;have hu1:u.kind=1:=by
      rcases huk with h|h
      ·exact h
      ·have :=lu hus.shape;rw[h]at this;simp[bB]at this
     obtain⟨r,hr,hrb⟩:=ihk a3 (p++[u]) g3 (by simp;omega) (by clear hb;rw[fD];simp only[kbulk];omega) (λt ht=>by
      rcases List.mem_append.1 ht with h|h
      ·exact hmk t h
      ·rw[List.mem_singleton]at h;subst h;exact⟨hu1,hus⟩)
     exact⟨true,r,hb',λ_=>⟨by simp;omega,by omega,hr⟩,λh=>(by cases h),hrb⟩
    |false=>
     obtain⟨r,hr,hrb⟩:=ihk a3 p g3 (by omega) hb3 hmk;exact⟨false,r,hb',λh=>(by cases h),λ_=>⟨by omega,hr⟩,hrb⟩
   by_cases hz:z=7
   ·have hub:tbulk (.node t.kind [65] t.leads t.kids)<=300001:=by have :=bt t;simp only[tbulk,aad,aae];omega
    obtain⟨b,r,e1,e2,e3,e4⟩:=step _ hub qk;exact⟨r,iX (k+1) _ _ _ _ _ ⟨λ_=>⟨x,hx,_,_,_,q1,_,_,_,g1,λ_=>⟨b,e1,e2,e3⟩,λh=>absurd hz h⟩,λh=>by omega⟩,e4⟩
   ·obtain⟨b,r,e1,e2,e3,e4⟩:=step t (by omega) qk;exact⟨r,iX (k+1) _ _ _ _ _ ⟨λ_=>⟨x,hx,_,_,_,q1,_,_,_,g1,λh=>absurd h hz,λ_=>⟨b,e1,e2,e3⟩⟩,λh=>by omega⟩,e4⟩
 obtain⟨r,hr,hrb,hrm⟩:=loop n.toNat a1 [] h3 (by simp;omega) (by simp only[kbulk];omega) (λt h=>by cases h);exact⟨r,wm (n.toNat+1) _ _ ⟨_,_,yD 0 _ _ _ ⟨by omega,I,I⟩,_,_,_,h1,by rw[show n=((n.toNat:Nat):Int) by omega];exact hr⟩,by omega,hrm⟩
set_option maxHeartbeats 1100000
theorem DN:∀{l:YT} {i:Nat} {u:Tree},limKs l=true->l[i]?=some u->limK u=true
 |[],i,u,_,h=>by simp at h
 |t::r,0,u,h,E=>by simp only[List.getElem?_cons_zero,aaa]at E;subst E;simp only[limKs,aab]at h;exact h.1
 |t::r,i+1,u,h,E=>by simp only[limKs,aab]at h;exact DN h.2 (by simpa using E)
theorem FR:∀(q:YI) (t u:Tree),limK t=true->atK t q=some u->limK u=true
 |[],t,u,h,hq=>by simp only[atK,aaa]at hq;subst hq;exact h
 |i::q,t,u,h,hq=>by
  simp only[atK]at hq;split at hq
  ·cases hq
  split at hq
  ·cases hq
  rename_i y hy;rw[vJ]at h;simp only[aab]at h;exact FR q y u (DN h.2 hy) hq
theorem NN(hs:shapeK u=true)(hl:limK u=true):u.kids.length<=400:=by
 rw[dQ]at hs;simp only[aab,aas]at hs;have h1:=hs.1.1;rw[vJ]at hl;simp only[aab,aas]at hl;obtain⟨⟨a,b,c,d⟩,_⟩:=hl;by_cases k1:u.kind=1
 ·have :=a k1;omega
 by_cases E:u.kind=2
 ·have :=b E;omega
 by_cases G:u.kind=16
 ·have :=c G;omega
 by_cases J:u.kind=18
 ·have :=d J;omega
 simp only[bB,f0]at h1
 repeat' split at h1
 all_goals omega
variable{p:YT}
theorem GX(h:okP ov p=true):Few p:=λm t u q ht hq=>by
 simp only[okP,aab,List.all_eq_true,aar]at h;have hv:=(qo t).1 (h.2 t (List.mem_of_getElem? ht)).2;exact NN (nW q t u hv.shape hq)<|FR q t u hv.lim hq
theorem CL(l:YI):lM l (decide<|((l.length:Nat):Int)<=120):=xT 0 _ _<|rfl
structure En where
 k:Int
 h:ak
 f:Int
 v:ak
 l:List (Nat×List UInt8)
def enC(i:Int)(e:En):List aj:=⟨i,1,⟨e.k,false,[],0⟩⟩::⟨i,2,e.h⟩::⟨i,e.f,e.v⟩::e.l.map λx=>⟨i,((8+x.1:Nat):Int),⟨0,false,x.2,0⟩⟩
def enL:Int->List En->List aj
 |_,[]=>[]
 |i,e::r=>enC i e++enL (i+1) r
variable{i:Int}{e:En}
theorem xZ{c:aj}(h:c∈enC i e):c.Id=i:=by
 simp only[enC,aai,List.mem_map]at h;rcases h with rfl|rfl|rfl|⟨x,_,rfl⟩<;>rfl
theorem sb:∀{L:List En} {i:Int} {c:aj},c∈enL i L->∃(j:Nat) (e:En),L[j]?=some e∧c∈enC (i+j) e
 |[],i,c,h=>by cases h
 | e::r,i,c,h=>by
  rcases List.mem_append.1 h with h|h
  ·exact⟨0,e,I,by simpa using h⟩
  ·obtain⟨j,e',h1,h2⟩:=sb h;exact⟨j+1,e',by simpa using h1,by rw[show i+((j+1:Nat):Int)=i+1+(j:Int) by omega];exact h2⟩
theorem vt{σ:Type}{st:σ->aj->σ}(hl:∀m (i:Int) (n:Nat) (x:YB),st m ⟨i,((8+n:Nat):Int),⟨0,false,x,0⟩⟩=m)(i:Int)(e:En)(m:σ):(enC i e).foldl st m=st (st (st m ⟨i,1,⟨e.k,false,[],0⟩⟩) ⟨i,2,e.h⟩) ⟨i,e.f,e.v⟩:=by
 have :∀(l:List<|Nat×YB) m,(l.map λx=>(⟨i,((8+x.1:Nat):Int),⟨0,false,x.2,0⟩⟩:aj)).foldl st m=m:=λl=>by
  induction l with
  |nil=>intro m;rfl
  |cons x r ih=>intro m;rw[aah,aax,hl];exact ih m
 simp only[enC,aax,this]
theorem wC{σ:Type}(st:σ->aj->σ)(i:Int)(e:En)(r:List En)(m:σ):(enL i<|e::r).foldl st m=(enL (i+1) r).foldl st ((enC i e).foldl st m):=by rw[enL,List.foldl_append]
theorem wD{β:Type}{k:Int}{b:β}:∀{m:List<|Int×β},(∀x∈m,x.1<k)->aR k b m=m++[(k,b)]
 |[],_=>rfl
 |p::r,h=>by
  have h1:=h p (by simp);rw[aR,if_neg (by omega),wD λx hx=>h x<|by simp[hx]];rfl
theorem tN{β:Type}{k:Int}:∀(a b:List<|Int×β),aC k (a++b)=(aC k a).or (aC k b)
 |[],b=>by simp[aC]
 |p::r,b=>by
  simp only[aap,aC];split
  ·rfl
  ·exact tN r b
def asc{β:Type}(g:En->Option β):Int->List En->List (Int×β)
 |_,[]=>[]
 |i,e::r=>(match g e with|some b=>[(i,b)]|none=>[])++asc g (i+1) r
theorem yd{β:Type}{g:En->Option β}:∀{L:List En} {i:Int} {x:Int×β},x∈asc g i L->i<=x.1
 |[],i,x,h=>by cases h
 | e::r,i,x,h=>by
  rcases List.mem_append.1 h with h|h
  ·cases hg:g e with
   |none=>rw[hg]at h;cases h
   |some b=>rw[hg]at h;simp only[List.mem_singleton]at h;rw[h];omega
  ·have :=yd h;omega
theorem Ao{β:Type}{k:Int}:∀{m:List<|Int×β},(∀x∈m,k<x.1)->aC k m=none
 |[],_=>rfl
 |p::r,h=>by
  have :=h p (by simp);rw[aC,if_neg<|by omega];exact Ao λx hx=>h x (by simp[hx])
theorem FG{β:Type}{g:En->Option β}:∀{L:List En} {i:Int} {j:Nat} {e:En},L[j]?=some e->aC (i+j) (asc g i L)=g e
 |[],i,j,e,h=>by simp at h
 |E::r,i,0,e,h=>by
  simp only[List.getElem?_cons_zero,aaa]at h;subst h;rw[asc,tN,Ao (m:=asc g (i+1) r) λx hx=>by have :=yd hx;omega];cases G:g E with
  |none=>rfl
  |some b=>simp[aC]
 |E::r,i,j+1,e,h=>by
  have ih:=FG (g:=g) (L:=r) (i:=i+1) (j:=j) (e:=e) (by simpa using h);rw[show i+1+(j:Int)=i+((j+1:Nat):Int) by omega]at ih;rw[asc,tN,ih];cases G:g E with
  |none=>rfl
  |some b=>simp only[aC];rw[if_neg<|by omega];rfl
theorem Gc{β:Type}{g:En->Option β}:∀{L:List En} {i k:Int} {b:β},aC k (asc g i L)=some b->∃(j:Nat) (e:En),L[j]?=some e∧k=i+j∧g e=some b
 |[],i,k,b,h=>by cases h
 | e::r,i,k,b,h=>by
  rw[asc,tN]at h;by_cases hk:k=i
  ·subst hk;rw[Ao (m:=asc g (k+1) r) λx hx=>by have :=yd hx;omega]at h;cases hg:g e with
   |none=>rw[hg]at h;cases h
   |some c=>
    rw[hg]at h;simp only[aC,if_true,Option.or_none,aaa]at h;exact⟨0,e,rfl,by simp,by rw[hg,h]⟩
  ·have :aC k (match g e with|some b=>[(i,b)]|none=>[])=none:=by
    cases g e with
    |none=>rfl
    |some c=>simp only[aC];rw[if_neg λe=>hk e.symm]
   rw[this,Option.none_or]at h;obtain⟨j,e',h1,h2,h3⟩:=Gc h;exact⟨j+1,e',by simpa using h1,by omega,h3⟩
theorem Ca{β:Type}{g:En->Option β}:∀{L:List En} {i:Int},(∀e∈L,(g e).isSome=true)->(asc g i L).length=L.length
 |[],i,_=>rfl
 |e::r,i,h=>by
  have h1:=h e (by simp);cases E:g e with
  |none=>rw[E]at h1;cases h1
  |some b=>rw[asc,aac,Ca (λx hx=>h x<|by simp[hx]),E];simp only[aad,aae];omega
theorem Ar{β:Type}{g:En->Option β}{st:List (Int×β)->aj->List (Int×β)}{ok:En->Prop}(hs:∀(i:Int) (e:En) m,ok e->(∀x∈m,x.1<i)->(enC i e).foldl st m=match g e with|some b=>m++[(i,b)]|none=>m):∀(L:List En) (i:Int) m,(∀e∈L,ok e)->(∀x∈m,x.1<i)->(enL i L).foldl st m=m++asc g i L
 |[],i,m,_,_=>by simp[enL,asc]
 | e::r,i,m,hk,h=>by
  have :(∀x∈(match g e with|some b=>m++[(i,b)]|none=>m),x.1<i+1):=λx hx=>by
   cases hg:g e with
   |none=>rw[hg]at hx;have :=h x hx;omega
   |some b=>
    rw[hg]at hx;rcases List.mem_append.1 hx with hx|hx
    ·have :=h x hx;omega
    ·simp only[List.mem_singleton]at hx;rw[hx];omega
  rw[wC,hs i e m (hk e<|by simp) h,Ar hs r (i+1) _ (λx hx=>hk x<|by simp[hx]) this,asc];cases g e<;>simp
theorem lB{α:Type}[DecidableEq α]:∀{a b:List α},a.Nodup->(∀x∈a,x∈b)->a.length<=b.length
 |[],b,_,_=>aat _
 | x::r,b,h1,h2=>by
  have hx:=h2 x (by simp);have h3:=List.nodup_cons.1 h1;have :=lB (b:=b.erase x) h3.2 λy hy=>by have :y≠x:=λe=>h3.1 (by rw[<-e];exact hy);rw[List.mem_erase_of_ne this];exact h2 y (by simp[hy])
  rw[List.length_erase_of_mem hx]at this;have :0<b.length:=List.length_pos_of_mem hx;simp only[aad];omega
def sP(L:List En)(i x y:Int):Prop:=∃(j:Nat) (e:En),L[j]?=some e∧e.h.Ref=x∧x≠0∧y=i+j
inductive Und (L:List En) (i r:Int):Int->Prop
 |refl:Und L i r r
 |step {x y:Int}:Und L i r x->sP L i x y->Und L i r y
def Dx(L:List En)(i:Int):Prop:=0<i∧∀(j:Nat) e,L[j]?=some e->e.h.Ref=0∨∃E:Nat,E<j∧e.h.Ref=i+E
def kg(L:List En)(i r:Int):Prop:=∃(j:Nat) (e:En),L[j]?=some e∧e.h.Ref=0∧r=i+j
variable{L:List En}{r y:Int}
theorem Ok{s:Int}(hr:kg L i r)(hs:kg L i s)(h1:Und L i r y)(h2:Und L i s y):r=s:=by
 have no:∀{z x:Int},kg L i z->sP L i x z->False:=λ{z x} a b=>by
  obtain⟨j,e,a1,a2,a3⟩:=a;obtain⟨j',e',b1,b2,b3,b4⟩:=b;have :j=j':=by omega
  subst this;rw[a1]at b1;have :=Option.some.inj b1;subst this;exact b3 (by rw[<-b2,a2])
 induction h1 with
 |refl=>
  cases h2 with
  |refl=>rfl
  |step _ k=>exact(no hr k).elim
 | step u k ih=>
  cases h2 with
  |refl=>exact(no hs k).elim
  |step u' k'=>
   obtain⟨j,e,a1,a2,a3,a4⟩:=k;obtain⟨j',e',b1,b2,b3,b4⟩:=k';have :j=j':=by omega
   subst this;rw[a1]at b1;have :=Option.some.inj b1;subst this;exact ih (by rw[<-a2,b2];exact u')
theorem Lz(hT:Dx L i):∀(n j:Nat) (e:En),j<n->L[j]?=some e->∃r,kg L i r∧Und L i r (i+j):=λn=>by
 induction n with
 |zero=>intro j e h;omega
 | succ n ih=>
  intro j e hj he;rcases hT.2 j e he with h|⟨j',h1,h2⟩
  ·exact⟨_,⟨j,e,he,h,I⟩,.refl⟩
  ·have hl:=(List.getElem?_eq_some_iff.1 he).1;obtain⟨e',he'⟩:∃e',L[j']?=some e':=⟨_,List.getElem?_eq_getElem<|by omega⟩;obtain⟨r,h3,h4⟩:=ih j' e' (by omega) he';have :=hT.1;exact⟨r,h3,.step h4 ⟨j,e,he,h2,by omega,I⟩⟩
theorem yh(hr:kg L i r)(h:Und L i r y):∃j:Nat,j<L.length∧y=i+j:=by
 cases h with
 |refl=>obtain⟨j,e,h1,_,E⟩:=hr;exact⟨j,(List.getElem?_eq_some_iff.1 h1).1,E⟩
 |step _ k=>obtain⟨j,e,h1,_,_,E⟩:=k;exact⟨j,(List.getElem?_eq_some_iff.1 h1).1,E⟩
structure BelE (L:List En) (i r:Int) (l:List Int):Prop where
 nd:l.Nodup
 no:r∉l
 iff:∀y,(y=r∨y∈l)↔Und L i r y
theorem yE{L:List En}{i:Int}:∀(R:List<|Int×YI),(R.map (·.1)).Nodup->(∀x∈R,kg L i x.1∧BelE L i x.1 x.2)->∃T:YI,T.Nodup∧(∀y,y∈T↔∃x∈R,Und L i x.1 y)∧T.length=(R.map λx=>1+x.2.length).sum
 |[],_,_=>⟨[],List.nodup_nil,by simp,rfl⟩
 | x::R,hn,h=>by
  simp only[aah,List.nodup_cons]at hn;obtain⟨T,t1,t2,t3⟩:=yE R hn.2 λy hy=>h y (by simp[hy]);obtain⟨g1,g2⟩:=h x (by simp);refine⟨(x.1::x.2)++T,?_,λy=>?_,?_⟩
  ·rw[List.nodup_append];refine⟨List.nodup_cons.2 ⟨g2.no,g2.nd⟩,t1,λa ha b hb e=>?_⟩;subst e;obtain⟨z,hz,hu⟩:=(t2 a).1 hb;have hu':=(g2.iff a).1 (List.mem_cons.1 ha);have :=Ok g1 (h z<|by simp[hz]).1 hu' hu;exact hn.1 (by rw[this];exact List.mem_map_of_mem hz)
  ·rw[aaj,aai,g2.iff,t2];constructor
   ·rintro(h|⟨z,hz,hu⟩)
    ·exact⟨x,by simp,h⟩
    ·exact⟨z,by simp[hz],hu⟩
   ·rintro⟨z,hz,hu⟩;rcases List.mem_cons.1 hz with rfl|hz
    ·exact .inl hu
    ·exact .inr ⟨z,hz,hu⟩
  ·simp only[aac,aad,aah,List.sum_cons,t3];omega
def nT(i:Int)(n:Nat):YI:=(List.range n).map λj:Nat=>i+(j:Int)
theorem qn:y∈nT i n↔∃j:Nat,j<n∧y=i+j:=by simp only[nT,List.mem_map,List.mem_range];exact⟨λ⟨j,h1,h2⟩=>⟨j,h1,h2.symm⟩,λ⟨j,h1,h2⟩=>⟨j,h1,h2.symm⟩⟩
theorem IY(i:Int)(n:Nat):(nT i n).Nodup:=by rw[nT,List.nodup_iff_pairwise_ne,List.pairwise_map];exact(List.nodup_iff_pairwise_ne.1 List.nodup_range).imp λh e=>h (by omega)
theorem KF(hT:Dx L i){R:List<|Int×YI}(hn:(R.map (·.1)).Nodup)(h:∀x∈R,kg L i x.1∧BelE L i x.1 x.2)(E:∀r,kg L i r->r∈R.map (·.1)):(R.map λx=>1+x.2.length).sum=L.length:=by
 obtain⟨T,t1,t2,t3⟩:=yE R hn h;have hl:(nT i L.length).length=L.length:=by simp[nT]
 have h1:=lB (b:=nT i L.length) t1 λy hy=>by obtain⟨x,hx,G⟩:=(t2 y).1 hy;exact qn.2 (yh (h x hx).1 G)
 have h2:=lB (b:=T) (IY i L.length) λy hy=>by
  obtain⟨j,J,rfl⟩:=qn.1 hy;obtain⟨r,U,Z⟩:=Lz hT (j+1) j _ (by omega)<|List.getElem?_eq_getElem J;obtain⟨x,hx,e⟩:=List.mem_map.1 (E r U);exact(t2 _).2 ⟨x,hx,by rw[e];exact Z⟩
 omega
structure Sea (L:List En) (i r:Int) (todo l:List Int):Prop where
 nd:l.Nodup
 no:r∉l
 und:∀y∈l,Und L i r y
 to:∀x∈todo,x=r∨x∈l
 cl:∀x,x=r∨x∈l->x∉todo->∀y,sP L i x y->y=r∨y∈l
theorem Lp(L:List En)(i r:Int):Sea L i r [r] []:=⟨List.nodup_nil,by simp,by simp,by simp,λx h hn=>by simp at h hn;exact absurd h hn⟩
variable{l:YI}
theorem PT(h:Sea L i r [] l):BelE L i r l:=⟨h.nd,h.no,λy=>⟨λhy=>by
 rcases hy with rfl|hy
 ·exact .refl
 ·exact h.und y hy,λE=>by
  induction E with
  |refl=>exact .inl rfl
  |step u k ih=>exact h.cl _ ih (by simp) _ k⟩⟩
variable{todo:YI}
theorem Qg(hr:kg L i r)(h:Sea L i r todo l):l.length<=L.length:=by
 have :=lB (b:=nT i L.length) h.nd λy hy=>qn.2 (yh hr<|h.und y hy);simpa[nT]using this
structure SeaK (L:List En) (i r x:Int) (ks todo l:List Int):Prop where
 nd:l.Nodup
 no:r∉l
 und:∀y∈l,Und L i r y
 to:∀x∈todo,x=r∨x∈l
 at_:x=r∨x∈l
 cl:∀z,z=r∨z∈l->z∉todo->z≠x->∀y,sP L i z y->y=r∨y∈l
 ck:∀y,sP L i x y->y∈ks∨y=r∨y∈l
 kk:∀y∈ks,sP L i x y
variable{x:Int}{ks:YI}
theorem JZ(h:Sea L i r (todo++[x]) l)(E:∀y,y∈ks↔sP L i x y):SeaK L i r x ks todo l:=
 ⟨h.nd,h.no,h.und,λz hz=>h.to z (by simp[hz]),h.to x (by simp),λz hz hn hx y hy=>h.cl z hz (by simp[hn,hx]) y hy,λy hy=>.inl<|(E y).2 hy,λy hy=>(E y).1 hy⟩
theorem Mo(h:SeaK L i r x [] todo l):Sea L i r todo l:=
 ⟨h.nd,h.no,h.und,h.to,λz hz hn y hy=>by
  by_cases hx:z=x
  ·subst hx;rcases h.ck y hy with h1|h1
   ·cases h1
   ·exact h1
  ·exact h.cl z hz hn hx y hy⟩
theorem Nd(h:SeaK L i r x (k::ks) todo l)(E:k=r∨k∈l):SeaK L i r x ks todo l:=
 ⟨h.nd,h.no,h.und,h.to,h.at_,h.cl,λy hy=>by
  rcases h.ck y hy with h1|h1
  ·rcases List.mem_cons.1 h1 with rfl|h1
   ·exact .inr E
   ·exact .inl h1
  ·exact .inr h1,λy hy=>h.kk y (by simp[hy])⟩
theorem Mz(h:SeaK L i r x (k::ks) todo l)(hr:k≠r)(hl:k∉l):SeaK L i r x ks (todo++[k]) (l++[k]):=by
 have more:∀z,z=r∨z∈l->z=r∨z∈l++[k]:=λz hz=>hz.imp id λhz=>by simp[hz]
 have E:Und L i r x:=by
  rcases h.at_ with rfl|hx
  ·exact .refl
  ·exact h.und x hx
 refine⟨?_,by simp[h.no,Ne.symm hr],λy hy=>?_,λy hy=>?_,more x h.at_,λz hz hn hx y hy=>?_,λy hy=>?_,λy hy=>h.kk y<|by simp[hy]⟩
 ·rw[List.nodup_append];exact⟨h.nd,by simp,λa G b hb e=>by simp at hb;subst hb;subst e;exact hl G⟩
 ·rcases List.mem_append.1 hy with hy|hy
  ·exact h.und y hy
  ·simp at hy;subst hy;exact .step E (h.kk y<|by simp)
 ·rcases List.mem_append.1 hy with hy|hy
  ·exact more y<|h.to y hy
  ·simp at hy;subst hy;exact .inr (by simp)
 ·have :z=r∨z∈l:=by
   rcases hz with hz|hz
   ·exact .inl hz
   ·rcases List.mem_append.1 hz with hz|hz
    ·exact .inr hz
    ·exact absurd hz (λe=>hn (by simp at e;simp[e]))
  exact more y (h.cl z this (λe=>hn<|by simp[e]) hx y hy)
 ·rcases h.ck y hy with h1|h1
  ·rcases List.mem_cons.1 h1 with rfl|h1
   ·exact .inr (.inr<|by simp)
   ·exact .inl h1
  ·exact .inr<|more y h1
def dO(e:TypeId)(R:List<|Value×YI)(bs:YN)(w:World):Prop:=
 (∀(i:Nat) (p:Value×YI),R[i]?=some p->w.ownsRow 0 e 1 p.1 p.2.length (p.2.map (Value.int .i64))∧∀b,p.1.ownBlock=some b->b∈bs)∧
 ∀(i j:Nat) (p q:Value×YI) (b:Nat),R[i]?=some p->R[j]?=some q->p.1.ownBlock=some b->q.1.ownBlock=some b->i=j
section
variable{P:Program}{S:Nat->Prop}{w w':World}{ρ ρ':Nat->Option Value}{h h':Nat->Ob}{a:Act}{n:Nat}{ty:TypeId}{e:TypeId}{R:List (Value×YI)}{bs:YN}
theorem Kh(h:dO e R bs w)(E:∀b,b∈bs->w'.heap[b]?=w.heap[b]?):dO e R bs w':=
 ⟨λi p hp=>⟨cf (h.1 i p hp).1 λb hb=>E b<|(h.1 i p hp).2 b hb,(h.1 i p hp).2⟩,h.2⟩
theorem DP:dO e [] [] w:=⟨λi p h=>by simp at h,λi j p q b h=>by simp at h⟩
theorem tT:∀l:YI,CRel S w ρ 1 (l.map<|V.int .i64) (l.map<|Value.int .i64)
 |[]=>by simp[CRel]
 |x::r=>by
  simp only[aah,CRel];exact⟨.int .i64 x,r.map<|Value.int .i64,by simp[Value.cells],⟨by simp[Value.cells],by simp[Value.cells,Value.oneCell']⟩,by simp[VRel],tT r⟩
theorem yv:∀{l:YI} {xs:List Value},CRel S w ρ 1 (l.map<|V.int .i64) xs->xs=l.map (Value.int .i64)
 |[],xs,h=>by simpa[CRel]using h
 |x::r,xs,h=>by simp only[aah,CRel,VRel]at h;obtain⟨y,ys,rfl,_,rfl,h2⟩:=h;rw[yv h2];simp[Value.cells]
theorem Es{t:TypeId}{x y:Operand}{by_ id j:Nat}{z u v0:Value}{k:Int}{R':Value->List (Value×YI)}(hr:HRel S w ρ h)(fr:Fr a n<|fA a)(ho:h id=.ext bs (dO e R bs))(hx:aD (fA a) x=some u)(hu:w.ownsRow 0 e 1 u l.length<|l.map<|Value.int .i64)(hub:∀b,u.ownBlock=some b->b∈bs)
  (hdis:∀(i:Nat) (p:Value×YI) (b:Nat),i≠j->R[i]?=some p->p.1.ownBlock=some b->u.ownBlock≠some b) (hy:aD (fA a) y=some v0) (hv:rm S w ρ 1 [.int .i64 k] v0) (ht:P.underlying t=some (.slice e)) (hi:(P.info? e).map (λi=>(i.zero,i.size,i.bytes))=some (some z,1,by_)) (hzs:z.cells.size=1) (h63:l.length+1<=maxLen) (hby:(l.length+1)*by_<=140737488355328)
  (hR':∀(E:Value) (i:Nat) (p:Value×YI),(R' E)[i]?=some p->(i=j∧p=(E,l++[k]))∨(i≠j∧R[i]?=some p)):
  ∃q:Value×YN,Does P S w ρ h a ty (.call {callee:=.builtin .append,args:=#[x,y],argTypes:=#[t,t]}) (some<|.raw q.1) (bi h id<|.ext q.2 (dO e (R' q.1) q.2)) (·=id):=by
 have G:=hr.ob id;rw[ho]at G;obtain⟨⟨g1,g2⟩,g3,g4⟩:=G;obtain⟨E,w',ys,r1,r2,r3,r4,Z⟩:=rN (P:=P) (ty:=ty) (els:=l.map<|V.int .i64) (xs:=l.map<|Value.int .i64) fr hx hy (by simpa using hu) (tT l) hv ht hi hzs (by decide) (by simpa using h63) (by simpa using hby);have ey:ys=(l++[k]).map (Value.int .i64):=yv (S:=S) (w:=w) (ρ:=ρ) (by simpa using r3);subst ey;have r2':w'.ownsRow 0 e 1 E (l++[k]).length ((l++[k]).map<|Value.int .i64):=by simpa using r2
 have hX:∀b,b∈u.ownBlock.toList->own ρ id (h id) b:=λb hb=>by rw[ho];exact hub b (by simpa using hb)
 have hnew:∀b,E.ownBlock=some b->b<w'.heap.size:=λb hb=>(r2'.lt b hb).2;have hrow:dO e (R' E) (E.ownBlock.toList++bs) w':=by
  refine⟨λi p hp=>?_,λi i' p q b hp hq J hqb=>?_⟩
  ·rcases hR' E i p hp with⟨_,rfl⟩|⟨U,hp⟩
   ·exact⟨r2',λb hb=>by simp at hb;simp[hb]⟩
   ·refine⟨cf (g1 i p hp).1 λb hb=>r4.block b (g3 b<|(g1 i p hp).2 b hb) λhm=>hdis i p b U hp hb (by simpa using hm),λb hb=>by simp[(g1 i p hp).2 b hb]⟩
  ·have old:∀(i:Nat) (p:Value×YI),i≠j->R[i]?=some p->p.1.ownBlock=some b->E.ownBlock=some b->False:=λi p U hp J hvb=>by
    rcases Z with Z|Z
    ·exact hdis i p b U hp J (by rw[<-Z];exact hvb)
    ·rw[Z]at hvb;have :=g3 b<|(g1 i p hp).2 b J;simp only[aaa]at hvb;omega
   rcases hR' E i p hp with⟨rfl,rfl⟩|⟨U,hp⟩
   ·rcases hR' E i' q hq with⟨rfl,rfl⟩|⟨hij',hq⟩
    ·rfl
    ·exact(old i' q hij' hq hqb J).elim
   ·rcases hR' E i' q hq with⟨rfl,rfl⟩|⟨hij',hq⟩
    ·exact(old i p U hp J hqb).elim
    ·exact g2 i i' p q b hp hq J hqb
 refine⟨(E,E.ownBlock.toList++bs),.value E,w',ρ,r1,AQ (X:=(·∈u.ownBlock.toList)) id id hr (ChgP.of r4) (λi y hy=>hy) (λb hb=>⟨id,I,hX b hb⟩) ?_ (λb G=>?_) (λh=>absurd I h)
  (λi hi=>.inr ⟨aY _ _ hi,λhfi=>?_,λb G hx=>hi (hr.dis i id b G (hX b hx))⟩),_,rfl,?_⟩
 ·rw[aP];refine⟨hrow,λb hb=>?_,λw'' hw=>Kh hrow hw⟩;rcases List.mem_append.1 hb with hb|hb
  ·exact hnew b (by simpa using hb)
  ·exact aaw (g3 b hb) r4.size
 ·rw[aP]at G;rcases List.mem_append.1 G with hb|hb
  ·rcases Z with Z|Z
   ·right;rw[ho];exact hub b (by rw[<-Z];simpa using hb)
   ·left;rw[Z]at hb;simp at hb;omega
  ·right;rw[ho];exact hb
 ·have :=hr.ob i;rw[hfi]at this;exact this
 ·simp only[VRel];exact⟨trivial,rU r2⟩
theorem NW{v:Value}(ho:w.ownsRow 0 e 1 v l.length<|l.map<|Value.int .i64)(J:∀b,v.ownBlock=some b->S b):VRel S w ρ0 (.row 1<|l.map<|V.int .i64) v:=by
 obtain⟨A,c,rfl,U,E⟩:=bY ho;simp only[VRel];refine⟨A,c,l.map<|Value.int .i64,by simp,by simpa using U,E,tT l,by simp,λhn=>?_⟩;obtain⟨g,cap,hv,_,G⟩:=ho.form (by simpa using hn);injection hv with Z e2 e3
 subst Z e3;exact⟨g,0,I,J _ I,G,λj hj=>by rw[Nat.zero_add];exact fW ho<|by simpa using hj⟩
end
section
variable{P:Program}{T:Tab}{K:Ctx}{Q:Exit->Act->World->Prop}{p:EP}{s:List EI}{n:Nat}{F:Fm}{H H1:Hp}{all:Array Oper}{listed:Array Bool}{L:YN}{m fuel i:Nat}{o:Oper}
theorem KM{ι:Type}{vf:ι->V}{ed:ι->ED}(J:Region.ready .any all listed=[i])(hi:all[i]?=some o)(hw:bd F all o.guard=some true)(hd:∀S w ρ a,HRel S w ρ H.get->FRel S w ρ a n F->∃x,Does P S w ρ H.get a o.type o.op (some<|vf x) ((ed x).app H.get H.nx) (ed x).tch)(hl:∀x,(ed x).ok H.get)
  (hc:∀x,((cm H.get L&&(ed x).clear L)||(listed.setIfInBounds i true).getD m false)=true) (k:∀x,Go P K Q (.drw all L m fuel<|listed.setIfInBounds i true) s n (F.seto o.dst<|some<|vf x)<|H.app<|ed x):Go P K Q (.drw all L m (fuel+1) listed) s n F H:=λS w ρ a hr U hF hs=>by
 refine oE (S:=S) J ?_;obtain⟨Z,nx,w',ρ',h1,h2,h3⟩:=hd S w ρ a hr hF;have E:=h2.hr;have G:=U.eff h2;rw[<-Hp.get_app (hl Z)]at E G;have hA:=oT hr h2;have hLs:Ls ρ L w w'∨(listed.setIfInBounds i true).getD m false=true:=(wB (hc Z)).imp (λh=>by simp only[aab]at h;exact AG hr h2 h.1 h.2) id
 unfold wpOp;simp only[hi];rw[if_pos<|cg hF hw];refine .inl ?_;obtain⟨x,rfl,h4⟩:=h3;have kV:=k Z S w' ρ' (a.put o.dst x) E G (cI (hF.up h2.up) o.dst h4) hs;obtain⟨d,op,ty,ps,af,g⟩:=o;unfold Oper.wp;rw[h1 d ps af g];exact nh h2.up hA hLs kV
variable{t e:TypeId}{x y:Operand}{by_:Nat}{bs:YN}{R:List (Value×YI)}{u:V}{k:Int}{d:Option Tmp}{ty:TypeId}{ps:String}{af:Array Edge}{g:Option (Nat×Bool)}
theorem gXa{v:Value}{l:YI}(i j id:Nat)(hi:all[i]?=some ⟨d,.call {callee:=.builtin .append,args:=#[x,y],argTypes:=#[t,t]},ty,ps,af,g⟩)(U:Region.ready .any all listed=[i])(hT:TabOk P T)(ht:slB T t=some (e,1,by_))(hx:aG F x=some (.raw v))(ho:H.get id=.ext bs (dO e R bs))(hy:aG F y=some u)(hs:zM H.get 1 u=some [.int .i64 k])(Z:R[j]?=some (v,l))(hb:l.length+1<=1000000000)(hw:bd F all g=some true)
  (hc:((cm H.get L&&!L.contains id)||(listed.setIfInBounds i true).getD m false)=true) (kk:∀G bs',Go P K Q (.drw all L m fuel<|listed.setIfInBounds i true) s n (F.puto d (some<|.raw G) _root_.id)<|H.ap (.set id<|.ext bs'<|dO e (R.set j (G,l++[k])) bs') _root_.id):Go P K Q (.drw all L m (fuel+1) listed) s n F H:=by
 refine KM (ι:=Value×YN) (vf:=λq=>.raw q.1) (ed:=λq=>.set id<|.ext q.2 (dO e (R.set j (q.1,l++[k])) q.2)) U hi hw (λS w ρ a hr hF=>?_) (λq=>⟨by rw[ho];simp,by rw[ho];simp⟩) (λq=>hc) λq=>by have :=kk q.1 q.2;rw[Fm.puto_eq,Hp.ap_eq]at this;exact this
 obtain⟨h1,h2,h3,z,h4,h5⟩:=EJ hT ht;obtain⟨u',g1,g2⟩:=ze hr hF hy hs;obtain⟨x',k1,k2⟩:=al hF hx;simp only[VRel]at k2;obtain⟨rfl,_⟩:=k2;have J:=hr.ob id;rw[ho]at J;obtain⟨⟨q1,q2⟩,q3,q4⟩:=J;exact Es (j:=j) (R':=λG=>R.set j (G,l++[k])) hr hF.fr ho k1 (q1 j _ Z).1 (q1 j _ Z).2 (λi p b E hp hpb hub=>E (q2 i j p _ b hp Z hpb hub)) g1 g2 h1 h4 h5 (by simp only[maxLen];omega) (aao (Nat.mul_le_mul hb h3) (by decide)) (λG i p hp=>by
  rw[List.getElem?_set]at hp;split at hp
  ·rename_i e;subst e;split at hp
   ·injection hp with hp;exact .inl ⟨rfl,hp.symm⟩
   ·cases hp
  ·rename_i E;exact .inr ⟨λe=>E e.symm,hp⟩)
theorem gXn(i id:Nat)(hi:all[i]?=some ⟨d,.call {callee:=.builtin .append,args:=#[x,y],argTypes:=#[t,t]},ty,ps,af,g⟩)(G:Region.ready .any all listed=[i])(hT:TabOk P T)(ht:slB T t=some (e,1,by_))(hx:aG F x=some .nils)(ho:H.get id=.ext bs (dO e R bs))(hy:aG F y=some u)(hs:zM H.get 1 u=some [.int .i64 k])(Z:bd F all g=some true)
  (hc:((cm H.get L&&!L.contains id)||(listed.setIfInBounds i true).getD m false)=true) (kk:∀E bs',Go P K Q (.drw all L m fuel<|listed.setIfInBounds i true) s n (F.puto d (some<|.raw E) _root_.id)<|H.ap (.set id<|.ext bs'<|dO e (R++[(E,[k])]) bs') _root_.id):Go P K Q (.drw all L m (fuel+1) listed) s n F H:=by
 refine KM (ι:=Value×YN) (vf:=λq=>.raw q.1) (ed:=λq=>.set id<|.ext q.2 (dO e (R++[(q.1,[k])]) q.2)) G hi Z (λS w ρ a hr hF=>?_) (λq=>⟨by rw[ho];simp,by rw[ho];simp⟩) (λq=>hc) λq=>by have :=kk q.1 q.2;rw[Fm.puto_eq,Hp.ap_eq]at this;exact this
 obtain⟨h1,h2,h3,z,h4,h5⟩:=EJ hT ht;obtain⟨u',g1,g2⟩:=ze hr hF hy hs;obtain⟨x',k1,U⟩:=al hF hx;simp only[VRel]at U;subst U;exact Es (j:=R.length) (l:=[]) (R':=λE=>R++[(E,[k])]) hr hF.fr ho k1 (World.ownsRow_nil w 0 e 1) (λb hb=>by cases hb) (λi p b hij hp hpb J=>by cases J) g1 g2 h1 h4 h5 (by simp[maxLen]) (aao (Nat.mul_le_mul (show 0+1<=1 by omega) h3) (by decide)) (λE i p hp=>by
  rw[List.getElem?_append]at hp;split at hp
  ·exact .inr ⟨by omega,hp⟩
  ·rename_i hlt;by_cases h0:i=R.length
   ·subst h0;simp at hp;exact .inl ⟨rfl,hp.symm⟩
   ·rw[List.getElem?_eq_none (by simp;omega)]at hp;cases hp)
theorem gX0(e:TypeId)(hp:p.still=true)(h2:H.ap (.new<|.ext []<|dO e [] []) _root_.id=H1)(k:Go P K Q p s n F H1):Go P K Q p s n F H:=by
 rw[Hp.ap_eq]at h2;subst h2;intro S w ρ a hr hi hF;have E:Eff S w w ρ (cj ρ H.nx<|.bool true) H.get (bi H.get H.nx<|.ext []<|dO e [] []) (λ_=>False):=eff_new hr H.get_free (Chg.refl _ _) ⟨DP,by simp,λw' _=>DP⟩ (λb hb=>by cases hb);have G:(H.app<|.new<|.ext []<|dO e [] []).get=bi H.get H.nx (.ext []<|dO e [] []):=Hp.get_app trivial;have :=k S w (cj ρ H.nx<|.bool true) a (by rw[id_eq,G];exact E.hr) (by rw[id_eq,G];exact hi.eff E)<|hF.up E.up;cases p with
 |drw=>cases hp
 |code c=>exact this
 |ops all rest=>exact this
 |ex e=>exact this
theorem gXz{kt et e:TypeId}{bs:YN}{l1:List<|Int×Value}{R:List<|Value×YI}(i j:Nat)(X:List<|Int×Value×YI)(E:i≠j)(hp:p.still=true)(hm:H.get i=.mp kt et (l1.map λp=>V.int .i64 p.1) (l1.map λp=>V.raw p.2))(he:H.get j=.ext bs (dO e R bs))(h1:l1=X.map λp=>(p.1,p.2.1))(hR:R=X.map λp=>p.2)
  (h2:(H.ap (.set i<|.mp kt et ((X.map λp=>(p.1,p.2.2)).map λp=>V.int .i64 p.1)<|(X.map λp=>(p.1,p.2.2)).map λp=>V.row 1<|p.2.map (V.int .i64)) λH'=>H'.ap (.set j .gone) _root_.id)=H1) (k:Go P K Q p s n F H1):Go P K Q p s n F H:=by
 rw[Hp.ap_eq,Hp.ap_eq]at h2;subst h2;intro S w ρ a hr hi hF;subst h1 hR;obtain⟨g1,g2⟩:=fE (id:=j) hr;have U:=hr.ob j;rw[he]at U;obtain⟨⟨q1,_⟩,_,_⟩:=U;have Z:(bi H.get j .gone) i=.mp kt et ((X.map λp=>(p.1,p.2.2)).map λp=>V.int .i64 p.1) ((X.map λp=>(p.1,p.2.1)).map λp=>V.raw p.2):=by rw[aY _ _ E,hm];simp[List.map_map,Function.comp_def]
 obtain⟨b,es,ck,m1,m2,m3,m4⟩:=Bh g1 Z;have vals:∀(X:List<|Int×Value×YI) (xs:List Value),(∀(n:Nat) p,X[n]?=some p->w.ownsRow 0 e 1 p.2.1 p.2.2.length (p.2.2.map (Value.int .i64))∧∀b,p.2.1.ownBlock=some b->b∈bs)->LRel (λb=>S b∨own ρ j (H.get j) b) w ρ0 ((X.map λp=>(p.1,p.2.1)).map λp=>V.raw p.2) xs->LRel (λb=>S b∨own ρ j (H.get j) b) w ρ0 ((X.map λp=>(p.1,p.2.2)).map λp=>V.row 1<|p.2.map (V.int .i64)) xs:=λX=>by
  induction X with
  |nil=>intro xs _ h;simpa[LRel]using h
  |cons c r ih=>
   intro xs hq h;simp only[aah,LRel]at h⊢;obtain⟨y,ys,rfl,h3,h4⟩:=h;simp only[VRel]at h3;obtain⟨rfl,_⟩:=h3;obtain⟨w1,w2⟩:=hq 0 c rfl;exact⟨_,ys,I,NW w1 (λb hb=>.inr (by rw[he];exact w2 b hb)),ih ys (λn p hp=>hq (n+1) p<|by simpa using hp) h4⟩
 have hv:=vals X _ (λn p hp=>q1 n p.2 (by rw[List.getElem?_map,hp];rfl)) m4;have ef:=qx (id:=i) (o:=.mp kt et ((X.map λp=>(p.1,p.2.2)).map λp=>V.int .i64 p.1)<|(X.map λp=>(p.1,p.2.2)).map λp=>V.row 1<|p.2.map (V.int .i64)) (X:=[]) g1 (Chg.refl _ _) (by simp) ⟨b,es,ck,m1,m2,m3,hv⟩ (λc J=>by rw[Z];exact J);have ok1:(ED.set i<|.mp kt et ((X.map λp=>(p.1,p.2.2)).map λp=>V.int .i64 p.1)<|(X.map λp=>(p.1,p.2.2)).map λp=>V.row 1<|p.2.map (V.int .i64)).ok H.get:=⟨by rw[hm];simp,by rw[hm];simp⟩;have e1:=Hp.get_app ok1;have ok2:(ED.set j .gone).ok (H.app<|.set i<|.mp kt et ((X.map λp=>(p.1,p.2.2)).map λp=>V.int .i64 p.1)<|(X.map λp=>(p.1,p.2.2)).map λp=>V.row 1<|p.2.map (V.int .i64)).get:=by
  rw[e1];simp only[ED.app];exact⟨by rw[aY _ _<|Ne.symm E,he];simp,by rw[aY _ _<|Ne.symm E,he];simp⟩
 have e2:=Hp.get_app ok2;rw[e1]at e2;simp only[ED.app]at e2;have e3:bi (bi H.get i<|.mp kt et ((X.map λp=>(p.1,p.2.2)).map λp=>V.int .i64 p.1)<|(X.map λp=>(p.1,p.2.2)).map λp=>V.row 1<|p.2.map (V.int .i64)) j .gone=bi (bi H.get j .gone) i (.mp kt et ((X.map λp=>(p.1,p.2.2)).map λp=>V.int .i64 p.1)<|(X.map λp=>(p.1,p.2.2)).map λp=>V.row 1<|p.2.map (V.int .i64)):=by
  funext c
  by_cases J:c=i
  ·subst J;rw[aY _ _ E,aP,aP]
  ·by_cases G:c=j
   ·subst G;rw[aP,aY _ _ J,aP]
   ·rw[aY _ _ G,aY _ _ J,aY _ _ J,aY _ _ G]
 rw[e3]at e2;have :=k _ w ρ a (by rw[id_eq,e2];exact ef.hr) (by rw[id_eq,e2];exact(hi.frz hr j).eff ef)<|(hF.up g2).up ef.up;cases p with
 |drw=>cases hp
 |code c=>exact this
 |ops all rest=>exact this
 |ex e=>exact this
end
section
variable{P:Program}{T:Tab}{K:Ctx}{Q:Exit->Act->World->Prop}{p:EP}{s:List EI}{n:Nat}{F F':Fm}{H H':Hp}{σ:YN}{S:Nat->Prop}{w:World}{ρ:Nat->Option Value}
def leX(σ:YN)(H:Hp):List (Nat×Ob)->Prop
 |[]=>True
 |(j,.ext bs Φ)::r=>(∃i,atN σ j=some i∧∃bs' Φ',H.get i=.ext bs' Φ'∧bs'=bs∧Φ'=Φ)∧leX σ H r
 |(j,o)::r=>(∃i,atN σ j=some i∧mS (H.get i) (o.ren σ))∧leX σ H r
theorem EY:∀{l:List<|Nat×Ob},leX σ H l->∀j,aA l j=.gone∨∃i,atN σ j=some i∧(mS (H.get i) ((aA l j).ren σ)∨∃bs Φ,H.get i=.ext bs Φ∧aA l j=.ext bs Φ)
 |[],_,j=>.inl rfl
 | (k,o)::r,h,j=>by
  have hr:leX σ H r:=by cases o<;>exact h.2
  simp only[aA];split
  ·rename_i hb;have :=aaf hb;subst this;right;cases o with
   |ext bs Φ=>
    obtain⟨⟨i,h1,bs',Φ',h2,rfl,rfl⟩,_⟩:=h;exact⟨i,h1,.inr ⟨_,_,h2,I⟩⟩
   |_=>obtain⟨⟨i,h1,h2⟩,_⟩:=h;exact⟨i,h1,.inl h2⟩
  ·exact EY hr j
theorem Mb(hH:leX σ H H'.es)(hn:ci σ=true)(E:Nat.ble σ.length H'.nx=true)(hr:HRel S w ρ H.get):HRel S w (da σ ρ) H'.get∧∀j b,own (da σ ρ) j (H'.get j) b->∃i,atN σ j=some i∧own ρ i (H.get i) b:=by
 have key:∀j,eK S w (da σ ρ) j (H'.get j)∧∀b,own (da σ ρ) j (H'.get j) b->∃i,atN σ j=some i∧own ρ i (H.get i) b:=λj=>by
  unfold Hp.get;split
  ·rcases EY hH j with e|⟨i,h1,h2|⟨bs,Φ,h2,G⟩⟩
   ·rw[e];exact⟨trivial,λb hb=>hb.elim⟩
   ·by_cases hg:aA H'.es j=.gone
    ·rw[hg];exact⟨trivial,λb hb=>hb.elim⟩
    ·obtain⟨G,Z⟩:=FY h1 h2 hg<|hr.ob i;exact⟨G,λb hb=>⟨i,h1,Z b hb⟩⟩
   ·have J:=hr.ob i;rw[h2]at J;rw[G];exact⟨J,λb hb=>⟨i,h1,by show own ρ i (H.get i) b;rw[h2];exact hb⟩⟩
  ·rename_i U;refine⟨?_,λb hb=>hb.elim⟩;show da σ ρ j=none;have hj:¬j<H'.nx:=λh=>by rw[nlT h]at U;cases U
   have hl:σ.length<=H'.nx:=Nat.le_of_ble_eq_true E;simp only[da,nq];rw[List.getElem?_eq_none<|by omega]
 refine⟨⟨λj=>(key j).1,λj b hb=>?_,λi j b hbi hbj=>?_,hr.slt⟩,λj=>(key j).2⟩
 ·obtain⟨i,_,h⟩:=(key j).2 b hb;exact hr.sep i b h
 ·obtain⟨i',h1,h2⟩:=(key i).2 b hbi;obtain⟨j',G,Z⟩:=(key j).2 b hbj;have :=hr.dis i' j' b h2 Z;subst this;exact re hn i j i' h1 G
theorem gJX(k:Go P K Q p s n F' H')(σ pv:YN)(hp:p.still=true)(E:au K pv)(hF:leF σ F F')(hH:leX σ H H'.es)(U:(ci σ&&Nat.ble σ.length H'.nx&&xt σ pv&&Nat.ble F'.length n)=true):Go P K Q p s n F H:=λS w ρ a hr hi hf=>by
 simp only[aab]at U;obtain⟨⟨⟨h1,h2⟩,Z⟩,h4⟩:=U;obtain⟨g1,g2⟩:=Mb hH h1 h2 hr;have G:Inv K S w (da σ ρ) H'.get:=⟨hi.chg,hi.s0,hi.s1,λj b hb=>by obtain⟨i,_,h⟩:=g2 j b hb;exact hi.ow i b h,λid x hx=>by
  have J:=List.all_eq_true.1 Z id (E id x hx);simp only[da];split at J
  ·rename_i j hj;have :=aaf J;subst this
   first|exact hi.pin id x hx|(rw[hj];exact hi.pin id x hx)
  ·cases J⟩
 have :=k S w (da σ ρ) a g1 G<|EE hF (Nat.le_of_ble_eq_true h4) hf;cases p with
 |drw=>cases hp
 |code c=>exact this
 |ops all rest=>exact this
 |ex e=>exact this
theorem Tb{t:TypeId}{x y z:Operand}{ty:TypeId}{v:Option V}{h':Nat->Ob}{X:Nat->Prop}(E:∀S w ρ a,HRel S w ρ H.get->FRel S w ρ a n F->Does P S w ρ H.get a ty (.mapUpdate t x y z) v h' X):∀S w ρ a,HRel S w ρ H.get->FRel S w ρ a n F->Does P S w ρ H.get a ty (.insert t x y z) v h' X:=E
theorem QN{t kt et:TypeId}{x:Operand}{id k:Nat}{ks vs:List V}{ty:TypeId}(ht:P.underlying t=some (.map kt et))(hx:aG F x=some (.sl id))(ho:H.get id=.mp kt et ks vs)(G:ks.length=k):∀S w ρ a,HRel S w ρ H.get->FRel S w ρ a n F->Does P S w ρ H.get a ty (.call {callee:=.builtin .len,args:=#[x],argTypes:=#[t]}) (some<|.int .i64 (k:Int)) (ED.nop.app H.get H.nx) ED.nop.tch:=λS w ρ a hr hF=>by
 obtain⟨u,k1,E⟩:=al hF hx;simp only[VRel]at E;obtain⟨b,es,ck,h1,h2,J,U⟩:=Bh hr ho;rw[E.1]at h1;cases h1;have hl:=J.length;have hz:es.size=k:=by rw[<-G];simp at hl;exact hl
 refine⟨_,w,ρ,λ_ _ _ _=>?_,Eff.refl hr,.int .i64 (k:Int),rfl,by simp only[VRel]⟩;simp only[execOp,resolve,invoke,builtin,List.map_toArray,aah,aau,hF.fr.eval k1];simp[Builtin.len_,run_underlying ht,MapKept.run_getObj_map h2,goInt,Result.andThen,hz,resolve]
end
set_option maxHeartbeats 4000000
def qH(E:Int)(G:Bool):Prop:=qS 170 [qi E]<|.bool G
def kz(E G J:Int):Prop:=qS 171 [qi E,qi G]<|qi J
def ii(E:Int)(G:Bool):Prop:=qS 41 [qi E]<|.bool G
def oV(E G:aj)(J:Int):Prop:=qS 125 [.agg<|aj.c E,.agg<|aj.c G]<|qi J
def pS(E:List aj)(G:Bool):Prop:=qS 75 [.row 6<|List.map aj.w E]<|.bool G
def nD(E:List aj)(G:Bool):Prop:=qS 43 [.row 6<|List.map aj.w E]<|.bool G
def gG(E:YB)(G:Bool):Prop:=qS 126 [.str E]<|.bool G
def nU(E:YB)(G:Bool):Prop:=qS 128 [.str E]<|.bool G
def sq(E:Int)(G:ak)(J:Bool):Prop:=qS 76 [qi E,.agg<|ak.c G]<|.bool J
def th(E:Int)(G:ak)(J:Bool):Prop:=qS 77 [qi E,.agg<|ak.c G]<|.bool J
def ry(E:ak)(G:Bool):Prop:=qS 78 [.agg<|ak.c E]<|.bool G
def py(E G:Int)(J:ak)(U:Bool):Prop:=qS 44 [qi E,qi G,.agg<|ak.c J]<|.bool U
def nF(G:aJ)(E:(List<|Int×Int)):Prop:=cb [] prog 40 [.agg<|aJ.c G] ⟨0,[]⟩<|z7 (.sl 0) ⟨1,[(0,.mp 3 3 (List.map (λp=>(V.int .i64) p.1) E)<|List.map (λp=>(V.int .i64) p.2) E)]⟩
def di(E:aJ)(G:Bool):Prop:=qS 17 [.agg<|aJ.c E]<|.bool G
def kY(E:aJ)(G:YI):Prop:=qS 15 [.agg<|aJ.c E]<|.row 1<|List.map (V.int .i64) G
theorem FF(m:Nat)(E:Int)(G:Bool)(h:(E !=E)=G):qH E G:=by refine⟨I,I,?_⟩;refine qA 6 [] func170 λK J=>?_;refine gR 14 I ?_;subst h;exact qN [.tmp 2]
theorem wd(m:Nat)(J U G:Int)(h:∃b,qH J b∧∃a,qH U a∧((b=true)->((a=true)->0=G)∧((a=false)->(-1)=G))∧((b=false)->((a=true)->1=G)∧((a=false)->((J<U)->(-1)=G)∧((¬J<U)->((U<J)->1=G)∧((¬U<J)->0=G))))):kz J U G:=by
 refine⟨I,I,?_⟩;refine qA 20 [] func171 λK Z=>?_;refine gR 8 I ?_;obtain⟨b,c,h⟩:=h;refine qC0 c I<|gR 6 I ?_;obtain⟨a,d,h⟩:=h;refine qC0 d rfl<|gR 9 rfl<|gB 11 rfl rfl rfl ?_ ?_<;>intro E;refine gT 5 I E I ?_;refine gT 8 I E I ?_;replace h:=h.1 E;refine gR 7 rfl<|gB 12 rfl rfl rfl ?_ ?_<;>intro E;refine gT 6 I E I ?_;refine gT 10 I E I ?_;replace h:=h.1 E;refine gR 9 I ?_;subst h;exact qN [.tmp 4];refine gF 6 I E I ?_;refine gF 10 I E I ?_;replace h:=h.2 E;refine gR 10 I ?_;subst h;exact qN [.tmp 4];refine gF 5 I E I ?_;refine gF 8 I E I ?_;replace h:=h.2 E;refine gR 9 rfl<|gB 13 rfl rfl rfl ?_ ?_<;>intro E;refine gT 6 I E I ?_;refine gT 10 I E I ?_;replace h:=h.1 E;refine gR 8 I ?_;subst h;exact qN [.tmp 4];refine gF 6 I E I ?_;refine gF 10 I E I ?_;replace h:=h.2 E;refine gR 11 rfl<|qBd 16 rfl rfl rfl h ?_ ?_<;>intro h;refine gR 8 I ?_;subst h;exact qN [.tmp 4];refine gR 11 rfl<|qBd 19 rfl rfl rfl h ?_ ?_<;>intro h;refine gR 8 I ?_;subst h;exact qN [.tmp 4];refine gR 9 I ?_;subst h;exact qN [.tmp 4]
theorem BD(m:Nat)(E:Int)(G:Bool)(h:∃a,nI E a∧((a=true)->(0<=E∧E<=9223372036854775807)∧((E%1048576)!=0)=G)∧((a=false)->false=G)):ii E G:=by
 refine⟨I,I,?_⟩;refine qA 10 [] func41 λK J=>?_;refine gR 8 I ?_;obtain⟨a,b,h⟩:=h;refine qC0 b rfl<|gR 1 rfl<|qBiZ 5 4 rfl rfl rfl rfl h ?_ ?_<;>intro h;refine gR 1 I ?_;obtain⟨hb,h⟩:=h;refine gY (Ge I I hb) I I<|gR 6 I ?_;subst h;exact qN [.tmp 2];refine gR 8 I ?_;subst h;exact qN [.tmp 2]
theorem sx(m:Nat)(E G:aj)(J:Int)(h:∃a,kz E.Id G.Id a∧((a≠0)->a=J)∧((a=0)->∃b,kz E.Field G.Field b∧b=J)):oV E G J:=by
 refine⟨I,I,?_⟩;refine qA 19 [] func125 λK U=>?_;refine gR 3 I<|gFP 0 I I I I<|gR 1 I<|gFP 1 I I I I<|gR 10 I ?_;obtain⟨a,c,h⟩:=h;refine qC0 c rfl<|gR 9 rfl<|qBh 12 rfl rfl rfl h ig eP ?_ ?_<;>intro h;refine gR 9 I ?_;subst h;exact qN [.tmp 4];refine gR 9 I ?_;obtain⟨b,d,h⟩:=h;refine qC0 d I<|gR 4 I ?_;subst h;exact qN [.tmp 4]
def iI(m:Nat)(E:List aj)(a:Nat)(G:Bool):Prop:=z8 m [] f75 (z6<|.bool G) (xI<|cB<|ab f75) [.blk 0,.seq<|xA<|ab f75] 39 [(0,.row 6<|List.map aj.w E),(5,.row 6<|List.map aj.w E),(6,qi (E.length:Int)),(7,qi (a:Int))] ⟨0,[]⟩
theorem Bg(m:Nat)(p0:List aj)(r0:Bool)(h:iI m p0 0 r0):pS p0 r0:=by
 refine⟨I,I,?_⟩;refine qA 39 [] func75 λK hK=>?_;exact gR 10 I<|gV 6 (qi (p0.length:Int)) I (aN<|az aj.w _) I<|gLB 5 I (az aj.w _) λa=>gR 4 I<|go_loop m<|qW hK h []
theorem sK(m:Nat)(G:List aj)(a:Nat)(E:Bool)(h:y6 (a<G.length) (∃b,G[a]?=some b∧∃c,ii b.Id c∧y8 c (false=E) (y6 (b.Field<1) (false=E)<|y6 (48<=b.Field) (false=E)<|y6 (0<(a:Int)) (InI ((a:Int)-1)∧∃d,((a:Int)-1)=((d:Nat):Int)∧∃g,G[d]?=some g∧∃e,oV g b e∧y6 (0<=e) (false=E) (a+1<=9223372036854775807∧iI m G (a+1) E))<|a+1<=9223372036854775807∧iI m G (a+1) E))<|true=E):iI (m+1) G a E:=by
 refine qj λK Z U o=>?_;refine gR 6 rfl<|qXh 8 rfl rfl rfl h bQ bS ?_ ?_<;>intro J h;refine gR 8 I ?_;obtain⟨b,i,h⟩:=h;refine gY (ax (av (f:=aj.w) i) ac I I I I) I I<|gR 11 I ?_;obtain⟨c,l,h⟩:=h;refine qC0 l rfl<|gR 2 rfl<|qXhZ 16 15 rfl rfl rfl rfl h bz bx ?_ ?_<;>intro J h;refine gR 21 I<|go_xloopR<|gR 2 I ?_;subst h;exact qN [.tmp 2];refine gR 5 rfl<|qXdZ 21 20 rfl rfl rfl rfl h ?_ ?_<;>intro J h;refine gR 16 I<|go_xloopR<|gR 2 I ?_;subst h;exact qN [.tmp 2];refine gR 6 rfl<|qXd 25 rfl rfl rfl h ?_ ?_<;>intro J h;refine gR 10 I<|go_xloopR<|gR 2 I ?_;subst h;exact qN [.tmp 2];refine gR 4 rfl<|qDs [0] 9 12<|qDr (qR 0 3 0 []) rfl rfl<|qXdZ 28 27 rfl rfl rfl rfl h ?_ ?_<;>intro J h;refine qDr [(3,2),(4,2)] I I ?_;obtain⟨hb,h⟩:=h;refine qDr [(5,2)] I I<|gV 31 (qi<|(a:Int)-1) I (am hb I) I ?_;obtain⟨d,k,h⟩:=h;refine gV 31 (qi ((d:Nat):Int)) I (bc k) I ?_;obtain⟨g,j,h⟩:=h;refine gYd 6 I (by kernel_rfl) (ax (av (f:=aj.w) j) ac I I I I) I I<|qDr [(7,2),(8,0)] I I ?_;obtain⟨e,n,h⟩:=h;refine bM 9 n (by kernel_rfl) I (by kernel_rfl) I I .rfl I I ?_;refine qDr [(10,1),(11,1)] rfl rfl<|qDe<|gR 1 rfl<|qXd 37 rfl rfl rfl h ?_ ?_<;>intro J h;refine gR 9 I<|go_xloopR<|gR 2 I ?_;subst h;exact qN [.tmp 2];refine gR 5 I ?_;obtain⟨hb,h⟩:=h;exact gR 1 I<|gV 38 (qi ((a+1:Nat):Int)) I (am (by omega)<|by omega) I<|gR 2 I<|go_xloop<|qW U h [];refine qDr (qR 3 5 2<|qR 8 3 0 [(11,1)]) I I<|qDe<|gR 6 I ?_;obtain⟨hb,h⟩:=h;exact gR 1 I<|gV 38 (qi ((a+1:Nat):Int)) I (am (by omega)<|by omega) I<|gR 2 I<|go_xloop<|qW U h [];refine gR 3 I<|go_xloopE<|gR 8 I ?_;subst h;exact qN [.tmp 2]
def me(m:Nat)(E:List aj)(a:Nat)(G:Bool):Prop:=z8 m [] f43 (z6<|.bool G) (xI<|cB<|ab f43) [.blk 0,.seq<|xA<|ab f43] 18 [(0,.row 6<|List.map aj.w E),(5,.row 6<|List.map aj.w E),(6,qi (E.length:Int)),(7,qi (a:Int))] ⟨0,[]⟩
theorem BP(m:Nat)(p0:List aj)(r0:Bool)(h:me m p0 0 r0):nD p0 r0:=by
 refine⟨I,I,?_⟩;refine qA 18 [] func43 λK hK=>?_;exact gR 10 I<|gV 6 (qi (p0.length:Int)) I (aN<|az aj.w _) I<|gLB 5 I (az aj.w _) λa=>gR 4 I<|go_loop m<|qW hK h []
theorem uS(m:Nat)(E:List aj)(b:Nat)(G:Bool)(h:y6 (b<E.length) (∃a,E[b]?=some a∧y6 (a.V_.N=0∧a.V_.Flag=false∧a.V_.Text=[]∧a.V_.Ref=0) (false=G) (b+1<=9223372036854775807∧me m E (b+1) G))<|∃c,pS E c∧c=G):me (m+1) E b G:=by
 refine qj λK Z J g=>?_;refine gR 6 rfl<|qXh 8 rfl rfl rfl h bQ bS ?_ ?_<;>intro U h;refine gR 7 I ?_;obtain⟨a,d,h⟩:=h;refine gY (ax (av (f:=aj.w) d) ac rfl rfl rfl rfl) rfl rfl<|gR 10 rfl<|gY (v:=.bool<|ds a.V_.N a.V_.Flag a.V_.Text a.V_.Ref 0 false [] 0) (sD (neg:=false) (r:=(ds a.V_.N a.V_.Flag a.V_.Text a.V_.Ref 0 false [] 0)) (by kernel_rfl) rfl rfl rfl rfl<|lA underlying42 (by kernel_rfl) (by decide) ⟨rfl,rfl,rfl,rfl⟩ underlying3 underlying4 underlying9 underlying3 _ _ _ _ _ _ _ _) rfl rfl<|gR 2 rfl<|qXh 14 rfl rfl rfl h qX qU ?_ ?_<;>intro U h;refine gR 9 I<|go_xloopR<|gR 2 I ?_;subst h;exact qN [.tmp 2];refine gR 5 I ?_;obtain⟨hb,h⟩:=h;exact gR 1 I<|gV 15 (qi ((b+1:Nat):Int)) I (am (by omega)<|by omega) I<|gR 2 I<|go_xloop<|qW J h [];refine gR 3 I<|go_xloopE<|gR 5 I ?_;obtain⟨c,e,h⟩:=h;refine qC0 e I<|gR 4 I ?_;subst h;exact qN [.tmp 2]
def jg(m:Nat)(E:YB)(a:Nat)(G:Bool):Prop:=z8 m [] f126 (z6<|.bool G) (xI<|xA<|ab f126) [.blk 0,.seq<|xH<|ab f126] 34 [(0,.str E),(13,qi (E.length:Int)),(14,qi (a:Int))] ⟨0,[]⟩
theorem zn(m:Nat)(p0:YB)(r0:Bool)(h:(((p0.length:Int)<1)->false=r0)∧((¬(p0.length:Int)<1)->((60<(p0.length:Int))->false=r0)∧((¬60<(p0.length:Int))->jg m p0 0 r0))):gG p0 r0:=by
 refine⟨I,I,?_⟩;refine qA 34 [] func126 λK hK=>?_;refine gR 12 rfl<|qXdZ 7 6 rfl rfl rfl rfl h ?_ ?_<;>intro hd h;refine gR 14 I ?_;subst h;exact qN [.tmp 2];refine gR 6 rfl<|qXd 11 rfl rfl rfl h ?_ ?_<;>intro hd h;refine gR 8 I ?_;subst h;exact qN [.tmp 2];exact gR 12 I<|go_loop m<|qW hK h []
theorem rh(m:Nat)(E:YB)(a:Nat)(G:Bool)(h:y6 (a<E.length) (∃b,E[a]?=some b∧y6 ((b.toNat:Int)<97) (false=G) (∃c,E[a]?=some c∧y6 (122<(c.toNat:Int)) (false=G) (a+1<=9223372036854775807∧jg m E (a+1) G))) (InI ((E.length:Int)-1)∧∃d,((E.length:Int)-1)=((d:Nat):Int)∧∃e,E[d]?=some e∧((e.toNat:Int)!=97)=G)):jg (m+1) E a G:=by
 refine qj λK Z U k=>?_;refine gR 6 rfl<|qXh 15 rfl rfl rfl h bQ bS ?_ ?_<;>intro J h;refine gR 15 I ?_;obtain⟨b,f,h⟩:=h;refine gY (yIS ac rfl rfl rfl f) rfl rfl<|gR 2 rfl<|qXdZ 21 20 rfl rfl rfl rfl h ?_ ?_<;>intro J h;refine gR 16 I<|go_xloopR<|gR 2 I ?_;subst h;exact qN [.tmp 2];refine gR 2 I ?_;obtain⟨c,g,h⟩:=h;refine gY (yIS ac rfl rfl rfl g) rfl rfl<|gR 4 rfl<|qXd 26 rfl rfl rfl h ?_ ?_<;>intro J h;refine gR 9 I<|go_xloopR<|gR 2 I ?_;subst h;exact qN [.tmp 2];refine gR 5 I ?_;obtain⟨hb,h⟩:=h;exact gR 1 I<|gV 27 (qi ((a+1:Nat):Int)) I (am (by omega)<|by omega) I<|gR 2 I<|go_xloop<|qW U h [];refine gR 3 I<|go_xloopE<|gR 7 I ?_;obtain⟨hb,h⟩:=h;refine gR 1 I<|gV 31 (qi<|(E.length:Int)-1) I (am hb I) I ?_;obtain⟨d,j,h⟩:=h;refine gV 31 (qi ((d:Nat):Int)) I (bc j) I ?_;obtain⟨e,i,h⟩:=h;refine gY (yIS ac I I I i) I I<|gR 5 I ?_;subst h;exact qN [.tmp 2]
theorem zx(m:Nat)(E:YB)(G:Bool)(h:((E=[43])->true=G)∧((E≠[43])->((E=[45])->true=G)∧((E≠[45])->((E=[42])->true=G)∧((E≠[42])->((E=[60])->true=G)∧((E≠[60])->((E=[61,61])->true=G)∧((E≠[61,61])->false=G)))))):nU E G:=by
 refine⟨I,I,?_⟩;refine qA 10 [] func128 λK J=>?_;refine gR 19 rfl<|qBeZ 4 5 rfl rfl rfl rfl h ?_ ?_<;>intro h;refine gR 12 I ?_;subst h;exact qN [.tmp 2];refine gR 7 rfl<|qBeZ 4 6 rfl rfl rfl rfl h ?_ ?_<;>intro h;refine gR 12 I ?_;subst h;exact qN [.tmp 2];refine gR 7 rfl<|qBeZ 4 7 rfl rfl rfl rfl h ?_ ?_<;>intro h;refine gR 12 I ?_;subst h;exact qN [.tmp 2];refine gR 7 rfl<|qBeZ 4 8 rfl rfl rfl rfl h ?_ ?_<;>intro h;refine gR 12 I ?_;subst h;exact qN [.tmp 2];refine gR 6 rfl<|qBeZ 4 9 rfl rfl rfl rfl h ?_ ?_<;>intro h;refine gR 9 I ?_;subst h;exact qN [.tmp 2];refine gR 10 I ?_;subst h;exact qN [.tmp 2]
theorem xP(m:Nat)(J:Int)(E:ak)(G:Bool)(h:((J=1)->(ds E.N E.Flag E.Text E.Ref 1 false [] 0)=G)∧((J≠1)->((E.Flag=true)->false=G)∧((E.Flag=false)->∃a,ii E.Ref a∧((a=false)->false=G)∧((a=true)->((E.N=0)->∃b,gG E.Text b∧b=G)∧((E.N≠0)->((E.N=1)->(E.Text==[])=G)∧((E.N≠1)->((E.N=2)->(E.Text==[])=G)∧((E.N≠2)->((E.N=3)->(E.Text==[])=G)∧((E.N≠3)->false=G)))))))):sq J E G:=by
 refine⟨I,I,?_⟩;refine qA 32 [] func76 λK U=>?_;refine gR 3 rfl<|gFP 0 rfl rfl rfl rfl<|gR 10 rfl<|qBe 6 rfl rfl rfl h ?_ ?_<;>intro h;refine gR 5 rfl<|gY (v:=.bool<|ds E.N E.Flag E.Text E.Ref 1 false [] 0) (sD (neg:=false) (r:=(ds E.N E.Flag E.Text E.Ref 1 false [] 0)) (by kernel_rfl) rfl rfl rfl rfl<|lA underlying42 (by kernel_rfl) (by decide) ⟨rfl,rfl,rfl,rfl⟩ underlying3 underlying4 underlying9 underlying3 _ _ _ _ _ _ _ _) rfl rfl<|gR 5 rfl ?_;subst h;exact qN [.tmp 4];refine gR 9 rfl<|qBiZ 12 11 rfl rfl rfl rfl h ?_ ?_<;>intro h;refine gR 15 I ?_;subst h;exact qN [.tmp 4];refine gR 2 I ?_;obtain⟨a,c,h⟩:=h;refine qC0 c rfl<|gR 4 rfl<|qBh 17 rfl rfl rfl h bz bx ?_ ?_<;>intro h;refine gR 8 I ?_;subst h;exact qN [.tmp 4];refine gR 17 rfl<|qBeZ 20 21 rfl rfl rfl rfl h ?_ ?_<;>intro h;refine gR 5 I ?_;obtain⟨b,d,h⟩:=h;refine qC0 d I<|gR 6 I ?_;subst h;exact qN [.tmp 4];refine gR 8 rfl<|qBeZ 25 26 rfl rfl rfl rfl h ?_ ?_<;>intro h;refine gR 15 I ?_;subst h;exact qN [.tmp 4];refine gR 7 rfl<|qBeZ 25 27 rfl rfl rfl rfl h ?_ ?_<;>intro h;refine gR 15 I ?_;subst h;exact qN [.tmp 4];refine gR 6 rfl<|qBeZ 25 28 rfl rfl rfl rfl h ?_ ?_<;>intro h;refine gR 12 I ?_;subst h;exact qN [.tmp 4];refine gR 10 I ?_;subst h;exact qN [.tmp 4]
def rv(m:Nat)(E:Int)(G:ak)(a J:Bool):Prop:=y4 [] f77 (z6<|.bool J) (cB<|xF<|xA<|ab f77) [.blk 0,.seq<|xH<|ab f77] 25 [(3,.box (ak.c G) 0),(10,qi E),(11,.bool a)] ⟨0,[]⟩
theorem Ds(m:Nat)(G:Int)(E:ak)(J:Bool)(h:((¬(E.N=0∧E.Flag=false∧E.Text=E.Text∧E.Ref=0))->false=J)∧((E.N=0∧E.Flag=false∧E.Text=E.Text∧E.Ref=0)->((G=1)->rv m G E true J)∧((G≠1)->rv m G E (G==3) J))):th G E J:=by
 refine⟨I,I,?_⟩;refine qA 25 [] func77 λK U=>?_;refine gR 3 rfl<|gFP 0 rfl rfl rfl rfl<|gR 10 rfl<|gY (v:=.bool<|!(ds E.N E.Flag E.Text E.Ref 0 false E.Text 0)) (sD (neg:=true) (r:=(ds E.N E.Flag E.Text E.Ref 0 false E.Text 0)) (by kernel_rfl) rfl rfl rfl rfl<|lA underlying42 (by kernel_rfl) (by decide) ⟨rfl,rfl,rfl,rfl⟩ underlying3 underlying4 underlying9 underlying3 _ _ _ _ _ _ _ _) rfl rfl<|gR 2 rfl<|qBh 9 rfl rfl rfl h (λZ=>qU<|bz Z) (λZ=>qX<|bx Z) ?_ ?_<;>intro h;refine gR 8 I ?_;subst h;exact qN [.tmp 4];refine gR 17 rfl<|qBeZ 11 12 rfl rfl rfl rfl h ?_ ?_<;>intro h;exact gR 3 I<|qJ U (h K U) [];exact gR 6 I<|qJ U (h K U) []
theorem wi(m:Nat)(J:Int)(G:ak)(a E:Bool)(h:y7 a (∃b,ny G.Text b∧(b==2)=E)<|y9 J 2 (∃c,ny G.Text c∧(c==1)=E)<|y9 J 4 (∃d,ny G.Text d∧(d==1)=E)<|false=E):rv (m+1) J G a E:=by
 intro K U;refine qBi 11 rfl rfl rfl h ?_ ?_<;>intro h;refine gR 5 I ?_;obtain⟨b,f,h⟩:=h;refine qC0 f I<|gR 7 I ?_;subst h;exact qN [.tmp 4];refine gR 8 rfl<|qBeZ 18 19 rfl rfl rfl rfl h ?_ ?_<;>intro h;refine gR 8 I ?_;obtain⟨c,g,h⟩:=h;refine qC0 g I<|gR 7 I ?_;subst h;exact qN [.tmp 4];refine gR 6 rfl<|qBeZ 18 20 rfl rfl rfl rfl h ?_ ?_<;>intro h;refine gR 5 I ?_;obtain⟨d,e,h⟩:=h;refine qC0 e I<|gR 7 I ?_;subst h;exact qN [.tmp 4];refine gR 10 I ?_;subst h;exact qN [.tmp 4]
def lS(m:Nat)(E:ak)(G:Bool):Prop:=y4 [] f78 (z6<|.bool G) (xA<|ab f78) [] 135 [(1,.box (ak.c E) 0)] ⟨0,[]⟩
def qe(m:Nat)(E:ak)(a:Int)(b G:Bool):Prop:=y4 [] f78 (z6<|.bool G) (xD<|ab f78) [] 135 [(1,.box (ak.c E) 0),(3,qi a),(4,.bool b)] ⟨0,[]⟩
def cp(m:Nat)(E:ak)(a:Int)(b d G:Bool):Prop:=y4 [] f78 (z6<|.bool G) (cB<|xF<|xD<|ab f78) [.blk 0,.seq<|xD<|cB<|ab f78] 135 [(1,.box (ak.c E) 0),(3,qi a),(4,.bool b),(26,qi E.N),(27,.bool d)] ⟨0,[]⟩
def vm(m:Nat)(E:ak)(a:Int)(b G:Bool):Prop:=y4 [] f78 (z6<|.bool G) (xB<|cA<|xF<|xD<|ab f78) [.seq<|cB<|xF<|xD<|ab f78,.blk 0,.seq<|xD<|cB<|ab f78] 135 [(1,.box (ak.c E) 0),(3,qi a),(4,.bool b),(26,qi E.N)] ⟨0,[]⟩
def vX(m:Nat)(E:ak)(a:Int)(b G:Bool):Prop:=y4 [] f78 (z6<|.bool G) (xC<|cA<|xF<|xD<|ab f78) [.seq<|cB<|xF<|xD<|ab f78,.blk 0,.seq<|xD<|cB<|ab f78] 135 [(1,.box (ak.c E) 0),(3,qi a),(4,.bool b),(26,qi E.N)] ⟨0,[]⟩
def vW(m:Nat)(E:ak)(a:Int)(b G:Bool):Prop:=y4 [] f78 (z6<|.bool G) (xC<|xB<|cA<|xF<|xD<|ab f78) [.seq<|cB<|xF<|xD<|ab f78,.blk 0,.seq<|xD<|cB<|ab f78] 135 [(1,.box (ak.c E) 0),(3,qi a),(4,.bool b),(26,qi E.N)] ⟨0,[]⟩
def vY(m:Nat)(E:ak)(a:Int)(b G:Bool):Prop:=y4 [] f78 (z6<|.bool G) (xG<|cA<|xF<|xD<|ab f78) [.seq<|cB<|xF<|xD<|ab f78,.blk 0,.seq<|xD<|cB<|ab f78] 135 [(1,.box (ak.c E) 0),(3,qi a),(4,.bool b),(26,qi E.N)] ⟨0,[]⟩
def wq(m:Nat)(E:ak)(a:Int)(b G:Bool):Prop:=y4 [] f78 (z6<|.bool G) (xG<|xB<|cA<|xF<|xD<|ab f78) [.seq<|cB<|xF<|xD<|ab f78,.blk 0,.seq<|xD<|cB<|ab f78] 135 [(1,.box (ak.c E) 0),(3,qi a),(4,.bool b),(26,qi E.N)] ⟨0,[]⟩
def vZ(m:Nat)(E:ak)(a:Int)(b G:Bool):Prop:=y4 [] f78 (z6<|.bool G) (xG<|xC<|cA<|xF<|xD<|ab f78) [.seq<|cB<|xF<|xD<|ab f78,.blk 0,.seq<|xD<|cB<|ab f78] 135 [(1,.box (ak.c E) 0),(3,qi a),(4,.bool b),(26,qi E.N)] ⟨0,[]⟩
def vq(m:Nat)(E:ak)(a:Int)(b G:Bool):Prop:=y4 [] f78 (z6<|.bool G) (xN<|xD<|ab f78) [.blk 0,.seq<|xD<|cB<|ab f78] 135 [(1,.box (ak.c E) 0),(3,qi a),(4,.bool b),(26,qi E.N)] ⟨0,[]⟩
def uz(m:Nat)(E:ak)(a:Int)(b G:Bool):Prop:=y4 [] f78 (z6<|.bool G) (xC<|xF<|xD<|ab f78) [.blk 0,.seq<|xD<|cB<|ab f78] 135 [(1,.box (ak.c E) 0),(3,qi a),(4,.bool b),(26,qi E.N)] ⟨0,[]⟩
def tU(m:Nat)(E:ak)(a:Int)(b G:Bool):Prop:=y4 [] f78 (z6<|.bool G) (xC<|xN<|xD<|ab f78) [.blk 0,.seq<|xD<|cB<|ab f78] 135 [(1,.box (ak.c E) 0),(3,qi a),(4,.bool b),(26,qi E.N)] ⟨0,[]⟩
def uh(m:Nat)(E:ak)(a:Int)(b G:Bool):Prop:=y4 [] f78 (z6<|.bool G) (xG<|xF<|xD<|ab f78) [.blk 0,.seq<|xD<|cB<|ab f78] 135 [(1,.box (ak.c E) 0),(3,qi a),(4,.bool b),(26,qi E.N)] ⟨0,[]⟩
def ul(m:Nat)(E:ak)(a:Int)(b G:Bool):Prop:=y4 [] f78 (z6<|.bool G) (xG<|xN<|xD<|ab f78) [.blk 0,.seq<|xD<|cB<|ab f78] 135 [(1,.box (ak.c E) 0),(3,qi a),(4,.bool b),(26,qi E.N)] ⟨0,[]⟩
def ug(m:Nat)(E:ak)(a:Int)(b G:Bool):Prop:=y4 [] f78 (z6<|.bool G) (xG<|xC<|xF<|xD<|ab f78) [.blk 0,.seq<|xD<|cB<|ab f78] 135 [(1,.box (ak.c E) 0),(3,qi a),(4,.bool b),(26,qi E.N)] ⟨0,[]⟩
def uQ(m:Nat)(E:ak)(a:Int)(b G:Bool):Prop:=y4 [] f78 (z6<|.bool G) (xJ<|xG<|xC<|xF<|xD<|ab f78) [.blk 0,.seq<|xD<|cB<|ab f78] 135 [(1,.box (ak.c E) 0),(3,qi a),(4,.bool b)] ⟨0,[]⟩
def tM(m:Nat)(E:ak)(a:Int)(b G:Bool):Prop:=y4 [] f78 (z6<|.bool G) (xG<|xC<|xN<|xD<|ab f78) [.blk 0,.seq<|xD<|cB<|ab f78] 135 [(1,.box (ak.c E) 0),(3,qi a),(4,.bool b),(26,qi E.N)] ⟨0,[]⟩
def uF(m:Nat)(E:ak)(a:Int)(b G:Bool):Prop:=y4 [] f78 (z6<|.bool G) (xJ<|xG<|xC<|xN<|xD<|ab f78) [.blk 0,.seq<|xD<|cB<|ab f78] 135 [(1,.box (ak.c E) 0),(3,qi a),(4,.bool b)] ⟨0,[]⟩
def uf(m:Nat)(E:ak)(a:Int)(b G:Bool):Prop:=y4 [] f78 (z6<|.bool G) (xM<|xF<|xD<|ab f78) [.blk 0,.seq<|xD<|cB<|ab f78] 135 [(1,.box (ak.c E) 0),(3,qi a),(4,.bool b),(26,qi E.N)] ⟨0,[]⟩
def ur(m:Nat)(E:ak)(a:Int)(b G:Bool):Prop:=y4 [] f78 (z6<|.bool G) (xJ<|xM<|xF<|xD<|ab f78) [.blk 0,.seq<|xD<|cB<|ab f78] 135 [(1,.box (ak.c E) 0),(3,qi a),(4,.bool b)] ⟨0,[]⟩
theorem BE(m:Nat)(E:ak)(G:Bool)(h:((E.Ref≠0)->∃a,ii E.Ref a∧((a=false)->false=G)∧((a=true)->lS m E G))∧((E.Ref=0)->lS m E G)):ry E G:=by
 refine⟨I,I,?_⟩;refine qA 135 [] func78 λK J=>?_;refine gR 3 rfl<|gFP 0 rfl rfl rfl rfl<|gR 10 rfl<|qBhZ 8 7 rfl rfl rfl rfl h ig eP ?_ ?_<;>intro h;refine gR 2 I ?_;obtain⟨a,b,h⟩:=h;refine qC0 b rfl<|gR 4 rfl<|qBh 13 rfl rfl rfl h bz bx ?_ ?_<;>intro h;refine gR 8 I ?_;subst h;exact qN [.tmp 2];exact gR 3 I<|qJ J (h K J) [];exact gR 10 I<|qJ J (h K J) []
theorem Bw(m:Nat)(E:ak)(J:Bool)(h:∃a,ny E.Text a∧y9 E.Ref 0 (qe m E a (!E.Flag) J) (qe m E a false J)):lS (m+1) E J:=by
 intro K G;refine gR 4 I ?_;obtain⟨a,b,h⟩:=h;refine qC0 b rfl<|gR 9 rfl<|qBeZ 20 19 rfl rfl rfl rfl h ?_ ?_<;>intro h;exact gR 7 I<|qJ G (h K G) [];exact gR 7 I<|qJ G (h K G) []
theorem uA(m:Nat)(E:ak)(a:Int)(b J:Bool)(h:y9 E.N 5 (cp m E a b true J)<|vm m E a b J):qe (m+1) E a b J:=by
 intro K G;refine gR 15 rfl<|qBeZ 27 28 rfl rfl rfl rfl h ?_ ?_<;>intro h;exact gR 3 I<|qJ G (h K G) [];exact gR 1 I<|qJ G (h K G) []
theorem uH(m:Nat)(J:ak)(c:Int)(a b G:Bool)(h:y7 b (y7 a ((J.Text==[])=G)<|false=G)<|vq m J c a G):cp (m+1) J c a b G:=by
 intro K U;refine qBi 27 rfl rfl rfl h ?_ ?_<;>intro h;refine gR 5 rfl<|gB 39 rfl rfl rfl ?_ ?_<;>intro E;refine gT 4 I E I ?_;refine gT 38 I E I ?_;replace h:=h.1 E;refine gR 10 I ?_;subst h;exact qN [.tmp 2];refine gF 4 I E I ?_;refine gF 38 I E I ?_;replace h:=h.2 E;refine gR 10 I ?_;subst h;exact qN [.tmp 2];exact gR 1 I<|qJ U (h K U) []
theorem tY(m:Nat)(E:ak)(a:Int)(b J:Bool)(h:y9 E.N 6 (cp m E a b true J)<|vX m E a b J):vm (m+1) E a b J:=by
 intro K G;refine gR 6 rfl<|qBeZ 27 29 rfl rfl rfl rfl h ?_ ?_<;>intro h;exact gR 3 I<|qJ G (h K G) [];exact gR 1 I<|qJ G (h K G) []
theorem uN(m:Nat)(E:ak)(a:Int)(b J:Bool)(h:y9 E.N 7 (cp m E a b true J)<|vW m E a b J):vX (m+1) E a b J:=by
 intro K G;refine gR 6 rfl<|qBeZ 27 30 rfl rfl rfl rfl h ?_ ?_<;>intro h;exact gR 3 I<|qJ G (h K G) [];exact gR 1 I<|qJ G (h K G) []
theorem uR(m:Nat)(E:ak)(a:Int)(b J:Bool)(h:y9 E.N 8 (cp m E a b true J)<|vY m E a b J):vW (m+1) E a b J:=by
 intro K G;refine gR 6 rfl<|qBeZ 27 31 rfl rfl rfl rfl h ?_ ?_<;>intro h;exact gR 3 I<|qJ G (h K G) [];exact gR 1 I<|qJ G (h K G) []
theorem uq(m:Nat)(E:ak)(a:Int)(b J:Bool)(h:y9 E.N 13 (cp m E a b true J)<|wq m E a b J):vY (m+1) E a b J:=by
 intro K G;refine gR 6 rfl<|qBeZ 27 32 rfl rfl rfl rfl h ?_ ?_<;>intro h;exact gR 3 I<|qJ G (h K G) [];exact gR 1 I<|qJ G (h K G) []
theorem uO(m:Nat)(E:ak)(a:Int)(b J:Bool)(h:y9 E.N 14 (cp m E a b true J)<|vZ m E a b J):wq (m+1) E a b J:=by
 intro K G;refine gR 6 rfl<|qBeZ 27 33 rfl rfl rfl rfl h ?_ ?_<;>intro h;exact gR 3 I<|qJ G (h K G) [];exact gR 1 I<|qJ G (h K G) []
theorem uK(m:Nat)(E:ak)(a:Int)(b J:Bool)(h:y9 E.N 15 (cp m E a b true J)<|y9 E.N 18 (cp m E a b true J)<|y9 E.N 19 (cp m E a b true J)<|cp m E a b (E.N==22) J):vZ (m+1) E a b J:=by
 intro K G;refine gR 6 rfl<|qBeZ 27 34 rfl rfl rfl rfl h ?_ ?_<;>intro h;exact gR 3 I<|qJ G (h K G) [];refine gR 7 rfl<|qBeZ 27 35 rfl rfl rfl rfl h ?_ ?_<;>intro h;exact gR 3 I<|qJ G (h K G) [];refine gR 7 rfl<|qBeZ 27 36 rfl rfl rfl rfl h ?_ ?_<;>intro h;exact gR 3 I<|qJ G (h K G) [];exact gR 6 I<|qJ G (h K G) []
theorem uI(m:Nat)(J:ak)(b:Int)(a G:Bool)(h:y9 J.N 10 (y7 a ((b==5)=G)<|false=G)<|uz m J b a G):vq (m+1) J b a G:=by
 intro K U;refine gR 6 rfl<|qBeZ 44 45 rfl rfl rfl rfl h ?_ ?_<;>intro h;refine gR 5 rfl<|gB 47 rfl rfl rfl ?_ ?_<;>intro E;refine gT 4 I E I ?_;refine gT 46 I E I ?_;replace h:=h.1 E;refine gR 9 I ?_;subst h;exact qN [.tmp 2];refine gF 4 I E I ?_;refine gF 46 I E I ?_;replace h:=h.2 E;refine gR 9 I ?_;subst h;exact qN [.tmp 2];exact gR 1 I<|qJ U (h K U) []
theorem so(m:Nat)(J:ak)(b:Int)(a G:Bool)(h:y9 J.N 11 (y7 a ((b==6)=G)<|false=G)<|tU m J b a G):uz (m+1) J b a G:=by
 intro K U;refine gR 6 rfl<|qBeZ 51 52 rfl rfl rfl rfl h ?_ ?_<;>intro h;refine gR 5 rfl<|gB 54 rfl rfl rfl ?_ ?_<;>intro E;refine gT 4 I E I ?_;refine gT 53 I E I ?_;replace h:=h.1 E;refine gR 9 I ?_;subst h;exact qN [.tmp 2];refine gF 4 I E I ?_;refine gF 53 I E I ?_;replace h:=h.2 E;refine gR 9 I ?_;subst h;exact qN [.tmp 2];exact gR 1 I<|qJ U (h K U) []
theorem sW(m:Nat)(J:ak)(b:Int)(a G:Bool)(h:y9 J.N 20 (y7 a ((b==1)=G)<|false=G)<|uh m J b a G):tU (m+1) J b a G:=by
 intro K U;refine gR 6 rfl<|qBeZ 58 59 rfl rfl rfl rfl h ?_ ?_<;>intro h;refine gR 5 rfl<|gB 61 rfl rfl rfl ?_ ?_<;>intro E;refine gT 4 I E I ?_;refine gT 60 I E I ?_;replace h:=h.1 E;refine gR 9 I ?_;subst h;exact qN [.tmp 2];refine gF 4 I E I ?_;refine gF 60 I E I ?_;replace h:=h.2 E;refine gR 9 I ?_;subst h;exact qN [.tmp 2];exact gR 1 I<|qJ U (h K U) []
theorem sI(m:Nat)(G:ak)(c:Int)(b J:Bool)(h:y9 G.N 21 (y7 b (∃a,nU G.Text a∧a=J)<|false=J)<|ul m G c b J):uh (m+1) G c b J:=by
 intro K U;refine gR 6 rfl<|qBeZ 65 66 rfl rfl rfl rfl h ?_ ?_<;>intro h;refine gR 5 rfl<|gB 68 rfl rfl rfl ?_ ?_<;>intro E;refine gT 4 I E I ?_;refine gT 67 I E I ?_;replace h:=h.1 E;refine gR 2 I ?_;obtain⟨a,d,h⟩:=h;refine qC0 d I<|gR 7 I ?_;subst h;exact qN [.tmp 2];refine gF 4 I E I ?_;refine gF 67 I E I ?_;replace h:=h.2 E;refine gR 10 I ?_;subst h;exact qN [.tmp 2];exact gR 1 I<|qJ U (h K U) []
theorem sM(m:Nat)(E:ak)(a:Int)(b G:Bool)(h:y9 E.N 17 (y8 E.Flag ((E.Text==[])=G)<|false=G)<|ug m E a b G):ul (m+1) E a b G:=by
 intro K J;refine gR 6 rfl<|qBeZ 73 74 rfl rfl rfl rfl h ?_ ?_<;>intro h;refine gR 7 rfl<|qBhZ 78 77 rfl rfl rfl rfl h bz bx ?_ ?_<;>intro h;refine gR 10 I ?_;subst h;exact qN [.tmp 2];refine gR 10 I ?_;subst h;exact qN [.tmp 2];exact gR 1 I<|qJ J (h K J) []
theorem sG(m:Nat)(E:ak)(a:Int)(b J:Bool)(h:y9 E.N 12 (uQ m E a b J)<|tM m E a b J):ug (m+1) E a b J:=by
 intro K G;refine gR 6 rfl<|qBeZ 83 84 rfl rfl rfl rfl h ?_ ?_<;>intro h;exact gR 1 I<|qJ G (h K G) [];exact gR 1 I<|qJ G (h K G) []
theorem sO(m:Nat)(J:ak)(b:Int)(a G:Bool)(h:q3a J.Ref 0 (y8 J.Flag ((J.Text==[])=G)<|false=G)<|y7 a ((b==1)=G)<|false=G):uQ (m+1) J b a G:=by
 intro K U;refine gR 8 rfl<|qBh 87 rfl rfl rfl h ig eP ?_ ?_<;>intro h;refine gR 7 rfl<|qBhZ 91 90 rfl rfl rfl rfl h bz bx ?_ ?_<;>intro h;refine gR 11 I ?_;subst h;exact qN [.tmp 2];refine gR 11 I ?_;subst h;exact qN [.tmp 2];refine gR 7 rfl<|gB 97 rfl rfl rfl ?_ ?_<;>intro E;refine gT 4 I E I ?_;refine gT 96 I E I ?_;replace h:=h.1 E;refine gR 9 I ?_;subst h;exact qN [.tmp 2];refine gF 4 I E I ?_;refine gF 96 I E I ?_;replace h:=h.2 E;refine gR 9 I ?_;subst h;exact qN [.tmp 2]
theorem tq(m:Nat)(E:ak)(a:Int)(b J:Bool)(h:y9 E.N 16 (uF m E a b J)<|uf m E a b J):tM (m+1) E a b J:=by
 intro K G;refine gR 6 rfl<|qBeZ 101 102 rfl rfl rfl rfl h ?_ ?_<;>intro h;exact gR 1 I<|qJ G (h K G) [];exact gR 1 I<|qJ G (h K G) []
theorem sn(m:Nat)(J:ak)(a:Int)(b G:Bool)(h:q3a J.Ref 0 ((J.Text==[])=G)<|y7 b (y9 a 1 (true=G)<|(a==3)=G)<|false=G):uF (m+1) J a b G:=by
 intro K U;refine gR 8 rfl<|qBh 105 rfl rfl rfl h ig eP ?_ ?_<;>intro h;refine gR 13 I ?_;subst h;exact qN [.tmp 2];refine gR 7 rfl<|gB 110 rfl rfl rfl ?_ ?_<;>intro E;refine gT 4 I E I ?_;refine gT 109 I E I ?_;replace h:=h.1 E;refine gR 3 rfl<|qBeZ 113 112 rfl rfl rfl rfl h ?_ ?_<;>intro h;refine gR 10 I ?_;subst h;exact qN [.tmp 2];refine gR 10 I ?_;subst h;exact qN [.tmp 2];refine gF 4 I E I ?_;refine gF 109 I E I ?_;replace h:=h.2 E;refine gR 13 I ?_;subst h;exact qN [.tmp 2]
theorem tf(m:Nat)(E:ak)(a:Int)(b G:Bool)(h:y9 E.N 9 (ur m E a b G)<|false=G):uf (m+1) E a b G:=by
 intro K J;refine gR 6 rfl<|qBeZ 118 119 rfl rfl rfl rfl h ?_ ?_<;>intro h;exact gR 1 I<|qJ J (h K J) [];refine gR 10 I ?_;subst h;exact qN [.tmp 2]
theorem sE(m:Nat)(J:ak)(a:Int)(b G:Bool)(h:q3a J.Ref 0 ((J.Text==[])=G)<|y7 b (y9 a 2 (true=G)<|(a==4)=G)<|false=G):ur (m+1) J a b G:=by
 intro K U;refine gR 8 rfl<|qBh 122 rfl rfl rfl h ig eP ?_ ?_<;>intro h;refine gR 13 I ?_;subst h;exact qN [.tmp 2];refine gR 7 rfl<|gB 127 rfl rfl rfl ?_ ?_<;>intro E;refine gT 4 I E I ?_;refine gT 126 I E I ?_;replace h:=h.1 E;refine gR 3 rfl<|qBeZ 130 129 rfl rfl rfl rfl h ?_ ?_<;>intro h;refine gR 10 I ?_;subst h;exact qN [.tmp 2];refine gR 10 I ?_;subst h;exact qN [.tmp 2];refine gF 4 I E I ?_;refine gF 126 I E I ?_;replace h:=h.2 E;refine gR 13 I ?_;subst h;exact qN [.tmp 2]
theorem rS_model_Fits(m:Nat)(J U:Int)(E:ak)(G:Bool)(h:((E.N=0∧E.Flag=false∧E.Text=[]∧E.Ref=0)->true=G)∧((¬(E.N=0∧E.Flag=false∧E.Text=[]∧E.Ref=0))->((J<1)->false=G)∧((¬J<1)->((5<J)->false=G)∧((¬5<J)->((U=1)->(ds E.N E.Flag E.Text E.Ref J false [] 0)=G)∧((U≠1)->((U=2)->∃a,sq J E a∧a=G)∧((U≠2)->((U=3)->∃b,th J E b∧b=G)∧((U≠3)->((U=4)->((J=5)->∃c,ry E c∧c=G)∧((J≠5)->false=G))∧((U≠4)->((U<8)->false=G)∧((¬U<8)->((48<=U)->false=G)∧((¬48<=U)->((J=1)->((E.N=0∧E.Flag=false∧E.Text=E.Text∧E.Ref=0)->∃d,lQ E.Text (U==10) d∧d=G)∧((¬(E.N=0∧E.Flag=false∧E.Text=E.Text∧E.Ref=0))->false=G))∧((J≠1)->((E.N=0∧E.Flag=false∧E.Text=E.Text∧E.Ref=0)->∃e,lQ E.Text false e∧e=G)∧((¬(E.N=0∧E.Flag=false∧E.Text=E.Text∧E.Ref=0))->false=G)))))))))))):py J U E G:=by
 refine⟨I,I,?_⟩;refine qA 65 [] func44 λK Z=>?_;refine gR 3 rfl<|gFP 0 rfl rfl rfl rfl<|gR 8 rfl<|gY (v:=.bool<|ds E.N E.Flag E.Text E.Ref 0 false [] 0) (sD (neg:=false) (r:=(ds E.N E.Flag E.Text E.Ref 0 false [] 0)) (by kernel_rfl) rfl rfl rfl rfl<|lA underlying42 (by kernel_rfl) (by decide) ⟨rfl,rfl,rfl,rfl⟩ underlying3 underlying4 underlying9 underlying3 _ _ _ _ _ _ _ _) rfl rfl<|gR 2 rfl<|qBh 10 rfl rfl rfl h qX qU ?_ ?_<;>intro h;refine gR 8 I ?_;subst h;exact qN [.tmp 6];refine gR 9 rfl<|qBdZ 13 12 rfl rfl rfl rfl h ?_ ?_<;>intro h;refine gR 13 I ?_;subst h;exact qN [.tmp 6];refine gR 5 rfl<|qBd 16 rfl rfl rfl h ?_ ?_<;>intro h;refine gR 8 I ?_;subst h;exact qN [.tmp 6];refine gR 16 rfl<|qBeZ 18 19 rfl rfl rfl rfl h ?_ ?_<;>intro h;refine gR 6 rfl<|gY (v:=.bool<|ds E.N E.Flag E.Text E.Ref J false [] 0) (sD (neg:=false) (r:=(ds E.N E.Flag E.Text E.Ref J false [] 0)) (by kernel_rfl) rfl rfl rfl rfl<|lA underlying42 (by kernel_rfl) (by decide) ⟨rfl,rfl,rfl,rfl⟩ underlying3 underlying4 underlying9 underlying3 _ _ _ _ _ _ _ _) rfl rfl<|gR 6 rfl ?_;subst h;exact qN [.tmp 6];refine gR 7 rfl<|qBeZ 24 25 rfl rfl rfl rfl h ?_ ?_<;>intro h;refine gR 5 I ?_;obtain⟨a,g,h⟩:=h;refine qC0 g I<|gR 6 I ?_;subst h;exact qN [.tmp 6];refine gR 7 rfl<|qBeZ 29 30 rfl rfl rfl rfl h ?_ ?_<;>intro h;refine gR 5 I ?_;obtain⟨b,i,h⟩:=h;refine qC0 i I<|gR 6 I ?_;subst h;exact qN [.tmp 6];refine gR 7 rfl<|qBeZ 34 35 rfl rfl rfl rfl h ?_ ?_<;>intro h;refine gR 6 rfl<|qBeZ 38 37 rfl rfl rfl rfl h ?_ ?_<;>intro h;refine gR 1 I ?_;obtain⟨c,j,h⟩:=h;refine qC0 j I<|gR 7 I ?_;subst h;exact qN [.tmp 6];refine gR 9 I ?_;subst h;exact qN [.tmp 6];refine gR 10 rfl<|qBdZ 44 43 rfl rfl rfl rfl h ?_ ?_<;>intro h;refine gR 13 I ?_;subst h;exact qN [.tmp 6];refine gR 5 rfl<|qBd 47 rfl rfl rfl h ?_ ?_<;>intro h;refine gR 8 I ?_;subst h;exact qN [.tmp 6];refine gR 8 rfl<|qBeZ 50 49 rfl rfl rfl rfl h ?_ ?_<;>intro h;refine gR 12 rfl<|gY (v:=.bool<|ds E.N E.Flag E.Text E.Ref 0 false E.Text 0) (sD (neg:=false) (r:=(ds E.N E.Flag E.Text E.Ref 0 false E.Text 0)) (by kernel_rfl) rfl rfl rfl rfl<|lA underlying42 (by kernel_rfl) (by decide) ⟨rfl,rfl,rfl,rfl⟩ underlying3 underlying4 underlying9 underlying3 _ _ _ _ _ _ _ _) rfl rfl<|gR 1 rfl<|qBhZ 59 58 rfl rfl rfl rfl h qX qU ?_ ?_<;>intro h;refine gR 3 I ?_;obtain⟨d,k,h⟩:=h;refine qC0 k I<|gR 5 I ?_;subst h;exact qN [.tmp 6];refine gR 9 I ?_;subst h;exact qN [.tmp 6];refine gR 12 rfl<|gY (v:=.bool<|ds E.N E.Flag E.Text E.Ref 0 false E.Text 0) (sD (neg:=false) (r:=(ds E.N E.Flag E.Text E.Ref 0 false E.Text 0)) (by kernel_rfl) rfl rfl rfl rfl<|lA underlying42 (by kernel_rfl) (by decide) ⟨rfl,rfl,rfl,rfl⟩ underlying3 underlying4 underlying9 underlying3 _ _ _ _ _ _ _ _) rfl rfl<|gR 1 rfl<|qBhZ 59 58 rfl rfl rfl rfl h qX qU ?_ ?_<;>intro h;refine gR 3 I ?_;obtain⟨e,f,h⟩:=h;refine qC0 f I<|gR 5 I ?_;subst h;exact qN [.tmp 6];refine gR 9 I ?_;subst h;exact qN [.tmp 6]
def jq(m:Nat)(E:aJ)(a:(List<|Int×Int))(b:Nat)(G:(List<|Int×Int)):Prop:=z8 m [] f40 (z7 (.sl 0) ⟨1,[(0,.mp 3 3 (List.map (λp=>(V.int .i64) p.1) G)<|List.map (λp=>(V.int .i64) p.2) G)]⟩) (xI<|xA<|ab f40) [.blk 0,.seq<|xH<|ab f40] 25 [(3,.sl 0),(8,.row 6<|List.map aj.w E.Cells),(9,qi (E.Cells.length:Int)),(10,qi (b:Int))] ⟨1,[(0,.mp 3 3 (List.map (λp=>(V.int .i64) p.1) a)<|List.map (λp=>(V.int .i64) p.2) a)]⟩
theorem BS(m:Nat)(p0:aJ)(r0:(List<|Int×Int))(h:jq m p0 ([]:(List<|Int×Int)) 0 r0):nF p0 r0:=by
 refine qA 25 [] func40 λK hK=>?_;exact gR 3 I<|gFP 0 I I I I<|gY (yMn) I I<|gR 4 I<|gDo (.new<|.mp 3 3 [] []) (dMM 3 3) trivial I I I<|gHM 1 (List.map (λp=>(V.int .i64) p.1) ([]:(List<|Int×Int))) (List.map (λp=>(V.int .i64) p.2) ([]:(List<|Int×Int))) I I I I<|gR 9 I<|gV 9 (qi (p0.Cells.length:Int)) I (aN<|az aj.w _) I<|gLB 8 I (az aj.w _) λa=>gR 4 I<|go_loop m<|qW hK h [1]
theorem uk(m:Nat)(E:aJ)(c:(List<|Int×Int))(b:Nat)(G:(List<|Int×Int))(h:y6 (b<E.Cells.length) (∃a,E.Cells[b]?=some a∧y9 a.Field 1 (b+1<=9223372036854775807∧jq m E (aR a.Id a.V_.N c) (b+1) G) (b+1<=9223372036854775807∧jq m E c (b+1) G))<|c=G):jq (m+1) E c b G:=by
 refine qj λK Z J g=>?_;refine gR 6 rfl<|qXh 11 rfl rfl rfl h bQ bS ?_ ?_<;>intro U h;refine gR 7 I ?_;obtain⟨a,e,h⟩:=h;refine gY (ax (av (f:=aj.w) e) ac rfl rfl rfl rfl) rfl rfl<|gR 12 rfl<|qXe 16 rfl rfl rfl h ?_ ?_<;>intro U h;refine gR 8 I<|gDo (.set 0<|.mp 3 3 (List.map (λp=>(V.int .i64) p.1)<|aR a.Id a.V_.N c)<|List.map (λp=>(V.int .i64) p.2)<|aR a.Id a.V_.N c) (pj bh (encV:=(V.int .i64)) (k:=a.Id) (d:=a.V_.N) (l:=c) underlying79 I I I I I I I I) (okM I) I I I<|gR 4 I ?_;obtain⟨hb,h⟩:=h;exact gR 1 I<|gV 23 (qi ((b+1:Nat):Int)) I (am (by omega)<|by omega) I<|gR 2 I<|go_xloop<|qW J h [0];refine gR 5 I ?_;obtain⟨hb,h⟩:=h;exact gR 1 I<|gV 23 (qi ((b+1:Nat):Int)) I (am (by omega)<|by omega) I<|gR 2 I<|go_xloop<|qW J h [0];refine gR 3 I<|go_xloopE<|gR 9 I ?_;subst h;exact gE J [] [(2,.sl 0)] [0] [.tmp 2]
def dn(m:Nat)(E:aJ)(a:(List<|Int×Int))(b:(List<|Int×Bool))(c:Nat)(G:Bool):Prop:=z8 m [] f17 (z6<|.bool G) (xL<|ab f17) [.blk 0,.seq<|xD<|cB<|ab f17] 55 [(3,.sl 0),(4,.sl 1),(15,.row 6<|List.map aj.w E.Cells),(16,qi (E.Cells.length:Int)),(17,qi (c:Int))] ⟨2,[(1,.mp 3 4 (List.map (λp=>(V.int .i64) p.1) b)<|List.map (λp=>V.bool p.2) b),(0,.mp 3 3 (List.map (λp=>(V.int .i64) p.1) a)<|List.map (λp=>(V.int .i64) p.2) a)]⟩
theorem BV(m:Nat)(p0:aJ)(r0:Bool)(h:∃a,nD p0.Cells a∧((a=false)->false=r0)∧((a=true)->∃b,nF p0 b∧dn m p0 b ([]:(List<|Int×Bool)) 0 r0)):di p0 r0:=by
 refine⟨I,I,?_⟩;refine qA 55 [] func17 λK hK=>?_;refine gR 3 I<|gFP 0 I I I I<|gR 8 I ?_;obtain⟨a,c,h⟩:=h;refine qC0 c rfl<|gR 3 rfl<|qXh 10 rfl rfl rfl h bz bx ?_ ?_<;>intro hd h;refine gR 8 I ?_;subst h;exact qN [.tmp 2];refine gR 6 I ?_;obtain⟨b,d,h⟩:=h;refine qC d [] ?_;exact gR 5 I<|gDo (.new<|.mp 3 4 [] []) (dMM 3 4) trivial I I I<|gHM 2 (List.map (λp=>(V.int .i64) p.1) ([]:(List<|Int×Bool))) (List.map (λp=>V.bool p.2) ([]:(List<|Int×Bool))) I I I I<|gR 9 I<|gV 16 (qi (p0.Cells.length:Int)) I (aN<|az aj.w _) I<|gLB 15 I (az aj.w _) λe=>gR 4 I<|go_loop m<|qW hK h [1,2]
theorem uM(m:Nat)(G:aJ)(e:(List<|Int×Int))(c:(List<|Int×Bool))(b:Nat)(E:Bool)(h:y6 (b<G.Cells.length) (∃a,G.Cells[b]?=some a∧((aC a.Id e=none)->false=E)∧(∀(g:Int),aC a.Id e=some g->y9 g 0 (false=E) (((aC a.Id e=none)->∃j,py 0 a.Field a.V_ j∧y8 j (false=E) (y9 a.Field 3 (b+1<=9223372036854775807∧dn m G e (aR a.Id true c) (b+1) E)<|y9 a.Field 4 (b+1<=9223372036854775807∧dn m G e (aR a.Id true c) (b+1) E)<|b+1<=9223372036854775807∧dn m G e c (b+1) E))∧(∀(i:Int),aC a.Id e=some i->∃n,py i a.Field a.V_ n∧y8 n (false=E) (y9 a.Field 3 (b+1<=9223372036854775807∧dn m G e (aR a.Id true c) (b+1) E)<|y9 a.Field 4 (b+1<=9223372036854775807∧dn m G e (aR a.Id true c) (b+1) E)<|b+1<=9223372036854775807∧dn m G e c (b+1) E)))))<|((c.length:Int)==(e.length:Int))=E):dn (m+1) G e c b E:=by
 refine qj λK Z U x=>?_;refine gR 6 rfl<|qXh 18 rfl rfl rfl h bQ bS ?_ ?_<;>intro J h;refine gR 7 I ?_;obtain⟨a,r,h⟩:=h;refine gY (ax (av (f:=aj.w) r) ac I I I I) I I<|gR 11 I ?_;rcases o:aC a.Id e with _|g
 replace h:=h.1 o;refine gDo (v:=some<|qi 0) (.nop) (od bh (encV:=(V.int .i64)) (k:=a.Id) (l:=e) (zv:=qi 0) o underlying79 zeroValue3 (by kernel_rfl) I I I I) trivial I I I<|gR 25 I<|go_xloopR<|gR 2 I ?_;subst h;exact qN [.tmp 2];replace h:=h.2 g o;refine gDo (v:=some<|qi g) (.nop) (nX bh (encV:=(V.int .i64)) (k:=a.Id) (l:=e) (zv:=qi 0) o underlying79 zeroValue3 (by kernel_rfl) rfl rfl rfl rfl) trivial rfl rfl rfl<|gR 2 rfl<|qXeZ 26 25 rfl rfl rfl rfl h ?_ ?_<;>intro J h;refine gR 23 I<|go_xloopR<|gR 2 I ?_;subst h;exact qN [.tmp 2];refine gR 3 I ?_;rcases q:aC a.Id e with _|i
 replace h:=h.1 q;refine gDo (v:=some<|qi 0) (.nop) (od bh (encV:=(V.int .i64)) (k:=a.Id) (l:=e) (zv:=qi 0) q underlying79 zeroValue3 (by kernel_rfl) I I I I) trivial I I I<|gR 4 I ?_;obtain⟨j,s,h⟩:=h;refine qC0 s rfl<|gR 4 rfl<|qXh 37 rfl rfl rfl h bz bx ?_ ?_<;>intro J h;refine gR 10 I<|go_xloopR<|gR 2 I ?_;subst h;exact qN [.tmp 2];refine gR 9 rfl<|qXeZ 41 40 rfl rfl rfl rfl h ?_ ?_<;>intro J h;refine gR 11 I<|gDo (.set 1<|.mp 3 4 (List.map (λp=>(V.int .i64) p.1)<|aR a.Id true c)<|List.map (λp=>V.bool p.2)<|aR a.Id true c) (pj bh (encV:=V.bool) (k:=a.Id) (d:=true) (l:=c) underlying82 I I I I I I I I) (okM I) I I I<|gR 4 I ?_;obtain⟨hb,h⟩:=h;exact gR 1 I<|gV 49 (qi ((b+1:Nat):Int)) I (am (by omega)<|by omega) I<|gR 2 I<|go_xloop<|qW U h [0,1];refine gR 6 rfl<|qXe 45 rfl rfl rfl h ?_ ?_<;>intro J h;refine gR 5 I<|gDo (.set 1<|.mp 3 4 (List.map (λp=>(V.int .i64) p.1)<|aR a.Id true c)<|List.map (λp=>V.bool p.2)<|aR a.Id true c) (pj bh (encV:=V.bool) (k:=a.Id) (d:=true) (l:=c) underlying82 I I I I I I I I) (okM I) I I I<|gR 4 I ?_;obtain⟨hb,h⟩:=h;exact gR 1 I<|gV 49 (qi ((b+1:Nat):Int)) I (am (by omega)<|by omega) I<|gR 2 I<|go_xloop<|qW U h [0,1];refine gR 5 I ?_;obtain⟨hb,h⟩:=h;exact gR 1 I<|gV 49 (qi ((b+1:Nat):Int)) I (am (by omega)<|by omega) I<|gR 2 I<|go_xloop<|qW U h [0,1];replace h:=h.2 i q;refine gDo (v:=some<|qi i) (.nop) (nX bh (encV:=(V.int .i64)) (k:=a.Id) (l:=e) (zv:=qi 0) q underlying79 zeroValue3 (by kernel_rfl) I I I I) trivial I I I<|gR 4 I ?_;obtain⟨n,t,h⟩:=h;refine qC0 t rfl<|gR 4 rfl<|qXh 37 rfl rfl rfl h bz bx ?_ ?_<;>intro J h;refine gR 10 I<|go_xloopR<|gR 2 I ?_;subst h;exact qN [.tmp 2];refine gR 9 rfl<|qXeZ 41 40 rfl rfl rfl rfl h ?_ ?_<;>intro J h;refine gR 11 I<|gDo (.set 1<|.mp 3 4 (List.map (λp=>(V.int .i64) p.1)<|aR a.Id true c)<|List.map (λp=>V.bool p.2)<|aR a.Id true c) (pj bh (encV:=V.bool) (k:=a.Id) (d:=true) (l:=c) underlying82 I I I I I I I I) (okM I) I I I<|gR 4 I ?_;obtain⟨hb,h⟩:=h;exact gR 1 I<|gV 49 (qi ((b+1:Nat):Int)) I (am (by omega)<|by omega) I<|gR 2 I<|go_xloop<|qW U h [0,1];refine gR 6 rfl<|qXe 45 rfl rfl rfl h ?_ ?_<;>intro J h;refine gR 5 I<|gDo (.set 1<|.mp 3 4 (List.map (λp=>(V.int .i64) p.1)<|aR a.Id true c)<|List.map (λp=>V.bool p.2)<|aR a.Id true c) (pj bh (encV:=V.bool) (k:=a.Id) (d:=true) (l:=c) underlying82 I I I I I I I I) (okM I) I I I<|gR 4 I ?_;obtain⟨hb,h⟩:=h;exact gR 1 I<|gV 49 (qi ((b+1:Nat):Int)) I (am (by omega)<|by omega) I<|gR 2 I<|go_xloop<|qW U h [0,1];refine gR 5 I ?_;obtain⟨hb,h⟩:=h;exact gR 1 I<|gV 49 (qi ((b+1:Nat):Int)) I (am (by omega)<|by omega) I<|gR 2 I<|go_xloop<|qW U h [0,1];refine gR 3 I<|go_xloopE<|gR 5 I<|gDo (.nop) (QN underlying82 I I<|by rw[aam]) trivial I I I<|gR 1 I<|gDo (.nop) (QN underlying79 I I<|by rw[aam]) trivial I I I<|gR 5 I ?_;subst h;exact qN [.tmp 2]
def cD(m:Nat)(E:aJ)(a:(List<|Int×Int))(b:Nat)(c G:YI):Prop:=z8 m [] f15 (z6<|.row 1<|List.map (V.int .i64) G) (xL<|ab f15) [.blk 0,.seq<|xD<|cB<|ab f15] 42 [(3,.sl 0),(4,.sl 1),(13,.row 6<|List.map aj.w E.Cells),(14,qi (E.Cells.length:Int)),(15,qi (b:Int))] ⟨2,[(1,.row 3 1<|List.map (V.int .i64) c),(0,.mp 3 3 (List.map (λp=>(V.int .i64) p.1) a)<|List.map (λp=>(V.int .i64) p.2) a)]⟩
theorem zQ(m:Nat)(p0:aJ)(r0:YI)(h:∃a,di p0 a∧((a=false)->[]=r0)∧((a=true)->∃b,nF p0 b∧cD m p0 b 0 ([]:YI) r0)):kY p0 r0:=by
 refine⟨I,I,?_⟩;refine qA 42 [] func15 λK hK=>?_;refine gR 3 I<|gFP 0 I I I I<|gR 7 I ?_;obtain⟨a,d,h⟩:=h;refine qC0 d rfl<|gR 3 rfl<|qXh 9 rfl rfl rfl h bz bx ?_ ?_<;>intro hd h;refine gR 8 I ?_;subst h;exact go_sub (F':=(mkF 42 0 [(2,.row 1<|List.map (V.int .i64) [])])) (H':=⟨0,[]⟩) [] [] I hK ⟨⟨_,I,(.nil 1)⟩,trivial⟩ trivial I<|qN [.tmp 2];refine gR 6 I ?_;obtain⟨b,c,h⟩:=h;refine qC c [] ?_;exact gR 14 I<|gV 14 (qi (p0.Cells.length:Int)) I (aN<|az aj.w _) I<|gLB 13 I (az aj.w _) λe=>gR 4 I<|go_loop m<|gNS 4 3 1 I I I I<|qW hK h [1,2]
theorem rG(m:Nat)(E:aJ)(c:(List<|Int×Int))(a:Nat)(d G:YI)(h:y6 (a<E.Cells.length) (∃b,E.Cells[a]?=some b∧y9 b.Field 2 (((aC b.Id c=none)->a+1<=9223372036854775807∧cD m E c (a+1) d G)∧(∀(e:Int),aC b.Id c=some e->y9 e 1 (y9 b.V_.N 1 ((d++[b.Id]).length<=1000000000∧a+1<=9223372036854775807∧cD m E c (a+1) (d++[b.Id]) G)<|a+1<=9223372036854775807∧cD m E c (a+1) d G) (a+1<=9223372036854775807∧cD m E c (a+1) d G))) (a+1<=9223372036854775807∧cD m E c (a+1) d G))<|d=G):cD (m+1) E c a d G:=by
 refine qj λK Z J j=>?_;refine gR 6 rfl<|qXh 16 rfl rfl rfl h bQ bS ?_ ?_<;>intro U h;refine gR 7 I ?_;obtain⟨b,i,h⟩:=h;refine gY (ax (av (f:=aj.w) i) ac rfl rfl rfl rfl) rfl rfl<|gR 11 rfl<|qXeZ 22 21 rfl rfl rfl rfl h ?_ ?_<;>intro U h;refine gR 3 I ?_;rcases g:aC b.Id c with _|e
 replace h:=h.1 g;refine gDo (v:=some<|qi 0) (.nop) (od bh (encV:=(V.int .i64)) (k:=b.Id) (l:=c) (zv:=qi 0) g underlying79 zeroValue3 (by kernel_rfl) I I I I) trivial I I I<|gR 15 I ?_;obtain⟨hb,h⟩:=h;exact gR 1 I<|gV 40 (qi ((a+1:Nat):Int)) I (am (by omega)<|by omega) I<|gR 2 I<|go_xloop<|qW J h [0,1];replace h:=h.2 e g;refine gDo (v:=some<|qi e) (.nop) (nX bh (encV:=(V.int .i64)) (k:=b.Id) (l:=c) (zv:=qi 0) g underlying79 zeroValue3 (by kernel_rfl) rfl rfl rfl rfl) trivial rfl rfl rfl<|gR 3 rfl<|qXeZ 29 28 rfl rfl rfl rfl h ?_ ?_<;>intro U h;refine gR 7 rfl<|qXe 34 rfl rfl rfl h ?_ ?_<;>intro U h;refine gR 6 I ?_;obtain⟨hb,h⟩:=h;refine gDo (.repl 1<|.row 3 1<|List.map (V.int .i64)<|d++[b.Id]) (bq ac I I I I I (apM (V.int .i64) d b.Id) (by rw[az];exact hb)) (okR I) I I I<|gR 5 I ?_;obtain⟨hb,h⟩:=h;exact gR 1 I<|gV 40 (qi ((a+1:Nat):Int)) I (am (by omega)<|by omega) I<|gR 2 I<|go_xloop<|qW J h [0,4];refine gR 5 I ?_;obtain⟨hb,h⟩:=h;exact gR 1 I<|gV 40 (qi ((a+1:Nat):Int)) I (am (by omega)<|by omega) I<|gR 2 I<|go_xloop<|qW J h [0,1];refine gR 12 I ?_;obtain⟨hb,h⟩:=h;exact gR 1 I<|gV 40 (qi ((a+1:Nat):Int)) I (am (by omega)<|by omega) I<|gR 2 I<|go_xloop<|qW J h [0,1];refine gR 19 I ?_;obtain⟨hb,h⟩:=h;exact gR 1 I<|gV 40 (qi ((a+1:Nat):Int)) I (am (by omega)<|by omega) I<|gR 2 I<|go_xloop<|qW J h [0,1];refine gR 3 I<|go_xloopE<|gR 9 I<|gFR 1 I (eG _ (λ_=>I) _) I I ?_;subst h;exact qN [.tmp 2]
def InS(i:Int):Prop:=1048576<i∧i<2097152
theorem Bz(h:InS i):ii i true:=by
 obtain⟨h1,h2⟩:=h;have hb:tc i=true:=by simp[tc];omega
 have :=Ia i;rw[hb]at this;exact BD 0 _ _ (⟨_,this,λ_=>⟨⟨by omega,by omega⟩,by rw[bne_iff_ne];omega⟩,λh=>by cases h⟩)
theorem yT(x:Int):qH x false:=FF 0 _ _ (by simp)
theorem Lm(h:x<y):kz x y (-1):=wd 0 _ _ _ (⟨_,yT x,_,yT y,λh=>(by cases h),λ_=>⟨λh=>(by cases h),λ_=>⟨λ_=>rfl,λh'=>absurd h h'⟩⟩⟩)
theorem Sb(x:Int):kz x x 0:=wd 0 _ _ _ (⟨_,yT x,_,yT x,λh=>(by cases h),λ_=>⟨λh=>(by cases h),λ_=>⟨λh=>by omega,λ_=>⟨λh=>by omega,λ_=>rfl⟩⟩⟩⟩)
def BZ(x y:aj):Prop:=x.Id<y.Id∨x.Id=y.Id∧x.Field<y.Field
theorem Jt{x y:aj}(h:BZ x y):oV x y (-1):=by
 rcases h with h|⟨h1,h2⟩
 ·exact sx 0 _ _ _ (⟨_,Lm h,λ_=>I,λh=>by omega⟩)
 ·exact sx 0 _ _ _ (⟨_,by rw[h1];exact Sb _,λh=>absurd I h,λ_=>⟨_,Lm h2,I⟩⟩)
theorem MA{l:List aj}(hl:l.length<=1000000000)(hi:∀c∈l,InS c.Id∧1<=c.Field∧c.Field<48)(ho:l.Pairwise BZ):pS l true:=by
 have loop:∀k n,k+n=l.length->iI (k+1) l n true:=λk=>by
  induction k with
  |zero=>intro n hn;exact sK 0 _ _ _ (⟨λh=>by omega,λ_=>rfl⟩)
  | succ k ih=>
   intro n hn;obtain⟨c,hc⟩:∃c,l[n]?=some c:=⟨_,List.getElem?_eq_getElem (by omega)⟩;obtain⟨h1,h2,h3⟩:=hi c (List.mem_of_getElem? hc);refine sK (k+1) _ _ _ (⟨λ_=>⟨c,hc,_,Bz h1,λh=>(by cases h),λ_=>⟨λh=>by omega,λ_=>⟨λh=>by omega,λ_=>⟨λh=>?_,λh=>⟨by omega,ih (n+1)<|by omega⟩⟩⟩⟩⟩,λh=>by omega⟩);obtain⟨m,rfl⟩:∃m,n=m+1:=⟨n-1,by omega⟩;obtain⟨d,hd⟩:∃d,l[m]?=some d:=⟨_,List.getElem?_eq_getElem<|by omega⟩;have hlt:BZ d c:=by
    have :=List.pairwise_iff_getElem.1 ho m (m+1) (by omega) (by omega) (by omega);rw[List.getElem?_eq_getElem<|by omega]at hc hd;injection hc with hc
    injection hd with hd
    rw[hc,hd]at this;exact this
   exact⟨by constructor<;>omega,m,by omega,d,hd,_,Jt hlt,λh=>by omega,λ_=>⟨by omega,ih (m+1+1)<|by omega⟩⟩
 exact Bg _ _ _ (by simpa using loop l.length 0 (by omega))
theorem LW{l:List aj}(hl:l.length<=1000000000)(hi:∀c∈l,InS c.Id∧1<=c.Field∧c.Field<48)(hn:∀c∈l,jY c.V_=false)(ho:l.Pairwise BZ):nD l true:=by
 have loop:∀k n,k+n=l.length->me (k+1) l n true:=λk=>by
  induction k with
  |zero=>intro n G;exact uS 0 _ _ _ (⟨λh=>by omega,λ_=>⟨_,MA hl hi ho,rfl⟩⟩)
  |succ k ih=>
   intro n G;obtain⟨c,E⟩:∃c,l[n]?=some c:=⟨_,List.getElem?_eq_getElem (by omega)⟩;have :=hn c (List.mem_of_getElem? E);rw[jY,aaA]at this;exact uS (k+1) _ _ _ (⟨λ_=>⟨c,E,λh=>absurd h this,λ_=>⟨by omega,ih (n+1)<|by omega⟩⟩,λh=>by omega⟩)
 exact BP _ _ _ (by simpa using loop l.length 0 (by omega))
theorem Qe{l:YB}(h1:1<=l.length)(h2:l.length<=60)(hr:∀c∈l,97<=c.toNat∧c.toNat<=122)(hz:∀c,l[l.length-1]?=some c->c.toNat≠97):gG l true:=by
 have loop:∀k n,k+n=l.length->jg (k+1) l n true:=λk=>by
  induction k with
  |zero=>
   intro n G;obtain⟨c,E⟩:∃c,l[l.length-1]?=some c:=⟨_,List.getElem?_eq_getElem (by omega)⟩;have :=hz c E;exact rh 0 _ _ _ (⟨λh=>by omega,λ_=>⟨by constructor<;>omega,l.length-1,by omega,c,E,by rw[bne_iff_ne];omega⟩⟩)
  |succ k ih=>
   intro n G;obtain⟨c,E⟩:∃c,l[n]?=some c:=⟨_,List.getElem?_eq_getElem (by omega)⟩;have :=hr c (List.mem_of_getElem? E);exact rh (k+1) _ _ _ (⟨λ_=>⟨c,E,λh=>by omega,λ_=>⟨c,E,λh=>by omega,λ_=>⟨by omega,ih (n+1)<|by omega⟩⟩⟩,λh=>by omega⟩)
 exact zn _ _ _ (⟨λh=>by omega,λ_=>⟨λh=>by omega,λ_=>by simpa using loop l.length 0 (by omega)⟩⟩)
theorem Rq{x:YB}(h:wT x=true):nU x true:=by
 refine zx 0 _ _<|?_
 repeat' (refine And.intro (λ_=>?_) λ_=>?_)
 all_goals simp_all[wT]
def DC(v:ak):Prop:=(v.Ref=0∧v.Flag=false∧5<=v.N∧v.N<=22∧nE v.N v.Text=true)∨(InS v.Ref∧v.Text=[]∧((v.Flag=false∧(v.N=12∨v.N=17))∨v.N=16∨v.N=9))
theorem OS{v:ak}(ht:v.Text.length<=281474976710656)(h:DC v):ry v true:=by
 have G:=Cj v.Text ht;obtain⟨n,fl,tx,rf⟩:=v;simp only[DC]at h ht G;have go:lS 20 ⟨n,fl,tx,rf⟩ true:=by
  refine Bw _ _ _<|⟨_,G,?_⟩;rcases h with⟨rfl,rfl,h1,h2,J⟩|⟨E,rfl,h⟩
  ·have hn:n=5∨n=6∨n=7∨n=8∨n=9∨n=10∨n=11∨n=12∨n=13∨n=14∨n=15∨n=16∨n=17∨n=18∨n=19∨n=20∨n=21∨n=22:=by omega
   refine⟨λ_=>?_,λh=>absurd I h⟩;rcases hn with rfl|rfl|rfl|rfl|rfl|rfl|rfl|rfl|rfl|rfl|rfl|rfl|rfl|rfl|rfl|rfl|rfl|rfl
   all_goals simp[nE]at J
   all_goals repeat' first
    |(refine⟨_,Rq J,?_⟩)
    |(simp at hx;done)
    |(refine And.intro (λhx=>?_) λhx=>?_)
    |(refine uA _ _ _ _ _ (?_))
    |(refine uH _ _ _ _ _ _ (?_))
    |(refine tY _ _ _ _ _ (?_))
    |(refine uN _ _ _ _ _ (?_))
    |(refine uR _ _ _ _ _ (?_))
    |(refine uq _ _ _ _ _ (?_))
    |(refine uO _ _ _ _ _ (?_))
    |(refine uK _ _ _ _ _ (?_))
    |(refine uI _ _ _ _ _ (?_))
    |(refine so _ _ _ _ _ (?_))
    |(refine sW _ _ _ _ _ (?_))
    |(refine sI _ _ _ _ _ (?_))
    |(refine sM _ _ _ _ _ (?_))
    |(refine sG _ _ _ _ _ (?_))
    |(refine sO _ _ _ _ _ (?_))
    |(refine tq _ _ _ _ _ (?_))
    |(refine sn _ _ _ _ _ (?_))
    |(refine tf _ _ _ _ _ (?_))
    |(refine sE _ _ _ _ _ (?_))
   all_goals simp_all
  ·have hr:rf≠0:=by obtain⟨a,b⟩:=E;intro e;omega
   refine⟨λh=>absurd h hr,λ_=>?_⟩;have hn:(fl=false∧n=12)∨(fl=false∧n=17)∨n=16∨n=9:=by
    rcases h with⟨a,b|b⟩|b|b
    ·exact .inl ⟨a,b⟩
    ·exact .inr<|.inl ⟨a,b⟩
    ·exact .inr<|.inr<|.inl b
    ·exact .inr<|.inr<|.inr b
   rcases hn with⟨rfl,rfl⟩|⟨rfl,rfl⟩|rfl|rfl
   all_goals repeat' first
    |(simp at hx;done)
    |(refine And.intro (λhx=>?_) λhx=>?_)
    |(refine uA _ _ _ _ _ (?_))
    |(refine uH _ _ _ _ _ _ (?_))
    |(refine tY _ _ _ _ _ (?_))
    |(refine uN _ _ _ _ _ (?_))
    |(refine uR _ _ _ _ _ (?_))
    |(refine uq _ _ _ _ _ (?_))
    |(refine uO _ _ _ _ _ (?_))
    |(refine uK _ _ _ _ _ (?_))
    |(refine uI _ _ _ _ _ (?_))
    |(refine so _ _ _ _ _ (?_))
    |(refine sW _ _ _ _ _ (?_))
    |(refine sI _ _ _ _ _ (?_))
    |(refine sM _ _ _ _ _ (?_))
    |(refine sG _ _ _ _ _ (?_))
    |(refine sO _ _ _ _ _ (?_))
    |(refine tq _ _ _ _ _ (?_))
    |(refine sn _ _ _ _ _ (?_))
    |(refine tf _ _ _ _ _ (?_))
    |(refine sE _ _ _ _ _ (?_))
   all_goals simp_all
 refine BE _ _ _ (⟨λhr=>⟨_,Bz ?_,λh=>(by cases h),λ_=>go⟩,λ_=>go⟩);rcases h with⟨E,_⟩|⟨E,_⟩
 ·exact absurd E hr
 ·exact E
def yp(k:Int)(c:aj):Prop:=py k c.Field c.V_ true
theorem Nu(h1:1<=k)(h2:k<=5):yp k ⟨i,1,⟨k,false,[],0⟩⟩:=
 rS_model_Fits 0 _ _ _ _ (⟨λ_=>rfl,λ_=>⟨λh=>by omega,λ_=>⟨λh=>by omega,λ_=>⟨λ_=>by simp[ds],λh=>absurd rfl h⟩⟩⟩⟩)
theorem LN:yp 1 ⟨i,2,⟨1,false,[],0⟩⟩:=
 rS_model_Fits 0 _ _ _ _ (⟨λ_=>rfl,λ_=>⟨λh=>by omega,λ_=>⟨λh=>by omega,λ_=>⟨λh=>by simp at h,λ_=>⟨λ_=>⟨_,xP 0 _ _ _<|⟨λ_=>rfl,λh=>absurd rfl h⟩,by simp[ds]⟩,λh=>absurd rfl h⟩⟩⟩⟩⟩)
def IA(v:ak):Prop:=v.Flag=false∧InS v.Ref∧((v.N=0∧gG v.Text true)∨(1<=v.N∧v.N<=3∧v.Text=[]))
theorem MB{v:ak}(h1:2<=k)(h2:k<=5)(h:IA v):yp k ⟨i,2,v⟩:=by
 obtain⟨n,fl,tx,rf⟩:=v;obtain⟨e,hr,h⟩:=h;simp only at e hr h;subst e;have E:sq k ⟨n,false,tx,rf⟩ true:=by
  refine xP 0 _ _ _ (⟨λh=>by omega,λ_=>⟨λh=>(by cases h),λ_=>⟨_,Bz hr,λh=>(by cases h),λ_=>?_⟩⟩⟩);rcases h with⟨rfl,hp⟩|⟨a,b,rfl⟩
  ·exact⟨λ_=>⟨_,hp,I⟩,λh=>absurd I h⟩
  ·exact⟨λh=>by simp only at h;omega,λ_=>⟨λ_=>rfl,λ_=>⟨λ_=>rfl,λ_=>⟨λ_=>rfl,λ_=>by simp only at *;omega⟩⟩⟩⟩
 exact rS_model_Fits 0 _ _ _ _ (⟨λ_=>rfl,λ_=>⟨λh=>by omega,λ_=>⟨λh=>by omega,λ_=>⟨λh=>by simp at h,λ_=>⟨λ_=>⟨_,E,rfl⟩,λh=>absurd rfl h⟩⟩⟩⟩⟩)
theorem ME{s:YB}(hs:s.length<=281474976710656)(h:((k=1∨k=3)∧(bj s:Int)=2)∨((k=2∨k=4)∧(bj s:Int)=1)):yp k ⟨i,3,⟨0,false,s,0⟩⟩:=by
 have E:=Cj s hs;have J:th k ⟨0,false,s,0⟩ true:=by
  refine Ds 1 _ _ _<|⟨λh=>absurd ⟨I,I,I,I⟩ h,λ_=>⟨λU=>?_,λU=>?_⟩⟩
  ·refine wi 0 _ _ _ _ (⟨λ_=>⟨_,E,?_⟩,λh=>by cases h⟩);rcases h with⟨_,h⟩|⟨h',_⟩
   ·rw[h];rfl
   ·omega
  ·refine wi 0 _ _ _ _ (⟨λG=>⟨_,E,?_⟩,λG=>⟨λ_=>⟨_,E,?_⟩,λ_=>⟨λ_=>⟨_,E,?_⟩,λ_=>?_⟩⟩⟩)
   ·have :=eq_of_beq G;rcases h with⟨_,h⟩|⟨h',_⟩
    ·rw[h];rfl
    ·omega
   all_goals
    have Z:k≠3:=λe=>by rw[e]at G;cases G
    rcases h with⟨h',_⟩|⟨h',h⟩
    ·omega
    ·first|(rw[h];rfl)|omega
 exact rS_model_Fits 0 _ _ _ _ (⟨λ_=>rfl,λ_=>⟨λh=>by omega,λ_=>⟨λh=>by omega,λ_=>⟨λh=>by simp at h,λ_=>⟨λh=>by simp at h,λ_=>⟨λ_=>⟨_,J,rfl⟩,λh=>absurd rfl h⟩⟩⟩⟩⟩⟩)
theorem Kq{v:ak}(ht:v.Text.length<=281474976710656)(h:DC v):yp 5 ⟨i,4,v⟩:=
 rS_model_Fits 0 _ _ _ _ (⟨λ_=>rfl,λ_=>⟨λh=>by omega,λ_=>⟨λh=>by omega,λ_=>⟨λh=>by simp at h,λ_=>⟨λh=>by simp at h,λ_=>⟨λh=>by simp at h,λ_=>⟨λ_=>⟨λ_=>⟨_,OS ht h,rfl⟩,λh=>absurd rfl h⟩,λh=>absurd rfl h⟩⟩⟩⟩⟩⟩⟩)
theorem Ms{s:YB}(h1:1<=k)(h2:k<=5)(hn:n<40)(hs:s.length<=100000000)(h:cC false s (decide (k=1)&&decide (n=2))=true):yp k ⟨i,((8+n:Nat):Int),⟨0,false,s,0⟩⟩:=by
 have E:=ue s ((((8+n:Nat):Int))==10) (by omega);have G:=ue s false (by omega);refine rS_model_Fits 0 _ _ _ _ (⟨λ_=>rfl,λ_=>⟨λh=>by omega,λ_=>⟨λh=>by omega,λ_=>⟨λh=>by simp only at h;omega,λ_=>⟨λh=>by simp only at h;omega,λ_=>⟨λh=>by simp only at h;omega,λ_=>⟨λh=>by simp only at h;omega,λ_=>⟨λh=>by simp only at h;omega,λ_=>⟨λh=>by simp only at h;omega,λ_=>⟨λJ=>⟨λ_=>⟨_,E,?_⟩,λh=>absurd ⟨rfl,rfl,rfl,rfl⟩ h⟩,λJ=>⟨λ_=>⟨_,G,?_⟩,λh=>absurd ⟨rfl,rfl,rfl,rfl⟩ h⟩⟩⟩⟩⟩⟩⟩⟩⟩⟩⟩)
 ·rw[<-h]
  congr 1
  rw[decide_eq_true J,Bool.true_and];by_cases h2:n=2
  ·subst h2;rfl
  ·rw[decide_eq_false h2];simp;omega
 ·rw[decide_eq_false J,Bool.false_and]at h;exact h
def rq(m:List<|Int×Int)(c:aj):List (Int×Int):=if c.Field=1 then aR c.Id c.V_.N m else m
theorem Im{l:List aj}(hl:l.length<=1000000000):nF ⟨l⟩ (l.foldl rq []):=by
 have loop:∀k n m,k+n=l.length->jq (k+1) ⟨l⟩ m n ((l.drop n).foldl rq m):=λk=>by
  induction k with
  |zero=>
   intro n m hn;refine uk 0 _ _ _ _ (⟨λh=>by simp only at h;omega,λ_=>?_⟩);rw[List.drop_of_length_le<|by omega];rfl
  |succ k ih=>
   intro n m hn;obtain⟨c,E⟩:∃c,l[n]?=some c:=⟨_,List.getElem?_eq_getElem (by omega)⟩;rw[bV E,aax];refine uk (k+1) _ _ _ _ (⟨λ_=>⟨c,E,λh=>⟨by omega,?_⟩,λh=>⟨by omega,?_⟩⟩,λh=>by simp only at h;omega⟩)
   ·rw[rq,if_pos h];exact ih (n+1) _ (by omega)
   ·rw[rq,if_neg h];exact ih (n+1) _ (by omega)
 exact BS _ _ _ (by simpa using loop l.length 0 [] (by omega))
def sC(m:List<|Int×Bool)(c:aj):List (Int×Bool):=if c.Field=3∨c.Field=4 then aR c.Id true m else m
theorem MS{l:List aj}{K:List<|Int×Int}(hl:l.length<=1000000000)(hv:nD l true)(hK:l.foldl rq []=K)(hf:∀c∈l,∃k,aC c.Id K=some k∧k≠0∧yp k c)(hn:(l.foldl sC []).length=K.length):di ⟨l⟩ true:=by
 have hk:=Im hl;rw[hK]at hk;have loop:∀k n m,k+n=l.length->((l.drop n).foldl sC m).length=K.length->dn (k+1) ⟨l⟩ K m n true:=λk=>by
  induction k with
  |zero=>
   intro n m hn hm;refine uM 0 _ _ _ _ _ (⟨λh=>by simp only at h;omega,λ_=>?_⟩);rw[List.drop_of_length_le<|by omega]at hm;have :m.length=K.length:=hm;rw[this];simp
  | succ k ih=>
   intro n m hn hm;obtain⟨c,hc⟩:∃c,l[n]?=some c:=⟨_,List.getElem?_eq_getElem (by omega)⟩;obtain⟨kk,h1,h2,h3⟩:=hf c (List.mem_of_getElem? hc);rw[bV hc,aax]at hm;refine uM (k+1) _ _ _ _ _ (⟨λ_=>⟨c,hc,λh=>(by rw[h1]at h;cases h),λd hd=>⟨λh=>?_,λ_=>⟨λh=>(by rw[h1]at h;cases h),λd2 hd2=>?_⟩⟩⟩,λh=>by simp only at h;omega⟩)
   ·rw[h1]at hd;injection hd with hd;exact absurd (hd.trans h) h2
   ·rw[h1]at hd2;injection hd2 with hd2;subst hd2
    refine⟨_,h3,λh=>(by cases h),λ_=>⟨λe=>⟨by omega,?_⟩,λe=>⟨λe'=>⟨by omega,?_⟩,λe'=>⟨by omega,?_⟩⟩⟩⟩
    ·rw[sC,if_pos<|.inl e]at hm;exact ih (n+1) _ (by omega) hm
    ·rw[sC,if_pos<|.inr e']at hm;exact ih (n+1) _ (by omega) hm
    ·rw[sC,if_neg λh=>h.elim e e']at hm;exact ih (n+1) _ (by omega) hm
 exact BV _ _ _ (⟨_,hv,λh=>(by cases h),λ_=>⟨_,hk,by simpa using loop l.length 0 [] (by omega) (by simpa using hn)⟩⟩)
def nZ(K:List<|Int×Int)(r:YI)(c:aj):YI:=if c.Field=2∧aC c.Id K=some 1∧c.V_.N=1 then r++[c.Id]else r
def rp(E G:YI):Prop:=cb [0] prog 42 [.sl 0] ⟨1,[(0,.row 3 1<|List.map (V.int .i64) E)]⟩<|z7 (.tup []) ⟨1,[(0,.row 3 1<|List.map (V.int .i64) G)]⟩
def nO(E:aJ)(G:YI):Prop:=qS 18 [.agg<|aJ.c E]<|.row 1<|List.map (V.int .i64) G
def nK(E:aJ)(G:Int)(J:YI):Prop:=qS 16 [.agg<|aJ.c E,qi G]<|.row 1<|List.map (V.int .i64) J
def fa(m:Nat)(E:aJ)(a:(List<|Int×Int))(b:YI)(c:Nat)(G:YI):Prop:=z8 m [] f18 (z6<|.row 1<|List.map (V.int .i64) G) (xL<|ab f18) [.blk 0,.seq<|xD<|cB<|ab f18] 101 [(3,.sl 0),(4,.sl 1),(18,.row 6<|List.map aj.w E.Cells),(19,qi (E.Cells.length:Int)),(20,qi (c:Int))] ⟨2,[(1,.row 3 1<|List.map (V.int .i64) b),(0,.mp 3 3 (List.map (λp=>(V.int .i64) p.1) a)<|List.map (λp=>(V.int .i64) p.2) a)]⟩
def pX(m:Nat)(E:aJ)(b:aj)(d:Bool)(a:(List<|Int×Int))(e:YI)(f:Nat)(J:YI):Prop:=∀(K:Ctx) (G:Nat),au K []->m<=G->qLG K f18 (z6<|.row 1<|List.map (V.int .i64) J) (xA<|cK<|cA<|xA<|xL<|ab f18) [.blk 1,.seq<|xH<|xL<|ab f18,.loop (xL<|ab f18) G,.blk 0,.seq<|xD<|cB<|ab f18] 101 (mkF 101 0 [(3,.sl 0),(4,.sl 1),(6,.ptr 2 0),(18,.row 6<|List.map aj.w E.Cells),(19,qi (E.Cells.length:Int)),(20,qi (f:Int)),(32,.bool d)]) ⟨3,[(2,.var 44<|aj.c b),(1,.row 3 1<|List.map (V.int .i64) e),(0,.mp 3 3 (List.map (λp=>(V.int .i64) p.1) a)<|List.map (λp=>(V.int .i64) p.2) a)]⟩
def ff(m:Nat)(a:(List<|Int×Int))(c:YI)(d e:Nat)(f:YI)(b:(List<|Int×Int))(E:YI):Prop:=z8 m [] f18 (z6<|.row 1<|List.map (V.int .i64) E) (xL<|xH<|ab f18) [.blk 2,.seq<|xD<|xD<|ab f18] 101 [(3,.sl 0),(7,.sl 1),(8,.sl 2),(46,.sl 3),(47,qi (d:Int)),(48,qi (e:Int))] ⟨4,[(3,.row 3 1<|List.map (V.int .i64) c),(2,.row 3 1<|List.map (V.int .i64) f),(1,.mp 3 3 (List.map (λp=>(V.int .i64) p.1) b)<|List.map (λp=>(V.int .i64) p.2) b),(0,.mp 3 3 (List.map (λp=>(V.int .i64) p.1) a)<|List.map (λp=>(V.int .i64) p.2) a)]⟩
def fc(m:Nat)(a:(List<|Int×Int))(c:YI)(d:Nat)(e:Int)(b:(List<|Int×Int))(f:Int)(g:YI)(i:Nat)(J:YI):Prop:=∀(K:Ctx) (E G:Nat),au K []->m<=E->m<=G->qLG K f18 (z6<|.row 1<|List.map (V.int .i64) J) (xK<|cA<|xA<|cK<|cA<|xA<|xL<|xH<|ab f18) [.loop (xK<|cA<|xA<|cK<|cA<|xA<|xL<|xH<|ab f18) E,.blk 4,.seq<|xH<|cK<|cA<|xA<|xL<|xH<|ab f18,.blk 3,.seq<|xH<|xL<|xH<|ab f18,.loop (xL<|xH<|ab f18) G,.blk 2,.seq<|xD<|xD<|ab f18] 101 (mkF 101 0 [(3,.sl 0),(7,.sl 1),(8,.sl 2),(10,qi e),(11,qi f),(46,.sl 3),(47,qi (d:Int)),(48,qi (i:Int))]) ⟨4,[(3,.row 3 1<|List.map (V.int .i64) c),(2,.row 3 1<|List.map (V.int .i64) g),(1,.mp 3 3 (List.map (λp=>(V.int .i64) p.1) b)<|List.map (λp=>(V.int .i64) p.2) b),(0,.mp 3 3 (List.map (λp=>(V.int .i64) p.1) a)<|List.map (λp=>(V.int .i64) p.2) a)]⟩
def jT(m:Nat)(a:(List<|Int×Int))(c:YI)(d:Nat)(e:Int)(b:(List<|Int×Int))(f:YI)(g:Int)(i:Nat)(G:YI):Prop:=∀(K:Ctx) (E:Nat),au K []->m<=E->qLG K f18 (z6<|.row 1<|List.map (V.int .i64) G) (xH<|cK<|cA<|xA<|xL<|xH<|ab f18) [.blk 3,.seq<|xH<|xL<|xH<|ab f18,.loop (xL<|xH<|ab f18) E,.blk 2,.seq<|xD<|xD<|ab f18] 101 (mkF 101 0 [(3,.sl 0),(7,.sl 1),(8,.sl 2),(10,qi e),(11,qi g),(46,.sl 3),(47,qi (d:Int)),(48,qi (i:Int))]) ⟨4,[(3,.row 3 1<|List.map (V.int .i64) c),(2,.row 3 1<|List.map (V.int .i64) f),(1,.mp 3 3 (List.map (λp=>(V.int .i64) p.1) b)<|List.map (λp=>(V.int .i64) p.2) b),(0,.mp 3 3 (List.map (λp=>(V.int .i64) p.1) a)<|List.map (λp=>(V.int .i64) p.2) a)]⟩
def mc(m:Nat)(a:(List<|Int×Int))(c:YI)(d:Nat)(e:Int)(f:YI)(b:(List<|Int×Int))(g:Int)(i:Nat)(J:YI):Prop:=∀(K:Ctx) (E G:Nat),au K []->m<=E->m<=G->qLG K f18 (z6<|.row 1<|List.map (V.int .i64) J) (xK<|xD<|xA<|cK<|cA<|xA<|xL<|xH<|ab f18) [.loop (xK<|xD<|xA<|cK<|cA<|xA<|xL<|xH<|ab f18) E,.blk 6,.blk 3,.seq<|xH<|xL<|xH<|ab f18,.loop (xL<|xH<|ab f18) G,.blk 2,.seq<|xD<|xD<|ab f18] 101 (mkF 101 0 [(3,.sl 0),(7,.sl 1),(8,.sl 2),(11,qi g),(12,qi e),(46,.sl 3),(47,qi (d:Int)),(48,qi (i:Int))]) ⟨4,[(3,.row 3 1<|List.map (V.int .i64) c),(2,.row 3 1<|List.map (V.int .i64) f),(1,.mp 3 3 (List.map (λp=>(V.int .i64) p.1) b)<|List.map (λp=>(V.int .i64) p.2) b),(0,.mp 3 3 (List.map (λp=>(V.int .i64) p.1) a)<|List.map (λp=>(V.int .i64) p.2) a)]⟩
theorem BM(m:Nat)(p0:aJ)(r0:YI)(h:∃a,di p0 a∧((a=false)->[]=r0)∧((a=true)->fa m p0 ([]:(List<|Int×Int)) ([]:YI) 0 r0)):nO p0 r0:=by
 refine⟨I,I,?_⟩;refine qA 101 [] func18 λK hK=>?_;refine gR 3 I<|gFP 0 I I I I<|gR 7 I ?_;obtain⟨a,b,h⟩:=h;refine qC0 b rfl<|gR 3 rfl<|qXh 15 rfl rfl rfl h bz bx ?_ ?_<;>intro hd h;refine gR 8 I ?_;subst h;exact go_sub (F':=(mkF 101 0 [(2,.row 1<|List.map (V.int .i64) [])])) (H':=⟨0,[]⟩) [] [] I hK ⟨⟨_,I,(.nil 1)⟩,trivial⟩ trivial I<|qN [.tmp 2];exact gR 5 I<|gDo (.new<|.mp 3 3 [] []) (dMM 3 3) trivial I I I<|gHM 1 (List.map (λp=>(V.int .i64) p.1) ([]:(List<|Int×Int))) (List.map (λp=>(V.int .i64) p.2) ([]:(List<|Int×Int))) I I I I<|gR 14 I<|gV 19 (qi (p0.Cells.length:Int)) I (aN<|az aj.w _) I<|gLB 18 I (az aj.w _) λc=>gR 4 I<|go_loop m<|gNS 4 3 1 I I I I<|qW hK h [1,2]
theorem tW(m:Nat)(p0:aJ)(d:(List<|Int×Int))(b:YI)(c:Nat)(r0:YI)(h:y6 (c<p0.Cells.length) (∃a,p0.Cells[c]?=some a∧y9 a.Field 2 (pX m p0 a (a.V_.Ref !=0) d b c r0) (pX m p0 a false d b c r0))<|ff m d b b.length 0 ([]:YI) ([]:(List<|Int×Int)) r0):fa (m+1) p0 d b c r0:=by
 refine qj λK j1 hK i=>?_;refine gR 6 rfl<|qXh 21 rfl rfl rfl h bQ bS ?_ ?_<;>intro hd h;refine gR 7 I ?_;obtain⟨a,e,h⟩:=h;refine gY (ax (av (f:=aj.w) e) ac rfl rfl rfl rfl) rfl rfl<|gR 11 rfl<|qXeZ 27 26 rfl rfl rfl rfl h ?_ ?_<;>intro hd h;exact gR 7 I<|qW hK h [0,1,2];exact gR 7 I<|qW hK h [0,1,2];exact gR 3 I<|go_xloopE<|gR 4 I<|gDo (.new<|.mp 3 3 [] []) (dMM 3 3) trivial I I I<|gHM 2 (List.map (λp=>(V.int .i64) p.1) ([]:(List<|Int×Int))) (List.map (λp=>(V.int .i64) p.2) ([]:(List<|Int×Int))) I I I I<|gR 13 I<|gV 47 (qi (b.length:Int)) I (aN<|az (V.int .i64) _) I<|gLO 1 I (az (V.int .i64) _) λg=>gR 4 I<|go_loop m<|gNS 8 3 1 I I I I<|qW hK h [0,2,3,1]
theorem tZ(m:Nat)(E:aJ)(a:aj)(f:Bool)(c:(List<|Int×Int))(e:YI)(b:Nat)(G:YI)(h:y7 f ((e++[a.Id]).length<=1000000000∧b+1<=9223372036854775807∧fa m E (aR a.Id a.V_.Ref c) (e++[a.Id]) (b+1) G)<|b+1<=9223372036854775807∧fa m E c e (b+1) G):pX (m+1) E a f c e b G:=by
 refine qj λK U J g=>?_;refine qXi 32 rfl rfl rfl h ?_ ?_<;>intro Z h;refine gR 9 I<|gDo (.set 0<|.mp 3 3 (List.map (λp=>(V.int .i64) p.1)<|aR a.Id a.V_.Ref c)<|List.map (λp=>(V.int .i64) p.2)<|aR a.Id a.V_.Ref c) (pj bh (encV:=(V.int .i64)) (k:=a.Id) (d:=a.V_.Ref) (l:=c) underlying79 I I I I I I I I) (okM I) I I I<|gR 7 I ?_;obtain⟨hb,h⟩:=h;refine gDo (.repl 1<|.row 3 1<|List.map (V.int .i64)<|e++[a.Id]) (bq ac I I I I I (apM (V.int .i64) e a.Id) (by rw[az];exact hb)) (okR I) I I I<|gR 5 I ?_;obtain⟨hb,h⟩:=h;exact gR 1 I<|gV 44 (qi ((b+1:Nat):Int)) I (am (by omega)<|by omega) I<|gR 2 I<|go_xloop<|qW J h [0,4];refine gR 5 I ?_;obtain⟨hb,h⟩:=h;exact gR 1 I<|gV 44 (qi ((b+1:Nat):Int)) I (am (by omega)<|by omega) I<|gR 2 I<|go_xloop<|qW J h [0,1]
theorem uw(m:Nat)(j:(List<|Int×Int))(g:YI)(c a:Nat)(i:YI)(k:(List<|Int×Int))(r0:YI)(h:y6 (a<c) (∃d,g[a]?=some d∧fc m j g c d k d i a r0)<|∃b,rp i b∧b=r0):ff (m+1) j g c a i k r0:=by
 refine qj λK j1 hK n=>?_;refine gR 6 rfl<|qXh 49 rfl rfl rfl h bQ bS ?_ ?_<;>intro hd h;refine gR 7 I ?_;obtain⟨d,e,h⟩:=h;refine gY (yIO ac I I I I<|qG<|av (f:=(V.int .i64)) e) I I ?_;exact gDo (.nop) (dLe ac I I I (av (f:=(V.int .i64)) e) I) trivial I I I<|gR 11 I<|go_loop m<|qJ hK (h K _ _ hK (by omega)<|by omega) [0,1,2,3];refine gR 3 I<|go_xloopE<|gR 5 I ?_;obtain⟨b,l,h⟩:=h;refine qC l [2] ?_;refine gHR 2 (List.map (V.int .i64) b) I (dH _ (V.int .i64) (λ_=>I) b) I<|gR 9 I<|gFR 2 I (eG _ (λ_=>I) _) I I ?_;subst h;exact qN [.tmp 2]
theorem pq(m:Nat)(b:(List<|Int×Int))(f:YI)(g:Nat)(e:Int)(c:(List<|Int×Int))(a:Int)(i:YI)(n:Nat)(G:YI)(h:((aC a b=none)->jT m b f g e c i a n G)∧(∀(o:Int),aC a b=some o->q3a o 0 (((aC a c=none)->((aC a b=none)->fc m b f g e (aR a e c) 0 i n G)∧(∀(r:Int),aC a b=some r->fc m b f g e (aR a e c) r i n G))∧(∀(q:Int),aC a c=some q->y9 q 0 (((aC a b=none)->fc m b f g e (aR a e c) 0 i n G)∧(∀(s:Int),aC a b=some s->fc m b f g e (aR a e c) s i n G)) (jT m b f g e c i a n G))) (jT m b f g e c i a n G))):fc (m+1) b f g e c a i n G:=by
 intro K J U E z α;obtain⟨J,rfl⟩:∃j,J=j+1:=⟨J-1,by omega⟩;obtain⟨U,rfl⟩:∃j,U=j+1:=⟨U-1,by omega⟩;refine gR 5 I ?_;rcases t:aC a b with _|o
 replace h:=h.1 t;exact gDo (v:=some<|qi 0) (.nop) (od bh (encV:=(V.int .i64)) (k:=a) (l:=b) (zv:=qi 0) t underlying79 zeroValue3 (by kernel_rfl) I I I I) trivial I I I<|gR 12 I<|go_xloopE<|gR 2 I<|qW E h [0,1,2,3];replace h:=h.2 o t;refine gDo (v:=some<|qi o) (.nop) (nX bh (encV:=(V.int .i64)) (k:=a) (l:=b) (zv:=qi 0) t underlying79 zeroValue3 (by kernel_rfl) rfl rfl rfl rfl) trivial rfl rfl rfl<|gR 2 rfl<|qXhZ 57 56 rfl rfl rfl rfl h ig eP ?_ ?_<;>intro Z h;refine gR 2 I ?_;rcases w:aC a c with _|q
 replace h:=h.1 w;refine gDo (v:=some<|qi 0) (.nop) (od bh (encV:=(V.int .i64)) (k:=a) (l:=c) (zv:=qi 0) w underlying79 zeroValue3 (by kernel_rfl) I I I I) trivial I I I<|gR 13 I<|gDo (.set 1<|.mp 3 3 (List.map (λp=>(V.int .i64) p.1)<|aR a e c)<|List.map (λp=>(V.int .i64) p.2)<|aR a e c) (pj bh (encV:=(V.int .i64)) (k:=a) (d:=e) (l:=c) underlying79 I I I I I I I I) (okM I) I I I<|gR 5 I ?_;rcases x:aC a b with _|r
 replace h:=h.1 x;exact gDo (v:=some<|qi 0) (.nop) (od bh (encV:=(V.int .i64)) (k:=a) (l:=b) (zv:=qi 0) x underlying79 zeroValue3 (by kernel_rfl) I I I I) trivial I I I<|gR 3 I<|go_xloop<|qJ E (h K _ _ E (by omega)<|by omega) [0,1,2,3];replace h:=h.2 r x;exact gDo (v:=some<|qi r) (.nop) (nX bh (encV:=(V.int .i64)) (k:=a) (l:=b) (zv:=qi 0) x underlying79 zeroValue3 (by kernel_rfl) I I I I) trivial I I I<|gR 3 I<|go_xloop<|qJ E (h K _ _ E (by omega)<|by omega) [0,1,2,3];replace h:=h.2 q w;refine gDo (v:=some<|qi q) (.nop) (nX bh (encV:=(V.int .i64)) (k:=a) (l:=c) (zv:=qi 0) w underlying79 zeroValue3 (by kernel_rfl) rfl rfl rfl rfl) trivial rfl rfl rfl<|gR 4 rfl<|qXe 62 rfl rfl rfl h ?_ ?_<;>intro Z h;refine gR 9 I<|gDo (.set 1<|.mp 3 3 (List.map (λp=>(V.int .i64) p.1)<|aR a e c)<|List.map (λp=>(V.int .i64) p.2)<|aR a e c) (pj bh (encV:=(V.int .i64)) (k:=a) (d:=e) (l:=c) underlying79 I I I I I I I I) (okM I) I I I<|gR 5 I ?_;rcases y:aC a b with _|s
 replace h:=h.1 y;exact gDo (v:=some<|qi 0) (.nop) (od bh (encV:=(V.int .i64)) (k:=a) (l:=b) (zv:=qi 0) y underlying79 zeroValue3 (by kernel_rfl) I I I I) trivial I I I<|gR 3 I<|go_xloop<|qJ E (h K _ _ E (by omega)<|by omega) [0,1,2,3];replace h:=h.2 s y;exact gDo (v:=some<|qi s) (.nop) (nX bh (encV:=(V.int .i64)) (k:=a) (l:=b) (zv:=qi 0) y underlying79 zeroValue3 (by kernel_rfl) I I I I) trivial I I I<|gR 3 I<|go_xloop<|qJ E (h K _ _ E (by omega)<|by omega) [0,1,2,3];exact gR 3 I<|go_xloopE<|gR 2 I<|qW E h [0,1,2,3];exact gR 10 I<|go_xloopE<|gR 2 I<|qW E h [0,1,2,3]
theorem Bp(m:Nat)(b:(List<|Int×Int))(f:YI)(g:Nat)(n:Int)(e:(List<|Int×Int))(d:YI)(a:Int)(c:Nat)(r0:YI)(h:((aC a b=none)->c+1<=9223372036854775807∧ff m b f g (c+1) d e r0)∧(∀(i:Int),aC a b=some i->y9 i 0 (c+1<=9223372036854775807∧ff m b f g (c+1) d e r0) (((aC a e=none)->q3a 0 n (c+1<=9223372036854775807∧ff m b f g (c+1) d e r0) ((d++[a]).length<=1000000000∧((aC a b=none)->mc m b f g 0 (d++[a]) e a c r0)∧(∀(o:Int),aC a b=some o->mc m b f g o (d++[a]) e a c r0)))∧(∀(j:Int),aC a e=some j->q3a j n (c+1<=9223372036854775807∧ff m b f g (c+1) d e r0) ((d++[a]).length<=1000000000∧((aC a b=none)->mc m b f g 0 (d++[a]) e a c r0)∧(∀(p:Int),aC a b=some p->mc m b f g p (d++[a]) e a c r0)))))):jT (m+1) b f g n e d a c r0:=by
 refine qj λK j1 hK w=>?_;refine gR 5 I ?_;rcases q:aC a b with _|i
 replace h:=h.1 q;refine gDo (v:=some<|qi 0) (.nop) (od bh (encV:=(V.int .i64)) (k:=a) (l:=b) (zv:=qi 0) q underlying79 zeroValue3 (by kernel_rfl) I I I I) trivial I I I<|gR 16 I ?_;obtain⟨hb,h⟩:=h;exact gR 1 I<|gV 97 (qi ((c+1:Nat):Int)) I (am (by omega)<|by omega) I<|gR 2 I<|go_xloop<|qW hK h [0,1,2,3];replace h:=h.2 i q;refine gDo (v:=some<|qi i) (.nop) (nX bh (encV:=(V.int .i64)) (k:=a) (l:=b) (zv:=qi 0) q underlying79 zeroValue3 (by kernel_rfl) rfl rfl rfl rfl) trivial rfl rfl rfl<|gR 2 rfl<|qXeZ 73 72 rfl rfl rfl rfl h ?_ ?_<;>intro hd h;refine gR 14 I ?_;obtain⟨hb,h⟩:=h;exact gR 1 I<|gV 97 (qi ((c+1:Nat):Int)) I (am (by omega)<|by omega) I<|gR 2 I<|go_xloop<|qW hK h [0,1,2,3];refine gR 2 I ?_;rcases r:aC a e with _|j
 replace h:=h.1 r;refine gDo (v:=some<|qi 0) (.nop) (od bh (encV:=(V.int .i64)) (k:=a) (l:=e) (zv:=qi 0) r underlying79 zeroValue3 (by kernel_rfl) rfl rfl rfl rfl) trivial rfl rfl rfl<|gR 5 rfl<|qXh 79 rfl rfl rfl h ig eP ?_ ?_<;>intro hd h;refine gR 6 I ?_;obtain⟨hb,h⟩:=h;exact gR 1 I<|gV 97 (qi ((c+1:Nat):Int)) I (am (by omega)<|by omega) I<|gR 2 I<|go_xloop<|qW hK h [0,1,2,3];refine gR 8 I ?_;obtain⟨hb,h⟩:=h;refine gDo (.repl 2<|.row 3 1<|List.map (V.int .i64)<|d++[a]) (bq ac I I I I I (apM (V.int .i64) d a) (by rw[az];exact hb)) (okR I) I I I<|gR 7 I ?_;rcases s:aC a b with _|o
 replace h:=h.1 s;exact gDo (v:=some<|qi 0) (.nop) (od bh (encV:=(V.int .i64)) (k:=a) (l:=b) (zv:=qi 0) s underlying79 zeroValue3 (by kernel_rfl) I I I I) trivial I I I<|gR 4 I<|go_loop m<|qJ hK (h K _ _ hK (by omega)<|by omega) [0,1,5,3];replace h:=h.2 o s;exact gDo (v:=some<|qi o) (.nop) (nX bh (encV:=(V.int .i64)) (k:=a) (l:=b) (zv:=qi 0) s underlying79 zeroValue3 (by kernel_rfl) I I I I) trivial I I I<|gR 4 I<|go_loop m<|qJ hK (h K _ _ hK (by omega)<|by omega) [0,1,5,3];replace h:=h.2 j r;refine gDo (v:=some<|qi j) (.nop) (nX bh (encV:=(V.int .i64)) (k:=a) (l:=e) (zv:=qi 0) r underlying79 zeroValue3 (by kernel_rfl) rfl rfl rfl rfl) trivial rfl rfl rfl<|gR 5 rfl<|qXh 79 rfl rfl rfl h ig eP ?_ ?_<;>intro hd h;refine gR 6 I ?_;obtain⟨hb,h⟩:=h;exact gR 1 I<|gV 97 (qi ((c+1:Nat):Int)) I (am (by omega)<|by omega) I<|gR 2 I<|go_xloop<|qW hK h [0,1,2,3];refine gR 8 I ?_;obtain⟨hb,h⟩:=h;refine gDo (.repl 2<|.row 3 1<|List.map (V.int .i64)<|d++[a]) (bq ac I I I I I (apM (V.int .i64) d a) (by rw[az];exact hb)) (okR I) I I I<|gR 7 I ?_;rcases t:aC a b with _|p
 replace h:=h.1 t;exact gDo (v:=some<|qi 0) (.nop) (od bh (encV:=(V.int .i64)) (k:=a) (l:=b) (zv:=qi 0) t underlying79 zeroValue3 (by kernel_rfl) I I I I) trivial I I I<|gR 4 I<|go_loop m<|qJ hK (h K _ _ hK (by omega)<|by omega) [0,1,5,3];replace h:=h.2 p t;exact gDo (v:=some<|qi p) (.nop) (nX bh (encV:=(V.int .i64)) (k:=a) (l:=b) (zv:=qi 0) t underlying79 zeroValue3 (by kernel_rfl) I I I I) trivial I I I<|gR 4 I<|go_loop m<|qJ hK (h K _ _ hK (by omega)<|by omega) [0,1,5,3]
def dl(m:Nat)(E:aJ)(G:Int)(c:Nat)(b:(List<|Int×Value))(a:(YN×(List<|Value×YI)))(J:YI):Prop:=z8 m [] f16 (z6<|.row 1<|List.map (V.int .i64) J) (xI<|xH<|ab f16) [.blk 0,.seq<|xD<|ab f16] 98 [(1,qi G),(5,.sl 0),(24,.row 6<|List.map aj.w E.Cells),(25,qi (E.Cells.length:Int)),(26,qi (c:Int))] ⟨2,[(1,.ext a.1 (dO 3 a.2 a.1)),(0,.mp 3 36 (List.map (λp=>(V.int .i64) p.1) b)<|List.map (λp=>V.raw p.2) b)]⟩
def qc(m:Nat)(E:aJ)(J:Int)(d:aj)(e:Bool)(b:(List<|Int×Value))(a:(YN×(List<|Value×YI)))(f:Nat)(U:YI):Prop:=∀(K:Ctx) (G:Nat),au K []->m<=G->qLG K f16 (z6<|.row 1<|List.map (V.int .i64) U) (xA<|cK<|cA<|xA<|xI<|xH<|ab f16) [.blk 1,.seq<|xH<|xI<|xH<|ab f16,.loop (xI<|xH<|ab f16) G,.blk 0,.seq<|xD<|ab f16] 98 (mkF 98 0 [(1,qi J),(5,.sl 0),(7,.ptr 1 0),(24,.row 6<|List.map aj.w E.Cells),(25,qi (E.Cells.length:Int)),(26,qi (f:Int)),(38,.bool e)]) ⟨3,[(2,.ext a.1 (dO 3 a.2 a.1)),(1,.var 44<|aj.c d),(0,.mp 3 36 (List.map (λp=>(V.int .i64) p.1) b)<|List.map (λp=>V.raw p.2) b)]⟩
def gr(m:Nat)(X1_2:(List<|Int×(Value×YI)))(b:YI)(a:(List<|Int×Bool))(c E:YI):Prop:=z8 m [] f16 (z6<|.row 1<|List.map (V.int .i64) E) (xK<|cA<|xD<|xH<|ab f16) [.blk 2,.seq<|xD<|xD<|ab f16] 98 [(5,.sl 0),(8,.sl 1),(9,.sl 2),(10,.sl 3)] ⟨4,[(3,.row 3 1<|List.map (V.int .i64) b),(2,.row 3 1<|List.map (V.int .i64) c),(1,.mp 3 4 (List.map (λp=>(V.int .i64) p.1) a)<|List.map (λp=>V.bool p.2) a),(0,.mp 3 36 (List.map (λp=>(V.int .i64) p.1)<|X1_2.map λp=>(p.1,p.2.2))<|List.map (λp=>(λl=>V.row 1<|List.map (V.int .i64) l) p.2)<|X1_2.map λp=>(p.1,p.2.2))]⟩
def qu(m:Nat)(E:aJ)(J:Int)(b:(List<|Int×Value))(a:(YN×(List<|Value×YI)))(c:Nat)(U:YI):Prop:=∀(K:Ctx) (G:Nat),au K []->m<=G->Go prog K (bodyPost prog f16<|SP K<|z6<|.row 1<|List.map (V.int .i64) U) (.ex .normal) [.blk 1,.seq<|xH<|xI<|xH<|ab f16,.loop (xI<|xH<|ab f16) G,.blk 0,.seq<|xD<|ab f16] 98 (mkF 98 0 [(1,qi J),(5,.sl 0),(24,.row 6<|List.map aj.w E.Cells),(25,qi (E.Cells.length:Int)),(26,qi (c:Int))]) ⟨2,[(1,.ext a.1 (dO 3 a.2 a.1)),(0,.mp 3 36 (List.map (λp=>(V.int .i64) p.1) b)<|List.map (λp=>V.raw p.2) b)]⟩
def gq(m:Nat)(X1_2:(List<|Int×(Value×YI)))(b:YI)(c:Nat)(a:(List<|Int×Bool))(d e:YI)(f:Nat)(J:YI):Prop:=∀(K:Ctx) (E G:Nat),au K []->m<=E->m<=G->qLG K f16 (z6<|.row 1<|List.map (V.int .i64) J) (xK<|xH<|xE<|xK<|cA<|xD<|xH<|ab f16) [.loop (xK<|xH<|xE<|xK<|cA<|xD<|xH<|ab f16) E,.blk 4,.blk 3,.loop (xK<|cA<|xD<|xH<|ab f16) G,.blk 2,.seq<|xD<|xD<|ab f16] 98 (mkF 98 0 [(5,.sl 0),(8,.sl 1),(9,.sl 2),(10,.sl 3),(74,.row 1<|List.map (V.int .i64) b),(75,qi (c:Int)),(76,qi (f:Int))]) ⟨4,[(3,.row 3 1<|List.map (V.int .i64) e),(2,.row 3 1<|List.map (V.int .i64) d),(1,.mp 3 4 (List.map (λp=>(V.int .i64) p.1) a)<|List.map (λp=>V.bool p.2) a),(0,.mp 3 36 (List.map (λp=>(V.int .i64) p.1)<|X1_2.map λp=>(p.1,p.2.2))<|List.map (λp=>(λl=>V.row 1<|List.map (V.int .i64) l) p.2)<|X1_2.map λp=>(p.1,p.2.2))]⟩
def qf(m:Nat)(X1_2:(List<|Int×(Value×YI)))(b:YI)(c:Nat)(d:Int)(e:Bool)(a:(List<|Int×Bool))(f g:YI)(i:Nat)(J:YI):Prop:=∀(K:Ctx) (E G:Nat),au K []->m<=E->m<=G->qLG K f16 (z6<|.row 1<|List.map (V.int .i64) J) (xA<|cK<|cA<|xA<|xK<|xH<|xE<|xK<|cA<|xD<|xH<|ab f16) [.blk 5,.seq<|xH<|xK<|xH<|xE<|xK<|cA<|xD<|xH<|ab f16,.loop (xK<|xH<|xE<|xK<|cA<|xD<|xH<|ab f16) E,.blk 4,.blk 3,.loop (xK<|cA<|xD<|xH<|ab f16) G,.blk 2,.seq<|xD<|xD<|ab f16] 98 (mkF 98 0 [(5,.sl 0),(8,.sl 1),(9,.sl 2),(10,.sl 3),(13,qi d),(74,.row 1<|List.map (V.int .i64) b),(75,qi (c:Int)),(76,qi (i:Int)),(83,.bool e)]) ⟨4,[(3,.row 3 1<|List.map (V.int .i64) g),(2,.row 3 1<|List.map (V.int .i64) f),(1,.mp 3 4 (List.map (λp=>(V.int .i64) p.1) a)<|List.map (λp=>V.bool p.2) a),(0,.mp 3 36 (List.map (λp=>(V.int .i64) p.1)<|X1_2.map λp=>(p.1,p.2.2))<|List.map (λp=>(λl=>V.row 1<|List.map (V.int .i64) l) p.2)<|X1_2.map λp=>(p.1,p.2.2))]⟩
theorem BH(m:Nat)(p0:aJ)(p1:Int)(r0:YI)(h:∃a,ii p1 a∧((a=false)->[]=r0)∧((a=true)->∃b,di p0 b∧((b=false)->[]=r0)∧((b=true)->dl m p0 p1 0 ([]:List<|Int×Value) (([]:YN),([]:List<|Value×YI)) r0))):nK p0 p1 r0:=by
 refine⟨I,I,?_⟩;refine qA 98 [] func16 λK hK=>?_;refine gR 3 I<|gFP 0 I I I I<|gR 7 I ?_;obtain⟨a,c,h⟩:=h;refine qC0 c rfl<|gR 2 rfl<|qXhZ 17 16 rfl rfl rfl rfl h bz bx ?_ ?_<;>intro hd h;refine gR 14 I ?_;subst h;exact go_sub (F':=(mkF 98 0 [(4,.row 1<|List.map (V.int .i64) [])])) (H':=⟨0,[]⟩) [] [] I hK ⟨⟨_,I,(.nil 1)⟩,trivial⟩ trivial I<|qN [.tmp 4];refine gR 1 I ?_;obtain⟨b,d,h⟩:=h;refine qC0 d rfl<|gR 4 rfl<|qXh 21 rfl rfl rfl h bz bx ?_ ?_<;>intro hd h;refine gR 8 I ?_;subst h;exact go_sub (F':=(mkF 98 0 [(4,.row 1<|List.map (V.int .i64) [])])) (H':=⟨0,[]⟩) [] [] I hK ⟨⟨_,I,(.nil 1)⟩,trivial⟩ trivial I<|qN [.tmp 4];exact gR 5 I<|gDo (.new<|.mp 3 36 [] []) (dMM 3 36) trivial I I I<|gHM 1 (List.map (λp=>(V.int .i64) p.1) ([]:List<|Int×Value)) (List.map (λp=>V.raw p.2) ([]:List<|Int×Value)) I I I I<|gX0 3 I I<|gR 9 I<|gV 25 (qi (p0.Cells.length:Int)) I (aN<|az aj.w _) I<|gLB 24 I (az aj.w _) λe=>gR 4 I<|go_loop m<|gJX (h K _ hK<|by omega) [1,2] [] I hK pq5 ⟨⟨_,I,_,_,I,I,I⟩,⟨_,I,I,I,I,I⟩,trivial⟩ I
theorem uE(m:Nat)(p0:aJ)(p1:Int)(b:Nat)(c:(List<|Int×Value))(e:(YN×(List<|Value×YI)))(r0:YI)(h:y6 (b<p0.Cells.length) (∃a,p0.Cells[b]?=some a∧y9 a.Field 2 (qc m p0 p1 a (a.V_.Ref !=0) c e b r0) (qc m p0 p1 a false c e b r0))<|∃(X1_2:(List<|Int×(Value×YI))),c=(X1_2.map λp=>(p.1,p.2.1))∧e.2=(X1_2.map λp=>p.2)∧gr m X1_2 [p1] (aR p1 true ([]:(List<|Int×Bool))) ([]:YI) r0):dl (m+1) p0 p1 b c e r0:=by
 refine qj λK j1 hK i=>?_;refine gR 6 rfl<|qXh 27 rfl rfl rfl h bQ bS ?_ ?_<;>intro hd h;refine gR 7 I ?_;obtain⟨a,g,h⟩:=h;refine gY (ax (av (f:=aj.w) g) ac rfl rfl rfl rfl) rfl rfl<|gR 11 rfl<|qXeZ 33 32 rfl rfl rfl rfl h ?_ ?_<;>intro hd h;exact gR 7 I<|gJX (h K _ hK<|by omega) [0,2,1] [] I hK pq7 ⟨⟨_,I,_,_,I,I,I⟩,pqo I I,⟨_,I,I,I,I,I⟩,trivial⟩ I;exact gR 7 I<|gJX (h K _ hK<|by omega) [0,2,1] [] I hK pq7 ⟨⟨_,I,_,_,I,I,I⟩,pqo I I,⟨_,I,I,I,I,I⟩,trivial⟩ I;refine gR 3 I<|go_xloopE<|gR 3 I ?_;obtain⟨X1_2,hX1,hX2,h⟩:=h;refine gXz 0 1 X1_2 (by decide) rfl rfl rfl hX1 hX2 rfl ?_;exact gR 1 I<|gDo (.new<|.mp 3 4 [] []) (dMM 3 4) trivial I I I<|gHM 2 (List.map (λp=>(V.int .i64) p.1) ([]:(List<|Int×Bool))) (List.map (λp=>V.bool p.2) ([]:(List<|Int×Bool))) I I I I<|gR 1 I<|gDo (.set 2<|.mp 3 4 (List.map (λp=>(V.int .i64) p.1)<|aR p1 true ([]:(List<|Int×Bool)))<|List.map (λp=>V.bool p.2)<|aR p1 true ([]:(List<|Int×Bool))) (Tb<|pj bh (encV:=V.bool) (k:=p1) (d:=true) (l:=([]:(List<|Int×Bool))) underlying82 I I I I I I I I) (okM I) I I I<|gR 18 I<|go_loop m<|gNS 9 3 1 I I I I<|qW hK h [0,2,4,3]
theorem uJ(m:Nat)(G:aJ)(J:Int)(a:aj)(v:Bool)(b:(List<|Int×Value))(o:(YN×(List<|Value×YI)))(f:Nat)(U:YI)(h:y7 v (((aC a.V_.Ref b=none)->∀(c:Value),∀(q:YN),qu m G J (aR a.V_.Ref c b) (q,o.2++[(c,[a.Id])]) f U)∧(∀(t:Value),aC a.V_.Ref b=some t->∃g r,o.2[g]?=some (t,r)∧r.length+1<=1000000000∧∀(e:Value),∀(s:YN),qu m G J (aR a.V_.Ref e b) (s,o.2.set g (e,r++[a.Id])) f U))<|f+1<=9223372036854775807∧dl m G J (f+1) b o U):qc (m+1) G J a v b o f U:=by
 refine qj λK j1 E w=>?_;refine qXi 38 rfl rfl rfl h ?_ ?_<;>intro hd h;refine gR 1 I<|qDs [1] 13 14<|qDr (qR 0 3 2<|(3,3)::(qR 4 3 2 [(7,3),(9,2),(10,3)])) I I ?_;rcases n:aC a.V_.Ref b with _|t
 replace h:=h.1 n;apply qq (i:=8) (j:=11) (by kernel_rfl) rfl rfl rfl rfl;exact(CU (.nop) (od bh (encV:=V.raw) (k:=a.V_.Ref) (l:=b) (zv:=.nils) n underlying81 zeroValue36 (by kernel_rfl) I I I I) trivial<|by kernel_rfl);exact(qm ac I I);refine qDr [(11,0)] I I<|gXn (k:=a.Id) 12 2 I (by kernel_rfl) ac I I I I I I (by kernel_rfl) λc q=>?_;replace h:=h c q;refine bW 13 (.set 0<|.mp 3 36 (List.map (λp=>(V.int .i64) p.1)<|aR a.V_.Ref c b)<|List.map (λp=>V.raw p.2)<|aR a.V_.Ref c b) I (by kernel_rfl) (pj bh (encV:=V.raw) (k:=a.V_.Ref) (d:=c) (l:=b) underlying81 I I I I I I I I) (okM I) I (by kernel_rfl) I I ?_;exact qDe<|gJX (h K _ E<|by omega) [0,2] [] I E pq5 ⟨⟨_,I,_,_,I,I,I⟩,⟨_,I,I,I,I,I⟩,trivial⟩ I;refine bW 8 (.nop) I (by kernel_rfl) (od bh (encV:=V.raw) (k:=a.V_.Ref) (l:=b) (zv:=.nils) n underlying81 zeroValue36 (by kernel_rfl) I I I I) trivial I (by kernel_rfl) I I ?_;refine gXn (k:=a.Id) 12 2 I (by kernel_rfl) ac I I I I I I (by kernel_rfl) λc q=>?_;replace h:=h c q;refine bW 13 (.set 0<|.mp 3 36 (List.map (λp=>(V.int .i64) p.1)<|aR a.V_.Ref c b)<|List.map (λp=>V.raw p.2)<|aR a.V_.Ref c b) I (by kernel_rfl) (pj bh (encV:=V.raw) (k:=a.V_.Ref) (d:=c) (l:=b) underlying81 I I I I I I I I) (okM I) I (by kernel_rfl) I I ?_;exact qDe<|gJX (h K _ E<|by omega) [0,2] [] I E pq5 ⟨⟨_,I,_,_,I,I,I⟩,⟨_,I,I,I,I,I⟩,trivial⟩ I;replace h:=h.2 t n;apply qq (i:=8) (j:=11) (by kernel_rfl) rfl rfl rfl rfl;exact(CU (.nop) (nX bh (encV:=V.raw) (k:=a.V_.Ref) (l:=b) (zv:=.nils) n underlying81 zeroValue36 (by kernel_rfl) I I I I) trivial<|by kernel_rfl);exact(qm ac I I);refine qDr [(11,0)] I I ?_;obtain⟨g,r,Z,hb,h⟩:=h;refine gXa (k:=a.Id) 12 g 2 I (by kernel_rfl) ac I I I I I Z hb I (by kernel_rfl) λe s=>?_;replace h:=h e s;refine bW 13 (.set 0<|.mp 3 36 (List.map (λp=>(V.int .i64) p.1)<|aR a.V_.Ref e b)<|List.map (λp=>V.raw p.2)<|aR a.V_.Ref e b) I (by kernel_rfl) (pj bh (encV:=V.raw) (k:=a.V_.Ref) (d:=e) (l:=b) underlying81 I I I I I I I I) (okM I) I (by kernel_rfl) I I ?_;exact qDe<|gJX (h K _ E<|by omega) [0,2] [] I E pq5 ⟨⟨_,I,_,_,I,I,I⟩,⟨_,I,I,I,I,I⟩,trivial⟩ I;refine bW 8 (.nop) I (by kernel_rfl) (nX bh (encV:=V.raw) (k:=a.V_.Ref) (l:=b) (zv:=.nils) n underlying81 zeroValue36 (by kernel_rfl) I I I I) trivial I (by kernel_rfl) I I ?_;obtain⟨g,r,Z,hb,h⟩:=h;refine gXa (k:=a.Id) 12 g 2 I (by kernel_rfl) ac I I I I I Z hb I (by kernel_rfl) λe s=>?_;replace h:=h e s;refine bW 13 (.set 0<|.mp 3 36 (List.map (λp=>(V.int .i64) p.1)<|aR a.V_.Ref e b)<|List.map (λp=>V.raw p.2)<|aR a.V_.Ref e b) I (by kernel_rfl) (pj bh (encV:=V.raw) (k:=a.V_.Ref) (d:=e) (l:=b) underlying81 I I I I I I I I) (okM I) I (by kernel_rfl) I I ?_;exact qDe<|gJX (h K _ E<|by omega) [0,2] [] I E pq5 ⟨⟨_,I,_,_,I,I,I⟩,⟨_,I,I,I,I,I⟩,trivial⟩ I;refine gR 5 I ?_;obtain⟨hb,h⟩:=h;exact gR 1 I<|gV 52 (qi ((f+1:Nat):Int)) I (am (by omega)<|by omega) I<|gR 2 I<|go_xloop<|gJX (h K _ E<|by omega) [0,2] [] I E pq5 ⟨⟨_,I,_,_,I,I,I⟩,⟨_,I,I,I,I,I⟩,trivial⟩ I
theorem tX(m:Nat)(X1_2:(List<|Int×(Value×YI)))(a:YI)(o:(List<|Int×Bool))(g r0:YI)(h:y6 (0<(a.length:Int)) (∃i,((a.length:Int)-1)=((i:Nat):Int)∧∃b,a[i]?=some b∧∃c,((a.length:Int)-1)=((c:Nat):Int)∧c<=a.length∧((aC b (X1_2.map λp=>(p.1,p.2.2))=none)->gq m X1_2 [] 0 o g (a.take c) 0 r0)∧(∀(d:YI),aC b (X1_2.map λp=>(p.1,p.2.2))=some d->gq m X1_2 d d.length o g (a.take c) 0 r0))<|∃e,rp g e∧e=r0):gr (m+1) X1_2 a o g r0:=by
 refine qj λK j1 hK x=>?_;refine gR 5 rfl<|gV 59 (qi (a.length:Int)) rfl (aN<|az (V.int .i64) _) rfl<|gLO 3 rfl (az (V.int .i64) _) λq=>gR 3 rfl<|qXd 60 rfl rfl rfl h ?_ ?_<;>intro hd h;refine gR 9 I<|gV 63 (qi (a.length:Int)) I (aN<|az (V.int .i64) _) I<|gR 1 I<|gV 64 (qi<|(a.length:Int)-1) I (am (by have :=q;omega) I) I ?_;obtain⟨i,r,h⟩:=h;refine gV 64 (qi ((i:Nat):Int)) I (bc r) I ?_;obtain⟨b,j,h⟩:=h;refine gY (yIO ac I I I I<|qG<|av (f:=(V.int .i64)) j) I I ?_;refine gDo (.nop) (dLe ac I I I (av (f:=(V.int .i64)) j) I) trivial I I I<|gR 8 I<|gV 69 (qi (a.length:Int)) I (aN<|az (V.int .i64) _) I<|gR 1 I<|gV 70 (qi<|(a.length:Int)-1) I (am (by have :=q;omega) I) I ?_;obtain⟨c,s,h⟩:=h;refine gV 70 (qi ((c:Nat):Int)) I (bc s) I ?_;obtain⟨hb,h⟩:=h;refine gDo (.repl 3<|.row 3 1<|List.map (V.int .i64)<|a.take c) (dTr ac I I I I (by rw[az];exact hb)<|DE _ _ _) (okR I) I I I<|gR 7 I ?_;rcases n:aC b (X1_2.map λp=>(p.1,p.2.2))with _|d
 replace h:=h.1 n;exact gDo (v:=some<|.nils) (.nop) (od bh (encV:=(λl=>V.row 1<|List.map (V.int .i64) l)) (k:=b) (l:=(X1_2.map λp=>(p.1,p.2.2))) (zv:=.nils) n underlying81 zeroValue36 (by kernel_rfl) I I I I) trivial I I I<|gR 5 I<|go_loop m<|qJ hK (h K _ _ hK (by omega)<|by omega) [0,1,2,4] ⟨⟨_,I,.rfl⟩,⟨_,I,.rfl⟩,⟨_,I,.rfl⟩,⟨_,I,.rfl⟩,⟨_,I,(.nil 1)⟩,⟨_,I,.rfl⟩,⟨_,I,.rfl⟩,trivial⟩;replace h:=h.2 d n;exact gDo (v:=some<|.row 1<|List.map (V.int .i64) d) (.nop) (nX bh (encV:=(λl=>V.row 1<|List.map (V.int .i64) l)) (k:=b) (l:=(X1_2.map λp=>(p.1,p.2.2))) (zv:=.nils) n underlying81 zeroValue36 (by kernel_rfl) I I I I) trivial I I I<|gR 1 I<|gV 75 (qi (d.length:Int)) I (aN<|az (V.int .i64) _) I<|gLB 74 I (az (V.int .i64) _) λw=>gR 4 I<|go_loop m<|qJ hK (h K _ _ hK (by omega)<|by omega) [0,1,2,4];refine gR 3 I<|go_xloopE<|gR 5 I ?_;obtain⟨e,t,h⟩:=h;refine qC t [2] ?_;refine gHR 2 (List.map (V.int .i64) e) I (dH _ (V.int .i64) (λ_=>I) e) I<|gR 9 I<|gFR 2 I (eG _ (λ_=>I) _) I I ?_;subst h;exact qN [.tmp 4]
theorem tR(m:Nat)(E:aJ)(G:Int)(b:(List<|Int×Value))(c:(YN×(List<|Value×YI)))(a:Nat)(J:YI)(h:a+1<=9223372036854775807∧dl m E G (a+1) b c J):qu (m+1) E G b c a J:=by
 refine qj λK Z U d=>?_;refine gR 3 I ?_;obtain⟨hb,h⟩:=h;exact gR 1 I<|gV 52 (qi ((a+1:Nat):Int)) I (am (by omega)<|by omega) I<|gR 2 I<|go_xloop<|gJX (h K _ U<|by omega) [0,1] [] I U pq5 ⟨⟨_,I,_,_,I,I,I⟩,⟨_,I,I,I,I,I⟩,trivial⟩ I
theorem oO(m:Nat)(X1_2:(List<|Int×(Value×YI)))(g:YI)(d:Nat)(a:(List<|Int×Bool))(i n:YI)(c:Nat)(G:YI)(h:y6 (c<d) (∃b,g[c]?=some b∧((aC b a=none)->qf m X1_2 g d b true a i n c G)∧(∀(e:Bool),aC b a=some e->qf m X1_2 g d b (!e) a i n c G))<|gr m X1_2 n a i G):gq (m+1) X1_2 g d a i n c G:=by
 intro K J U E q r;obtain⟨J,rfl⟩:∃j,J=j+1:=⟨J-1,by omega⟩;obtain⟨U,rfl⟩:∃j,U=j+1:=⟨U-1,by omega⟩;refine gR 6 rfl<|qXh 77 rfl rfl rfl h bQ bS ?_ ?_<;>intro Z h;refine gR 7 I ?_;obtain⟨b,p,h⟩:=h;refine gY (ax (av (f:=(V.int .i64)) p) ac I I I I) I I<|gR 8 I ?_;rcases o:aC b a with _|e
 replace h:=h.1 o;exact gDo (v:=some<|.bool false) (.nop) (od bh (encV:=V.bool) (k:=b) (l:=a) (zv:=.bool false) o underlying82 zeroValue4 (by kernel_rfl) I I I I) trivial I I I<|gR 3 I<|qJ E (h K _ _ E (by omega)<|by omega) [0,1,2,3];replace h:=h.2 e o;exact gDo (v:=some<|.bool e) (.nop) (nX bh (encV:=V.bool) (k:=b) (l:=a) (zv:=.bool false) o underlying82 zeroValue4 (by kernel_rfl) I I I I) trivial I I I<|gR 3 I<|qJ E (h K _ _ E (by omega)<|by omega) [0,1,2,3];exact gR 3 I<|go_xloopE<|gR 2 I<|go_xloop<|qW E h [0,1,2,3]
theorem uB(m:Nat)(X1_2:(List<|Int×(Value×YI)))(g:YI)(i:Nat)(a:Int)(n:Bool)(c:(List<|Int×Bool))(e f:YI)(b:Nat)(G:YI)(h:y7 n ((e++[a]).length<=1000000000∧(f++[a]).length<=1000000000∧b+1<=9223372036854775807∧gq m X1_2 g i (aR a true c) (e++[a]) (f++[a]) (b+1) G)<|b+1<=9223372036854775807∧gq m X1_2 g i c e f (b+1) G):qf (m+1) X1_2 g i a n c e f b G:=by
 intro K J U E o q;obtain⟨J,rfl⟩:∃j,J=j+1:=⟨J-1,by omega⟩;obtain⟨U,rfl⟩:∃j,U=j+1:=⟨U-1,by omega⟩;refine qXi 83 rfl rfl rfl h ?_ ?_<;>intro Z h;refine gR 5 I<|gDo (.set 1 (.mp 3 4 (List.map (λp=>(V.int .i64) p.1) (aR a true c)) (List.map (λp=>V.bool p.2)<|aR a true c))) (pj bh (encV:=V.bool) (k:=a) (d:=true) (l:=c) underlying82 I I I I I I I I) (okM I) I I I<|gR 7 I ?_;obtain⟨hb,h⟩:=h;refine gDo (.repl 2<|.row 3 1<|List.map (V.int .i64)<|e++[a]) (bq ac I I I I I (apM (V.int .i64) e a) (by rw[az];exact hb)) (okR I) I I I<|gR 7 I ?_;obtain⟨hb,h⟩:=h;refine gDo (.repl 3<|.row 3 1<|List.map (V.int .i64)<|f++[a]) (bq ac I I I I I (apM (V.int .i64) f a) (by rw[az];exact hb)) (okR I) I I I<|gR 5 I ?_;obtain⟨hb,h⟩:=h;exact gR 1 I<|gV 94 (qi ((b+1:Nat):Int)) I (am (by omega)<|by omega) I<|gR 2 I<|go_xloop<|qJ E (h K _ _ E (by omega)<|by omega) [0,1,5,7];refine gR 5 I ?_;obtain⟨hb,h⟩:=h;exact gR 1 I<|gV 94 (qi ((b+1:Nat):Int)) I (am (by omega)<|by omega) I<|gR 2 I<|go_xloop<|qJ E (h K _ _ E (by omega)<|by omega) [0,1,2,3]
end Go.Proofs.YtehhanlhfdoiaaaGreat
