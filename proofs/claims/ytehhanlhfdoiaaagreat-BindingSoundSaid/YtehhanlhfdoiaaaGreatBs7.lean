/- Contracts of the functions that the law reaches, part 7. -/
import Derived.Test.YtehhanlhfdoiaaaGreatBs6
set_option linter.unusedVariables false
set_option linter.unusedSimpArgs false
namespace Go.Proofs.YtehhanlhfdoiaaaGreat
open _root_.Go.Proofs.Tryz
open Go.RowKit
variable{i:Nat}
variable{S:Nat->Prop}{ρ:Nat->Option Value}
variable{k:Nat}{xs:List Value}
open Go.RowKit Lx Sx
set_option maxRecDepth 100000
variable{t:Tree}
set_option maxHeartbeats 4000000
variable{x:Operand}{v:Value}
variable{b:Nat}
variable{a n:Int}
variable{L:YI}
open Go.RowKit Lx
variable{u:Tree}
variable{l r:List Pce}
variable{s:WS}
theorem Mc:zi bN (Ew Jy 5000 19 [.str LX])=true:=by kernel_rfl
theorem IJ:kbulk [bN]<=1000:=by decide+kernel
theorem Qd:bN.kind=1∧shapeK bN=true∧leadedT bN=true∧limK bN=true∧depK bN<=40∧(qE bN).length<=4096∧nN bN=8:=by decide+kernel
def isV(v:ak)(n r:Int):Bool:=decide (v.N=n)&&!v.Flag&&decide (v.Text=[])&&decide (v.Ref=r)
theorem Et{v:ak}{r:Int}(h:isV v n r=true):v=⟨n,false,[],r⟩:=by obtain⟨a,b,c,d⟩:=v;simp[isV]at h;obtain⟨⟨⟨rfl,rfl⟩,rfl⟩,rfl⟩:=h;rfl
theorem Po:(isV (Ah (nzF<|gw 1048576 [bN] 0 [bN]) 1048582 4) 16 1048578&&isV (Ah (nzF<|gw 1048576 [bN] 0 [bN]) 1048583 4) 17 1048579&&isV (Ah (nzF<|gw 1048576 [bN] 0 [bN]) 1048584 4) 12 1048579&&decide ((nzF<|gw 1048576 [bN] 0 [bN]).length<=1000))=true:=by decide+kernel
theorem RD{p:YT}(h:nNs p<=200):Few p:=λm t u q ht hq=>by have h1:=fy ht;have h2:=oI q t u hq;have E:=wc u.kids;rw[DA u]at h2;omega
theorem NF{p:YT}(h:t∈p):tbulk t<=kbulk p:=by obtain⟨i,hi,e⟩:=aaC h;exact cP (by rw[List.getElem?_eq_getElem hi,e])
theorem Hn{p:YT}(b:Int)(hb:kbulk p<=2000000)(hf:okP ov p=true->Few p):jw p b (cq ov b p).1 (cq ov b p).2.1 (cq ov b p).2.2:=
 c_Bind (by omega) (λt ht=>Mi t<|aao (NF ht) hb) (λt _ h=>((qo t).1 h).shape) hf
theorem Kp:oy true:=by
 obtain⟨v1,v2,U,Z,v5,v6,v7⟩:=Qd;have hb:=IJ;have hN:nNs [bN]=8:=by simp[nNs,v7]
 have hV:ov bN=true:=(qo _).2 ⟨v2,U,Z,v5,v6⟩;have E:=Hn (p:=[bN]) 1048576 (by omega) (λ_=>RD<|by omega);have e:cq ov 1048576 [bN]=(⟨nzF<|gw 1048576 [bN] 0 [bN]⟩,1048584,0):=by
  have h1:okP ov [bN]=true:=by simp[okP,v1,hV]
  rw[cq,if_pos ⟨h1,by decide⟩,hN];rfl
 rw[e]at E;have G:=Po;simp only[aab,aas]at G;obtain⟨⟨⟨c1,c2⟩,c3⟩,c4⟩:=G;have g1:=IU (nzF<|gw 1048576 [bN] 0 [bN]) 1048582 4 (by omega);have g2:=IU (nzF<|gw 1048576 [bN] 0 [bN]) 1048583 4 (by omega);have J:=IU (nzF<|gw 1048576 [bN] 0 [bN]) 1048584 4 (by omega);rw[Et c1]at g1;rw[Et c2]at g2;rw[Et c3]at J;exact vb 0 _ (⟨bN,0,0,OW Mc,_,_,_,E,λ_=>⟨λ_=>⟨λ_=>⟨_,g1,λ_=>⟨_,g2,λ_=>⟨_,J,by simp[ds]⟩,λh=>absurd ⟨rfl,rfl,rfl,rfl⟩ h⟩,λh=>absurd ⟨rfl,rfl,rfl,rfl⟩ h⟩,λh=>absurd rfl h⟩,λh=>absurd rfl h⟩,λh=>absurd rfl h⟩)
theorem Rc:kH true:=Kp
end Go.Proofs.YtehhanlhfdoiaaaGreat
