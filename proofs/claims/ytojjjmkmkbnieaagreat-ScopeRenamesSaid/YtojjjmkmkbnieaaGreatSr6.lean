/- Contracts of the functions that the law reaches, part 6. -/
import Derived.Test.YtojjjmkmkbnieaaGreatSr5
set_option linter.unusedVariables false
set_option linter.unusedSimpArgs false
namespace Go.Proofs.YtojjjmkmkbnieaaGreat
open _root_.Go.Proofs.Tryz
open Go.RowKit Lx Sx
set_option maxHeartbeats 1000000
variable{a:Int}
variable{L:List Int}
variable{t u:Tree}{i:Nat}
open Go.RowKit Lx
set_option maxRecDepth 100000
variable{l r:List Pce}
variable{v:Tree}
variable{n:Nat}
set_option maxHeartbeats 4000000
open Go.RowKit Go.ChangeShapes Go.WideShapes Go.Deep
variable{W:World}
variable{xs:List Value}
open Go.RowKit Go.Shelf Lx Sx
theorem BR:qm qu (vi zn 6000 12 [.str CD])=true:=by kernel_rfl
theorem tO:qu.kids.length=1:=by decide+kernel
theorem pY:tbulk fE≤10000000:=by decide+kernel
theorem Aw:cv fE=true:=by decide+kernel
theorem Ba:(bc fE).map (λv=>(v.Binder,v.Free))=[([0],false),([2],false),([2,1],false)]:=by decide+kernel
theorem zF:(bH (auL fE fE [] [] [2,0]).1.reverse [121]).2=false:=by decide+kernel
theorem Cd:(auL fE fE [] [] [2,0]).1.map (·.path)=[[0]]:=by decide+kernel
theorem Cy:(uU fE [2,1,1]).length=2:=by decide+kernel
theorem rk:qu.kids[0]?=some fE:=by
 have h:=tO;unfold fE
 match qu.kids,h with
 |[x],_=>rfl
theorem GX:gx true:=by
 have hv:=Ba;have hV:=mF fE (Nat.le_trans pY (by decide));obtain⟨V,hVe⟩:∃V,V=bc fE:=⟨_,rfl⟩;rw[←hVe]at hv hV;have hl:=Cd;have hB:=AU fE [2,0] [121] Aw (Nat.le_trans pY (by decide)) (by decide) (by
  have :=congrArg List.length hl;simp at this;omega) (λb hb=>by
  have :b.path∈[[(0:Int)]]:=by rw[←hl];exact List.mem_map_of_mem hb
  simp only[List.mem_singleton]at this;rw[this];decide)
 rw[zF]at hB
 match V,hv with
 | [x,y,z],hv=>
  simp only[List.map_cons,List.map_nil,List.cons.injEq,Prod.mk.injEq,and_true]at hv;obtain⟨⟨a1,a2⟩,_,a3,a4⟩:=hv;have hw:gx true:=by
   refine nI 0 _ ⟨qu,0,0,Dr BR,λh=>absurd rfl h,λ_=>⟨λh=>absurd (by rw[tO];rfl) h,λ_=>⟨fE,rk,_,hV,fE,rk,_,_,hB,λ_=>⟨x,rfl,λ_=>⟨x,rfl,true,a1▸ms _,λ_=>⟨z,rfl,true,a3▸ms _,λ_=>⟨λ_=>⟨fE,rk,_,yG fE [2,1,1] pY (by decide),by rw[Cy];rfl⟩,λh=>by cases h⟩,λh=>by cases h⟩,λh=>by cases h⟩,λh=>by rw[a2]at h;cases h⟩,λh=>absurd rfl h⟩⟩⟩
  exact hw
end Go.Proofs.YtojjjmkmkbnieaaGreat
