/- Contracts of the functions that the law reaches, part 5. -/
import Derived.Test.YtomplbgchbfjpaaGreatDoorTr4
set_option linter.unusedVariables false
set_option linter.unusedSimpArgs false
namespace Go.Proofs.YtomplbgchbfjpaaGreatDoor
open _root_.Go.Proofs.Tryz
open Go.RowKit Lx
set_option maxRecDepth 100000
theorem Fk(G:Nat)(t:Nat×Nat×Nat):∃a b c d:Int,sR G t=.agg #[.int .i64 a,.int .i64 b,.int .i64 c,.int .i64 d]:=by
 unfold sR;split<;>exact⟨_,_,_,_,rfl⟩
abbrev Ap:Obj:=.cells #[.int .i64 0,.int .i64 0,.int .i64 0,.int .i64 0] 189
set_option maxHeartbeats 4000000 in
theorem OR (l:List UInt8) (x:Int) (k:Nat) (hxk:x=k) (w:World) (hlt:k<l.length) (hl:l.length≤281474976710656):Calls prog 171 #[.string ⟨l.toArray⟩,.int .i64 x] w (uL k (tokenT (l.drop k)) w):=by
 subst hxk;obtain⟨T,hT⟩:∃T,tokenT (l.drop k)=T:=⟨_,rfl⟩;rw[hT];have h0:0<(l.drop k).length:=by simp;omega
 obtain⟨c,hc⟩:∃c,({data:=l.toArray}:ByteArray)[k]'hlt=c:=⟨_,rfl⟩;have HC:=Lib.hid (show l[k]=c from hc);have HC0:=Lib.hid (show(l.drop k)[0]=c from by rw[List.getElem_drop];exact hc);have HT:=Lib.hid ((vN h0 HC0.out).symm.trans hT);clear hT
 go_enter func171,ntmps171
 cases ha:bS c
 ·skip
  have HW:=Lib.hid (show T=(0,0,1)from by rw[←HT.out,if_pos ha])
  go_wp2_with (first|(go_at_call 185;refine qmm (cj _ _) ?_)|(go_at_call 186;refine qmm (ca _ _) ?_)|(go_at_call 187;refine qmm (dJ _ _) ?_)|(go_at_call 188;refine qmm (cz _ _) ?_)|(go_at_call 189;refine qmm (bk _ _) ?_)|(go_at_call 191;refine qmm (gb _ _ k rfl _ hlt hl) ?_))
  exact bodyPost_ret (v:=.agg #[.int .i64 0,.int .i64 0,.int .i64 1,.int .i64 k]) (by simp[results,results171,go_sem]) rfl (dp HW.out (by omega) (by omega) (by omega) qEx)
 have HA:=Lib.hid (show¬bS c=false from by simp[ha]);cases h34:((c.toNat:Int)==34)
 rotate_left
 ·have h34':=gx (m:=34) h34;have HT2:=Lib.hid (show T=(6,quotedT (l.drop (k+1)) 1)from by
   rw[←HT.out,if_neg HA.out,if_neg (by simp[bu,cO,upperB,h34']),if_neg (by simp[bZ,h34']),if_pos h34',List.tail_drop])
  clear h34'
  go_wp2_with (first|(go_at_call 185;refine qmm (cj _ _) ?_)|(go_at_call 186;refine qmm (ca _ _) ?_)|(go_at_call 187;refine qmm (dJ _ _) ?_)|(go_at_call 188;refine qmm (cz _ _) ?_)|(go_at_call 189;refine qmm (bk _ _) ?_)|(go_at_call 191;refine qmm (gb _ _ k rfl _ hlt hl) ?_))
  go_loopg [6] (l.length-(k+1)) (λg n wx=>∃i:Nat,g=l.length-i∧wx=w.alloc Ap∧k+1≤i∧i≤l.length∧n=.int .i64 i∧Hid (quotedT (l.drop (k+1)) 1=quotedT (l.drop i) (i-k)))
  case atStart=>exact⟨k+1,rfl,rfl,Nat.le_refl _,by omega,by go_num,Lib.hid (by congr 1;omega)⟩
  case round=>
   obtain⟨i,rfl,rfl,hki,hil,rfl,hrel⟩:=hrel;by_cases hit:i<l.length
   ·skip
    obtain⟨d,hd⟩:∃c,({data:=l.toArray}:ByteArray)[i]'hit=c:=⟨_,rfl⟩;have HD:=Lib.hid (show l[i]=d from hd);have HS:=Lib.hid (GH (j:=i-k) hit HD.out);cases hq:((d.toNat:Int)==34)
    rotate_left
    ·have HW:=Lib.hid (show T=(6,i-k+1,0)from by rw[HT2.out,hrel.out,HS.out,if_neg (by simp[AH (gx (m:=34) hq)]),if_pos (gx (m:=34) hq)])
     go_wp2_with (first|(go_at_call 185;refine qmm (cj _ _) ?_)|(go_at_call 186;refine qmm (ca _ _) ?_)|(go_at_call 187;refine qmm (dJ _ _) ?_)|(go_at_call 188;refine qmm (cz _ _) ?_)|(go_at_call 189;refine qmm (bk _ _) ?_)|(go_at_call 191;refine qmm (gb _ _ k rfl _ hlt hl) ?_))
     exact bodyPost_ret (v:=.agg #[.int .i64 ((i:Int)+1-k),.int .i64 6,.int .i64 0,.int .i64 0]) (by simp[results,results171,go_sem]) rfl (iO HW.out (by omega) (by omega) qEx)
    cases had:bS d
    ·have HW:=Lib.hid (show T=(6,i-k,1)from by rw[HT2.out,hrel.out,HS.out,if_pos had])
     go_wp2_with (first|(go_at_call 185;refine qmm (cj _ _) ?_)|(go_at_call 186;refine qmm (ca _ _) ?_)|(go_at_call 187;refine qmm (dJ _ _) ?_)|(go_at_call 188;refine qmm (cz _ _) ?_)|(go_at_call 189;refine qmm (bk _ _) ?_)|(go_at_call 191;refine qmm (gb _ _ k rfl _ hlt hl) ?_))
     exact bodyPost_ret (v:=.agg #[.int .i64 0,.int .i64 0,.int .i64 1,.int .i64 i]) (by simp[results,results171,go_sem]) rfl (dp HW.out (by omega) (by omega) (by omega) qEx)
    cases hpr:gs d
    ·have HW:=Lib.hid (show T=(6,0,2)from by rw[HT2.out,hrel.out,HS.out,if_neg (by simp[had]),if_neg (cW (m:=34) hq),if_pos (.inr (Gs had hpr))])
     go_wp2_with (first|(go_at_call 185;refine qmm (cj _ _) ?_)|(go_at_call 186;refine qmm (ca _ _) ?_)|(go_at_call 187;refine qmm (dJ _ _) ?_)|(go_at_call 188;refine qmm (cz _ _) ?_)|(go_at_call 189;refine qmm (bk _ _) ?_)|(go_at_call 191;refine qmm (gb _ _ k rfl _ hlt hl) ?_))
     exact bodyPost_ret (v:=.agg #[.int .i64 0,.int .i64 0,.int .i64 2,.int .i64 k]) (by simp[results,results171,go_sem]) rfl (dp HW.out (by omega) (by omega) (by omega) qEx)
    cases h92:((d.toNat:Int)==92)
    rotate_left
    ·have HW:=Lib.hid (show T=(6,0,2)from by rw[HT2.out,hrel.out,HS.out,if_neg (by simp[had]),if_neg (cW (m:=34) hq),if_pos (.inl (gx (m:=92) h92))])
     go_wp2_with (first|(go_at_call 185;refine qmm (cj _ _) ?_)|(go_at_call 186;refine qmm (ca _ _) ?_)|(go_at_call 187;refine qmm (dJ _ _) ?_)|(go_at_call 188;refine qmm (cz _ _) ?_)|(go_at_call 189;refine qmm (bk _ _) ?_)|(go_at_call 191;refine qmm (gb _ _ k rfl _ hlt hl) ?_))
     exact bodyPost_ret (v:=.agg #[.int .i64 0,.int .i64 0,.int .i64 2,.int .i64 k]) (by simp[results,results171,go_sem]) rfl (dp HW.out (by omega) (by omega) (by omega) qEx)
    ·go_wp2_with (first|(go_at_call 185;refine qmm (cj _ _) ?_)|(go_at_call 186;refine qmm (ca _ _) ?_)|(go_at_call 187;refine qmm (dJ _ _) ?_)|(go_at_call 188;refine qmm (cz _ _) ?_)|(go_at_call 189;refine qmm (bk _ _) ?_)|(go_at_call 191;refine qmm (gb _ _ k rfl _ hlt hl) ?_))
     go_roundg (l.length-(i+1))
     case measure=>omega
     case rel=>exact⟨i+1,rfl,rfl,by omega,by omega,by go_num,Lib.hid (by rw[hrel.out,HS.out,if_neg (by simp[had]),if_neg (cW (m:=34) hq),if_neg (λh=>h.elim (cW (m:=92) h92) (FQ hpr))];congr 1;omega)⟩
   ·have HW:=Lib.hid (show T=(6,0,2)from by rw[HT2.out,hrel.out,zH (by omega)])
    go_wp2_with (first|(go_at_call 185;refine qmm (cj _ _) ?_)|(go_at_call 186;refine qmm (ca _ _) ?_)|(go_at_call 187;refine qmm (dJ _ _) ?_)|(go_at_call 188;refine qmm (cz _ _) ?_)|(go_at_call 189;refine qmm (bk _ _) ?_)|(go_at_call 191;refine qmm (gb _ _ k rfl _ hlt hl) ?_))
    exact bodyPost_ret (v:=.agg #[.int .i64 0,.int .i64 0,.int .i64 2,.int .i64 k]) (by simp[results,results171,go_sem]) rfl (dp HW.out (by omega) (by omega) (by omega) qEx)
 cases hdg:bZ c
 rotate_left
 ·have HT2:=Lib.hid (show T=(5,jy (l.drop k))from by
   rw[←HT.out,if_neg HA.out,if_neg (by simp[bu,cO,upperB,bZ]at hdg⊢;omega),if_pos hdg])
  go_wp2_with (first|(go_at_call 185;refine qmm (cj _ _) ?_)|(go_at_call 186;refine qmm (ca _ _) ?_)|(go_at_call 187;refine qmm (dJ _ _) ?_)|(go_at_call 188;refine qmm (cz _ _) ?_)|(go_at_call 189;refine qmm (bk _ _) ?_)|(go_at_call 191;refine qmm (gb _ _ k rfl _ hlt hl) ?_))
  go_loopg [7] (l.length-k) (λg n wx=>∃i:Nat,g=l.length-i∧wx=w.alloc Ap∧k≤i∧i≤l.length∧n=.int .i64 i∧Hid (spanN bZ (l.drop k)=i-k+spanN bZ (l.drop i)))
  case atStart=>exact⟨k,rfl,rfl,Nat.le_refl _,by omega,rfl,Lib.hid (by omega)⟩
  case round=>
   obtain⟨i,rfl,rfl,hki,hil,rfl,hrel⟩:=hrel;by_cases hit:i<l.length
   ·skip
    obtain⟨d,hd⟩:∃c,({data:=l.toArray}:ByteArray)[i]'hit=c:=⟨_,rfl⟩;have HD:=Lib.hid (show l[i]=d from hd);cases hdd:bZ d
    ·skip
     have HN:=Lib.hid (show spanN bZ (l.drop k)=i-k from by rw[hrel.out,ra hit HD.out hdd];omega);by_cases h1:1<i-k
     ·have h1':(1:Int)<i-k:=by omega
      cases h48:((c.toNat:Int)==48)
      ·have HG:=Lib.hid (show 1<i-k→¬((l.drop k).getD 0 0).toNat=48 from λ_=>by rw[aN h0 HC0.out];exact cW (m:=48) h48);by_cases h15:15<i-k
       ·have h15':(15:Int)<i-k:=by omega
        have HW:=Lib.hid (show T=(5,0,3)from by rw[HT2.out,oS HN.out HG.out h15])
        go_wp2_with (first|(go_at_call 185;refine qmm (cj _ _) ?_)|(go_at_call 186;refine qmm (ca _ _) ?_)|(go_at_call 187;refine qmm (dJ _ _) ?_)|(go_at_call 188;refine qmm (cz _ _) ?_)|(go_at_call 189;refine qmm (bk _ _) ?_)|(go_at_call 191;refine qmm (gb _ _ k rfl _ hlt hl) ?_))
        exact bodyPost_ret (v:=.agg #[.int .i64 0,.int .i64 0,.int .i64 3,.int .i64 k]) (by simp[results,results171,go_sem]) rfl (dp HW.out (by omega) (by omega) (by omega) qEx)
       ·have h15':¬((15:Int)<i-k):=by omega
        have HW:=Lib.hid (show T=(5,i-k,0)from by rw[HT2.out,jK HN.out HG.out h15])
        go_wp2_with (first|(go_at_call 185;refine qmm (cj _ _) ?_)|(go_at_call 186;refine qmm (ca _ _) ?_)|(go_at_call 187;refine qmm (dJ _ _) ?_)|(go_at_call 188;refine qmm (cz _ _) ?_)|(go_at_call 189;refine qmm (bk _ _) ?_)|(go_at_call 191;refine qmm (gb _ _ k rfl _ hlt hl) ?_))
        exact bodyPost_ret (v:=.agg #[.int .i64 ((i:Int)-k),.int .i64 5,.int .i64 0,.int .i64 0]) (by simp[results,results171,go_sem]) rfl (iO HW.out (by omega) (by omega) qEx)
      ·skip
       have HW:=Lib.hid (show T=(5,0,2)from by rw[HT2.out,om HN.out h1 h0 HC0.out h48])
       go_wp2_with (first|(go_at_call 185;refine qmm (cj _ _) ?_)|(go_at_call 186;refine qmm (ca _ _) ?_)|(go_at_call 187;refine qmm (dJ _ _) ?_)|(go_at_call 188;refine qmm (cz _ _) ?_)|(go_at_call 189;refine qmm (bk _ _) ?_)|(go_at_call 191;refine qmm (gb _ _ k rfl _ hlt hl) ?_))
       exact bodyPost_ret (v:=.agg #[.int .i64 0,.int .i64 0,.int .i64 2,.int .i64 k]) (by simp[results,results171,go_sem]) rfl (dp HW.out (by omega) (by omega) (by omega) qEx)
     ·have h1':¬((1:Int)<i-k):=by omega
      have h15':¬((15:Int)<i-k):=by omega
      have HW:=Lib.hid (show T=(5,i-k,0)from by rw[HT2.out,jK HN.out (λh=>absurd h h1) (by omega)])
      go_wp2_with (first|(go_at_call 185;refine qmm (cj _ _) ?_)|(go_at_call 186;refine qmm (ca _ _) ?_)|(go_at_call 187;refine qmm (dJ _ _) ?_)|(go_at_call 188;refine qmm (cz _ _) ?_)|(go_at_call 189;refine qmm (bk _ _) ?_)|(go_at_call 191;refine qmm (gb _ _ k rfl _ hlt hl) ?_))
      exact bodyPost_ret (v:=.agg #[.int .i64 ((i:Int)-k),.int .i64 5,.int .i64 0,.int .i64 0]) (by simp[results,results171,go_sem]) rfl (iO HW.out (by omega) (by omega) qEx)
    ·go_wp2_with (first|(go_at_call 185;refine qmm (cj _ _) ?_)|(go_at_call 186;refine qmm (ca _ _) ?_)|(go_at_call 187;refine qmm (dJ _ _) ?_)|(go_at_call 188;refine qmm (cz _ _) ?_)|(go_at_call 189;refine qmm (bk _ _) ?_)|(go_at_call 191;refine qmm (gb _ _ k rfl _ hlt hl) ?_))
     go_roundg (l.length-(i+1))
     case measure=>omega
     case rel=>exact⟨i+1,rfl,rfl,by omega,by omega,by go_num,Lib.hid (by rw[hrel.out,mM hit HD.out hdd];omega)⟩
   ·skip
    have HN:=Lib.hid (show spanN bZ (l.drop k)=i-k from by rw[hrel.out,sU (by omega)];omega);by_cases h1:1<i-k
    ·have h1':(1:Int)<i-k:=by omega
     cases h48:((c.toNat:Int)==48)
     ·have HG:=Lib.hid (show 1<i-k→¬((l.drop k).getD 0 0).toNat=48 from λ_=>by rw[aN h0 HC0.out];exact cW (m:=48) h48);by_cases h15:15<i-k
      ·have h15':(15:Int)<i-k:=by omega
       have HW:=Lib.hid (show T=(5,0,3)from by rw[HT2.out,oS HN.out HG.out h15])
       go_wp2_with (first|(go_at_call 185;refine qmm (cj _ _) ?_)|(go_at_call 186;refine qmm (ca _ _) ?_)|(go_at_call 187;refine qmm (dJ _ _) ?_)|(go_at_call 188;refine qmm (cz _ _) ?_)|(go_at_call 189;refine qmm (bk _ _) ?_)|(go_at_call 191;refine qmm (gb _ _ k rfl _ hlt hl) ?_))
       exact bodyPost_ret (v:=.agg #[.int .i64 0,.int .i64 0,.int .i64 3,.int .i64 k]) (by simp[results,results171,go_sem]) rfl (dp HW.out (by omega) (by omega) (by omega) qEx)
      ·have h15':¬((15:Int)<i-k):=by omega
       have HW:=Lib.hid (show T=(5,i-k,0)from by rw[HT2.out,jK HN.out HG.out h15])
       go_wp2_with (first|(go_at_call 185;refine qmm (cj _ _) ?_)|(go_at_call 186;refine qmm (ca _ _) ?_)|(go_at_call 187;refine qmm (dJ _ _) ?_)|(go_at_call 188;refine qmm (cz _ _) ?_)|(go_at_call 189;refine qmm (bk _ _) ?_)|(go_at_call 191;refine qmm (gb _ _ k rfl _ hlt hl) ?_))
       exact bodyPost_ret (v:=.agg #[.int .i64 ((i:Int)-k),.int .i64 5,.int .i64 0,.int .i64 0]) (by simp[results,results171,go_sem]) rfl (iO HW.out (by omega) (by omega) qEx)
     ·skip
      have HW:=Lib.hid (show T=(5,0,2)from by rw[HT2.out,om HN.out h1 h0 HC0.out h48])
      go_wp2_with (first|(go_at_call 185;refine qmm (cj _ _) ?_)|(go_at_call 186;refine qmm (ca _ _) ?_)|(go_at_call 187;refine qmm (dJ _ _) ?_)|(go_at_call 188;refine qmm (cz _ _) ?_)|(go_at_call 189;refine qmm (bk _ _) ?_)|(go_at_call 191;refine qmm (gb _ _ k rfl _ hlt hl) ?_))
      exact bodyPost_ret (v:=.agg #[.int .i64 0,.int .i64 0,.int .i64 2,.int .i64 k]) (by simp[results,results171,go_sem]) rfl (dp HW.out (by omega) (by omega) (by omega) qEx)
    ·have h1':¬((1:Int)<i-k):=by omega
     have h15':¬((15:Int)<i-k):=by omega
     have HW:=Lib.hid (show T=(5,i-k,0)from by rw[HT2.out,jK HN.out (λh=>absurd h h1) (by omega)])
     go_wp2_with (first|(go_at_call 185;refine qmm (cj _ _) ?_)|(go_at_call 186;refine qmm (ca _ _) ?_)|(go_at_call 187;refine qmm (dJ _ _) ?_)|(go_at_call 188;refine qmm (cz _ _) ?_)|(go_at_call 189;refine qmm (bk _ _) ?_)|(go_at_call 191;refine qmm (gb _ _ k rfl _ hlt hl) ?_))
     exact bodyPost_ret (v:=.agg #[.int .i64 ((i:Int)-k),.int .i64 5,.int .i64 0,.int .i64 0]) (by simp[results,results171,go_sem]) rfl (iO HW.out (by omega) (by omega) qEx)
 have HDg:=Lib.hid (show¬bZ c=true from by simp[hdg]);have HQt:=Lib.hid (cW (m:=34) h34);cases hle:bu c
 rotate_left
 ·have HT2:=Lib.hid (show cd (l.drop k)=T from by rw[←HT.out,if_neg HA.out,if_pos hle]);obtain⟨a0,a1,a2,a3,hform⟩:=Fk k T;have HF:=Lib.hid hform;have CW:=Lib.hid (λw=>Ms l k k rfl w hlt (by rw[HC.out];exact hle) hl);clear hform;have hbe:cO c=true∨(cO c=false∧upperB c=true):=by cases h:cO c<;>simp_all[bu]
  rcases hbe with hlo|⟨hlo,hup⟩
  all_goals
   go_wp2_with (first|(go_at_call 185;refine qmm (cj _ _) ?_)|(go_at_call 186;refine qmm (ca _ _) ?_)|(go_at_call 187;refine qmm (dJ _ _) ?_)|(go_at_call 188;refine qmm (cz _ _) ?_)|(go_at_call 189;refine qmm (bk _ _) ?_)|(go_at_call 191;refine qmm (gb _ _ k rfl _ hlt hl) ?_))
   refine(CW.out _).mono ?_;rintro e w1 ⟨rfl,hext⟩;rw[HT2.out,HF.out];have hsz:=hext.size;have hc0:=hext.cell (p:=⟨w.heap.size,0,none⟩) (by simp);have hc1:=hext.cell (p:=⟨w.heap.size,1,none⟩) (by simp);have hc2:=hext.cell (p:=⟨w.heap.size,2,none⟩) (by simp);have hc3:=hext.cell (p:=⟨w.heap.size,3,none⟩) (by simp);have hf0:=hext.frozen (p:=⟨w.heap.size,0,none⟩) (by simp);have hf1:=hext.frozen (p:=⟨w.heap.size,1,none⟩) (by simp);have hf2:=hext.frozen (p:=⟨w.heap.size,2,none⟩) (by simp);have hf3:=hext.frozen (p:=⟨w.heap.size,3,none⟩) (by simp);have HX:=Lib.hid hext;clear hext;simp at hsz hc0 hc1 hc2 hc3 hf0 hf1 hf2 hf3
   go_wp2_with (first|(go_at_call 185;refine qmm (cj _ _) ?_)|(go_at_call 186;refine qmm (ca _ _) ?_)|(go_at_call 187;refine qmm (dJ _ _) ?_)|(go_at_call 188;refine qmm (cz _ _) ?_)|(go_at_call 189;refine qmm (bk _ _) ?_)|(go_at_call 191;refine qmm (gb _ _ k rfl _ hlt hl) ?_))
   exact bodyPost_ret (v:=.agg #[.int .i64 a0,.int .i64 a1,.int .i64 a2,.int .i64 a3]) (by simp[results,results171,go_sem,hc0,hc1,hc2,hc3]) rfl ⟨by rw[HF.out],(((((Ext.refl w).alloc _).trans HX.out).setCell (Nat.le_refl _) _).setCell (Nat.le_refl _) _).setCell (Nat.le_refl _) _|>.setCell (Nat.le_refl _) _⟩
 have HLt:=Lib.hid (show¬bu c=true from by simp[hle]);have hlo:cO c=false:=by cases h:cO c<;>simp_all[bu]
 have hup:upperB c=false:=by cases h:upperB c<;>simp_all[bu]
 have HSg:=Lib.hid (IA (l.drop k));have HG0:=Lib.hid (aN h0 HC0.out);have HT2:=Lib.hid (show T=if signLen (l.drop k)=0 then(0,0,2)else(8,signLen (l.drop k),0)from by
  rw[←HSg.out,HG0.out,←HT.out,if_neg HA.out,if_neg HLt.out,if_neg HDg.out,if_neg HQt.out])
 obtain⟨m,hm⟩:∃m,signLen (l.drop k)=m:=⟨_,rfl⟩;have HM:=Lib.hid hm;by_cases hm0:m=0
 ·have HW:=Lib.hid (show T=(0,0,2)from by rw[HT2.out,HM.out,if_pos hm0]);subst hm0
  go_wp2_with (first|(go_at_call 185;refine qmm (cj _ _) ?_)|(go_at_call 186;refine qmm (ca _ _) ?_)|(go_at_call 187;refine qmm (dJ _ _) ?_)|(go_at_call 188;refine qmm (cz _ _) ?_)|(go_at_call 189;refine qmm (bk _ _) ?_)|(go_at_call 191;refine qmm (gb _ _ k rfl _ hlt hl) ?_))
  exact bodyPost_ret (v:=.agg #[.int .i64 0,.int .i64 0,.int .i64 2,.int .i64 k]) (by simp[results,results171,go_sem]) rfl (dp HW.out (by omega) (by omega) (by omega) qEx)
 ·have HW:=Lib.hid (show T=(8,m,0)from by rw[HT2.out,HM.out,if_neg hm0]);have hmb:((m:Int)==0)=false:=by simp;omega
  go_wp2_with (first|(go_at_call 185;refine qmm (cj _ _) ?_)|(go_at_call 186;refine qmm (ca _ _) ?_)|(go_at_call 187;refine qmm (dJ _ _) ?_)|(go_at_call 188;refine qmm (cz _ _) ?_)|(go_at_call 189;refine qmm (bk _ _) ?_)|(go_at_call 191;refine qmm (gb _ _ k rfl _ hlt hl) ?_))
  exact bodyPost_ret (v:=.agg #[.int .i64 m,.int .i64 8,.int .i64 0,.int .i64 0]) (by simp[results,results171,go_sem]) rfl (iO HW.out (by omega) (by omega) qEx)
def Bn(c:UInt8):Int:=Lib.indexByte pT c
theorem Ep:∀(l:List UInt8) (c:UInt8),0≤Lib.indexByte l c↔l.contains c=true
 |[],c=>by simp[Lib.indexByte]
 | b::l,c=>by
  have ih:=Ep l c;have hg:=Lib.indexByte_ge l c;unfold Lib.indexByte;by_cases h:b=c
  ·simp[h]
  ·have h':¬c=b:=λe=>h e.symm;simp only[beq_iff_eq,h,if_false,List.contains_cons,h',Bool.or_eq_true,false_or];rw[←ih];split<;>omega
theorem pm(c:UInt8):0≤Bn c↔pT.contains c=true:=Ep _ _
theorem mA(c:UInt8)(w:World):Calls prog 120 #[.string ⟨#[40,41,91,93,58,44,61,43,45,42,60,63]⟩,.int .u8 (c.toNat:Int)] w λe w'=>e=.returned (.int .i64 (Bn c))∧w=w':=by
 refine(Fp _ _ w).mono ?_;rintro e w' ⟨rfl,rfl⟩;refine⟨bG ?_,rfl⟩;have :((c.toNat:Int)).toNat.toUInt8=c:=by simp
 rw[this];rfl
set_option maxHeartbeats 4000000 in
theorem ML(l:List UInt8)(w:World)(h0:0<l.length)(G:l.length≤281474976710656):Calls prog 79 #[.string ⟨l.toArray⟩] w λe w'=>e=.returned (.tuple #[.int .i64 ((tokenT l).1:Nat),.int .i64 ((tokenT l).2.1:Nat),.int .i64 ((tokenT l).2.2:Nat)])∧w=w':=by
 obtain⟨c0,hc0⟩:∃c,({data:=l.toArray}:ByteArray)[0]'h0=c:=⟨_,rfl⟩;have HC0:=Lib.hid (show l[0]=c0 from hc0);have HT:=Lib.hid (vN h0 HC0.out)
 go_enter func79,ntmps79
 cases ha:bS c0
 ·skip
  have HW:=Lib.hid (show tokenT l=(0,0,1)from by rw[HT.out,if_pos ha])
  go_wp2_with (first|(go_at_call 78;refine qmm (dP _ _) ?_)|(go_at_call 115;refine qmm (bD _ _) ?_)|(go_at_call 117;refine qmm (eL _ _) ?_)|(go_at_call 116;refine qmm (oq _ _ h0 G) ?_)|(go_at_call 118;refine qmm (kE _ _ G) ?_)|(go_at_call 119;refine qmm (ku _ _ h0 G) ?_)|(go_at_call 120;refine qmm (mA _ _) ?_))
  go_ret3
  exact⟨by rw[HW.out];rfl,rfl⟩
 have HA:=Lib.hid (show¬bS c0=false from by simp[ha]);cases J:bu c0
 rotate_left
 ·skip
  have HW:=Lib.hid (show tokenT l=cd l from by rw[HT.out,if_neg HA.out,if_pos J])
  go_wp2_with (first|(go_at_call 78;refine qmm (dP _ _) ?_)|(go_at_call 115;refine qmm (bD _ _) ?_)|(go_at_call 117;refine qmm (eL _ _) ?_)|(go_at_call 116;refine qmm (oq _ _ h0 G) ?_)|(go_at_call 118;refine qmm (kE _ _ G) ?_)|(go_at_call 119;refine qmm (ku _ _ h0 G) ?_)|(go_at_call 120;refine qmm (mA _ _) ?_))
  go_ret3
  exact⟨by rw[HW.out];rfl,rfl⟩
 have HL:=Lib.hid (show¬bu c0=true from by simp[J]);cases hd:bZ c0
 rotate_left
 ·skip
  have HW:=Lib.hid (show tokenT l=(5,jy l)from by rw[HT.out,if_neg HA.out,if_neg HL.out,if_pos hd])
  go_wp2_with (first|(go_at_call 78;refine qmm (dP _ _) ?_)|(go_at_call 115;refine qmm (bD _ _) ?_)|(go_at_call 117;refine qmm (eL _ _) ?_)|(go_at_call 116;refine qmm (oq _ _ h0 G) ?_)|(go_at_call 118;refine qmm (kE _ _ G) ?_)|(go_at_call 119;refine qmm (ku _ _ h0 G) ?_)|(go_at_call 120;refine qmm (mA _ _) ?_))
  go_ret3
  exact⟨by rw[HW.out];rfl,rfl⟩
 have HD:=Lib.hid (show¬bZ c0=true from by simp[hd]);cases O:((c0.toNat:Int)==34)
 rotate_left
 ·skip
  have HW:=Lib.hid (show tokenT l=(6,quotedT l.tail 1)from by rw[HT.out,if_neg HA.out,if_neg HL.out,if_neg HD.out,if_pos (gx (m:=34) O)])
  go_wp2_with (first|(go_at_call 78;refine qmm (dP _ _) ?_)|(go_at_call 115;refine qmm (bD _ _) ?_)|(go_at_call 117;refine qmm (eL _ _) ?_)|(go_at_call 116;refine qmm (oq _ _ h0 G) ?_)|(go_at_call 118;refine qmm (kE _ _ G) ?_)|(go_at_call 119;refine qmm (ku _ _ h0 G) ?_)|(go_at_call 120;refine qmm (mA _ _) ?_))
  go_ret3
  exact⟨by rw[HW.out];rfl,rfl⟩
 have HQ:=Lib.hid (cW (m:=34) O);cases U:((c0.toNat:Int)==61)
 ·skip
  have HE:=Lib.hid (show¬(c0.toNat=61∧1<l.length∧(l.getD 1 0).toNat=61)from λh=>cW (m:=61) U h.1);by_cases hs:0≤Bn c0
  ·skip
   have HW:=Lib.hid (show tokenT l=(8,1,0)from by rw[HT.out,if_neg HA.out,if_neg HL.out,if_neg HD.out,if_neg HQ.out,if_neg HE.out,if_pos ((pm c0).1 hs)])
   go_wp2_with (first|(go_at_call 78;refine qmm (dP _ _) ?_)|(go_at_call 115;refine qmm (bD _ _) ?_)|(go_at_call 117;refine qmm (eL _ _) ?_)|(go_at_call 116;refine qmm (oq _ _ h0 G) ?_)|(go_at_call 118;refine qmm (kE _ _ G) ?_)|(go_at_call 119;refine qmm (ku _ _ h0 G) ?_)|(go_at_call 120;refine qmm (mA _ _) ?_))
   go_ret3
   exact⟨by rw[HW.out];rfl,rfl⟩
  ·skip
   have HW:=Lib.hid (show tokenT l=(0,0,2)from by rw[HT.out,if_neg HA.out,if_neg HL.out,if_neg HD.out,if_neg HQ.out,if_neg HE.out,if_neg (λh=>hs ((pm c0).2 h))])
   go_wp2_with (first|(go_at_call 78;refine qmm (dP _ _) ?_)|(go_at_call 115;refine qmm (bD _ _) ?_)|(go_at_call 117;refine qmm (eL _ _) ?_)|(go_at_call 116;refine qmm (oq _ _ h0 G) ?_)|(go_at_call 118;refine qmm (kE _ _ G) ?_)|(go_at_call 119;refine qmm (ku _ _ h0 G) ?_)|(go_at_call 120;refine qmm (mA _ _) ?_))
   go_ret3
   exact⟨by rw[HW.out];rfl,rfl⟩
 by_cases h1:1<l.length
 rotate_left
 ·skip
  have HE:=Lib.hid (show¬(c0.toNat=61∧1<l.length∧(l.getD 1 0).toNat=61)from λh=>h1 h.2.1);by_cases hs:0≤Bn c0
  ·skip
   have HW:=Lib.hid (show tokenT l=(8,1,0)from by rw[HT.out,if_neg HA.out,if_neg HL.out,if_neg HD.out,if_neg HQ.out,if_neg HE.out,if_pos ((pm c0).1 hs)])
   go_wp2_with (first|(go_at_call 78;refine qmm (dP _ _) ?_)|(go_at_call 115;refine qmm (bD _ _) ?_)|(go_at_call 117;refine qmm (eL _ _) ?_)|(go_at_call 116;refine qmm (oq _ _ h0 G) ?_)|(go_at_call 118;refine qmm (kE _ _ G) ?_)|(go_at_call 119;refine qmm (ku _ _ h0 G) ?_)|(go_at_call 120;refine qmm (mA _ _) ?_))
   go_ret3
   exact⟨by rw[HW.out];rfl,rfl⟩
  ·skip
   have HW:=Lib.hid (show tokenT l=(0,0,2)from by rw[HT.out,if_neg HA.out,if_neg HL.out,if_neg HD.out,if_neg HQ.out,if_neg HE.out,if_neg (λh=>hs ((pm c0).2 h))])
   go_wp2_with (first|(go_at_call 78;refine qmm (dP _ _) ?_)|(go_at_call 115;refine qmm (bD _ _) ?_)|(go_at_call 117;refine qmm (eL _ _) ?_)|(go_at_call 116;refine qmm (oq _ _ h0 G) ?_)|(go_at_call 118;refine qmm (kE _ _ G) ?_)|(go_at_call 119;refine qmm (ku _ _ h0 G) ?_)|(go_at_call 120;refine qmm (mA _ _) ?_))
   go_ret3
   exact⟨by rw[HW.out];rfl,rfl⟩
 obtain⟨c1,hc1⟩:∃c,({data:=l.toArray}:ByteArray)[1]'h1=c:=⟨_,rfl⟩;have HC1:=Lib.hid (show l[1]=c1 from hc1);cases Z:((c1.toNat:Int)==61)
 ·skip
  have HE:=Lib.hid (show¬(c0.toNat=61∧1<l.length∧(l.getD 1 0).toNat=61)from λh=>cW (m:=61) Z (by rw[←aN h1 HC1.out];exact h.2.2));by_cases hs:0≤Bn c0
  ·skip
   have HW:=Lib.hid (show tokenT l=(8,1,0)from by rw[HT.out,if_neg HA.out,if_neg HL.out,if_neg HD.out,if_neg HQ.out,if_neg HE.out,if_pos ((pm c0).1 hs)])
   go_wp2_with (first|(go_at_call 78;refine qmm (dP _ _) ?_)|(go_at_call 115;refine qmm (bD _ _) ?_)|(go_at_call 117;refine qmm (eL _ _) ?_)|(go_at_call 116;refine qmm (oq _ _ h0 G) ?_)|(go_at_call 118;refine qmm (kE _ _ G) ?_)|(go_at_call 119;refine qmm (ku _ _ h0 G) ?_)|(go_at_call 120;refine qmm (mA _ _) ?_))
   go_ret3
   exact⟨by rw[HW.out];rfl,rfl⟩
  ·skip
   have HW:=Lib.hid (show tokenT l=(0,0,2)from by rw[HT.out,if_neg HA.out,if_neg HL.out,if_neg HD.out,if_neg HQ.out,if_neg HE.out,if_neg (λh=>hs ((pm c0).2 h))])
   go_wp2_with (first|(go_at_call 78;refine qmm (dP _ _) ?_)|(go_at_call 115;refine qmm (bD _ _) ?_)|(go_at_call 117;refine qmm (eL _ _) ?_)|(go_at_call 116;refine qmm (oq _ _ h0 G) ?_)|(go_at_call 118;refine qmm (kE _ _ G) ?_)|(go_at_call 119;refine qmm (ku _ _ h0 G) ?_)|(go_at_call 120;refine qmm (mA _ _) ?_))
   go_ret3
   exact⟨by rw[HW.out];rfl,rfl⟩
 ·skip
  have HW:=Lib.hid (show tokenT l=(8,2,0)from by rw[HT.out,if_neg HA.out,if_neg HL.out,if_neg HD.out,if_neg HQ.out,if_pos ⟨gx (m:=61) U,h1,by rw[aN h1 HC1.out];exact gx (m:=61) Z⟩])
  go_wp2_with (first|(go_at_call 78;refine qmm (dP _ _) ?_)|(go_at_call 115;refine qmm (bD _ _) ?_)|(go_at_call 117;refine qmm (eL _ _) ?_)|(go_at_call 116;refine qmm (oq _ _ h0 G) ?_)|(go_at_call 118;refine qmm (kE _ _ G) ?_)|(go_at_call 119;refine qmm (ku _ _ h0 G) ?_)|(go_at_call 120;refine qmm (mA _ _) ?_))
  go_ret3
  exact⟨by rw[HW.out];rfl,rfl⟩
set_option maxHeartbeats 1000000 in
theorem Mk(l:List UInt8)(w:World)(hl:l.length≤281474976710656):Calls prog 126 #[.string ⟨l.toArray⟩] w λe w'=>e=.returned (.int .i64 (cC l:Nat))∧w=w':=by
 by_cases G:l=[]
 ·subst G
  go_enter func126,ntmps126
  go_wp2
  go_ret
  exact⟨rfl,rfl⟩
 ·have hb1:(l==[])=false:=by simpa using G
  have hb2:l.isEmpty=false:=by simpa using G
  have J:0<l.length:=List.length_pos_iff.2 G;obtain⟨k,n,e,U⟩:∃k n e,tokenT l=(k,n,e):=⟨_,_,_,rfl⟩;have HT:=Lib.hid U;have HC:=Lib.hid (show cC l=if e=0∧n=l.length then k else 0 from by simp only[cC,if_neg G,U]);clear U G
  go_enter func126,ntmps126
  go_wp2_with fail
  refine(ML _ _ J hl).mono ?_;rintro e0 w' ⟨rfl,rfl⟩;rw[HT.out];by_cases he:e=0
  ·subst he;by_cases O:n=l.length
   ·have Z:((n:Int)!=(l.length:Int))=false:=by simp;omega
    have HR:=Lib.hid (HC.out.trans (if_pos ⟨rfl,O⟩));clear O
    go_wp2
    go_ret
    exact⟨bG (by rw[HR.out]),rfl⟩
   ·have Z:((n:Int)!=(l.length:Int))=true:=by simp;omega
    have HR:=Lib.hid (HC.out.trans (if_neg (λh=>O h.2)));clear O
    go_wp2
    go_ret
    exact⟨bG (by rw[HR.out];rfl),rfl⟩
  ·have heb:((e:Int)!=0)=true:=by simp;omega
   have HR:=Lib.hid (HC.out.trans (if_neg (λh=>he h.1)))
   go_wp2
   go_ret
   exact⟨bG (by rw[HR.out];rfl),rfl⟩
theorem vS{l:List UInt8}{c:UInt8}(G:0<l.length)(J:l[0]=c)(h:iW c=true∨c.toNat=35):tokenT l=(0,0,2):=by
 have hv:c.toNat=9∨c.toNat=10∨c.toNat=13∨c.toNat=32∨c.toNat=35:=by
  rcases h with h|h
  ·simp[iW]at h;omega
  ·omega
 have O:bS c=true:=by
  rcases hv with h|h|h|h|h<;>simp[bS,iW,gs,h]
 have hs:pT.contains c=false:=by
  have h:∀n:UInt8,(c==n)=(c.toNat==n.toNat):=λn=>by rw[Bool.eq_iff_iff];simp[UInt8.toNat_inj]
  simp only[pT,List.contains_cons,List.contains_nil,Bool.or_false,h];rcases hv with h|h|h|h|h<;>rw[h]<;>rfl
 rw[vN G J,if_neg (by simp[O]),if_neg (by simp[bu,cO,upperB];omega),if_neg (by simp[bZ];omega),if_neg (by omega),if_neg (by omega),if_neg (by rw[hs];simp)]
set_option maxHeartbeats 1000000 in
theorem MH(l:List UInt8)(w:World)(hl:l.length≤281474976710656):Calls prog 139 #[.string ⟨l.toArray⟩] w λe w'=>e=.returned (.int .i64 (cC l:Nat))∧Ext w w':=by
 by_cases J:l=[]
 ·subst J
  go_enter func139,ntmps139
  go_wp2
  go_ret
  exact⟨rfl,Ext.refl _⟩
 ·have hb1:(l==[])=false:=by simpa using J
  have hb2:l.isEmpty=false:=by simpa using J
  have hpos:0<l.length:=List.length_pos_iff.2 J;obtain⟨k,n,e,Z⟩:∃k n e,tokenT l=(k,n,e):=⟨_,_,_,rfl⟩;have HT:=Lib.hid Z;have HC:=Lib.hid (show cC l=if e=0∧n=l.length then k else 0 from by simp only[cC,if_neg J,Z]);clear Z J;obtain⟨c,hc⟩:∃c,({data:=l.toArray}:ByteArray)[0]'hpos=c:=⟨_,rfl⟩;have HC0:=Lib.hid (show l[0]=c from hc);cases hw:iW c
  rotate_left
  ·have O:(k,n,e)=(0,0,2):=HT.out.symm.trans (vS hpos HC0.out (.inl hw));have HR:=Lib.hid (show cC l=0 from by simp only[Prod.mk.injEq]at O;rw[HC.out,if_neg (by omega)]);clear O
   go_enter func139,ntmps139
   go_wp2_with (first|(go_at_call 170;refine qmm (zl _ _) ?_))
   go_ret
   exact⟨bG (by rw[HR.out];rfl),Ext.refl _⟩
  cases h35:((c.toNat:Int)==35)
  rotate_left
  ·have O:(k,n,e)=(0,0,2):=HT.out.symm.trans (vS hpos HC0.out (.inr (gx (m:=35) h35)));have HR:=Lib.hid (show cC l=0 from by simp only[Prod.mk.injEq]at O;rw[HC.out,if_neg (by omega)]);clear O
   go_enter func139,ntmps139
   go_wp2_with (first|(go_at_call 170;refine qmm (zl _ _) ?_))
   go_ret
   exact⟨bG (by rw[HR.out];rfl),Ext.refl _⟩
  have CN:=Lib.hid (λw=>OR l 0 0 rfl w hpos hl)
  go_enter func139,ntmps139
  go_wp2_with (first|(go_at_call 170;refine qmm (zl _ _) ?_))
  refine(CN.out _).mono ?_;rintro e0 w1 ⟨rfl,G⟩;rw[List.drop_zero,HT.out];have HX:=Lib.hid G;clear G CN;by_cases he:e=0
  ·subst he;have HI:=Lib.hid (show sR 0 (k,n,0)=.agg #[.int .i64 n,.int .i64 k,.int .i64 0,.int .i64 0]from by simp[sR]);rw[HI.out];clear HI;by_cases U:n=l.length
   ·have hnb:((n:Int)!=(l.length:Int))=false:=by simp;omega
    have HR:=Lib.hid (HC.out.trans (if_pos ⟨rfl,U⟩));clear U
    go_wp2
    go_ret
    exact⟨bG (by rw[HR.out]),HX.out.alloc _⟩
   ·have hnb:((n:Int)!=(l.length:Int))=true:=by simp;omega
    have HR:=Lib.hid (HC.out.trans (if_neg (λh=>U h.2)));clear U
    go_wp2
    go_ret
    exact⟨bG (by rw[HR.out];rfl),HX.out.alloc _⟩
  ·have HI:=Lib.hid (show sR 0 (k,n,e)=.agg #[.int .i64 0,.int .i64 0,.int .i64 e,.int .i64 ((0+n:Nat):Int)]from by simp[sR,he]);rw[HI.out];clear HI;have heb:((e:Int)!=0)=true:=by simp;omega
   have HR:=Lib.hid (HC.out.trans (if_neg (λh=>he h.1)))
   go_wp2
   go_ret
   exact⟨bG (by rw[HR.out];rfl),HX.out.alloc _⟩
open Go.RowKit Lx Sx
theorem sum0_calls{fid:FuncId}{us:List V}{v:V}(G:pureL us=true)(J:v.pure=true)(h:∀(S:Nat→Prop) w ρ xs,LRel S w ρ us xs→Calls prog fid xs.toArray w λe w'=>∃x,e=.returned x∧VRel S w' ρ v x∧Chg [] w w'):qF prog fid us v:=
 ⟨G,J,λS w ρ xs hr hx=>(h S w ρ xs hx).mono λe w' ⟨x,h1,h2,O⟩=>
  ⟨x,S,ρ,v,_,h1,rfl,hr.chg0 O,⟨ChgP.of0 O,λ_ h=>h,λ_ h=>.inl h,λid b hb=>.inl ⟨id,hb⟩,λid x h=>by
   simp only[tJ]at h;split at h
   ·exact h
   ·cases h⟩,h2⟩⟩
theorem KV{w w':World}(h:Ext w w'):Chg [] w w':=Chg.of_ext h []
theorem Lm(l:List UInt8)(G:l.length≤281474976710656):qF prog 126 [.str l] (.int .i64 (cC l:Nat)):=
 sum0_calls rfl rfl λS w ρ xs hx=>by
  simp only[LRel]at hx;obtain⟨x,ys,rfl,h1,rfl⟩:=hx;simp only[VRel]at h1;subst h1;exact(Mk l w G).mono λe w' ⟨h1,h2⟩=>⟨_,h1,by simp only[VRel],h2▸Chg.refl _ _⟩
theorem JM(l:List UInt8)(G:l.length≤281474976710656):qF prog 139 [.str l] (.int .i64 (cC l:Nat)):=
 sum0_calls rfl rfl λS w ρ xs hx=>by
  simp only[LRel]at hx;obtain⟨x,ys,rfl,h1,rfl⟩:=hx;simp only[VRel]at h1;subst h1;exact(MH l w G).mono λe w' ⟨h1,h2⟩=>⟨_,h1,by simp only[VRel],KV h2⟩
def po:List (List UInt8)→Nat
 |[]=>0
 |l::r=>l.length+1+po r
mutual
def tbulk:Tree→Nat
 |.node _ s ls ks=>s.length+po ls+kbulk ks+1
def kbulk:List Tree→Nat
 |[]=>0
 |t::r=>tbulk t+kbulk r
end
theorem vV(t:Tree):0<tbulk t:=by cases t;simp only[tbulk];omega
theorem ej:∀(ks:List Tree),ks.length≤kbulk ks
 |[]=>Nat.le_refl _
 |t::r=>by have :=ej r;have :=vV t;simp only[kbulk,List.length_cons];omega
theorem aY:∀{ks:List Tree} {i:Nat} {t:Tree},ks[i]?=some t→tbulk t≤kbulk ks
 |[],i,t,h=>by simp at h
 |u::r,0,t,h=>by simp only[List.getElem?_cons_zero,Option.some.injEq]at h;subst h;simp only[kbulk];omega
 |u::r,i+1,t,h=>by have :=aY (ks:=r) (i:=i) (by simpa using h);simp only[kbulk];omega
theorem CX:∀(l:List (List UInt8)),l.length≤po l
 |[]=>Nat.le_refl _
 |x::r=>by have :=CX r;simp only[po,List.length_cons];omega
theorem bp(t:Tree):tbulk t=t.text.length+po t.leads+kbulk t.kids+1:=by cases t;simp[tbulk,Tree.text,Tree.leads,Tree.kids]
variable{t u:Tree}{i:Nat}
theorem ax(h:t.kids[i]?=some u):tbulk u<tbulk t:=by
 have :=aY h;rw[bp t];omega
theorem bN(t:Tree):t.kids.length<tbulk t:=by
 have :=ej t.kids;rw[bp t];omega
theorem iT(t:Tree):t.text.length<tbulk t:=by rw[bp t];omega
theorem eY{C:Tree→Prop}(h:∀t:Tree,(∀(i:Nat) (u:Tree),t.kids[i]?=some u→C u)→C t):∀t,C t:=λt=>by
 have :∀n t,tbulk t≤n→C t:=λn=>by
  induction n with
  |zero=>intro t ht;have :=vV t;omega
  |succ n ih=>intro t ht;exact h t λi u G=>ih u (by have :=ax G;omega)
 exact this _ t (Nat.le_refl _)
theorem di{α:Type}(l:List α)(i:Nat):(∃x,l[i]?=some x∧i<l.length)∨(¬i<l.length):=by
 by_cases h:i<l.length
 ·exact .inl ⟨l[i],by simp[h],h⟩
 ·exact .inr h
theorem aJ{α:Type}{l:List α}{x:α}(h:l[i]?=some x):l.drop i=x::l.drop (i+1):=by
 obtain⟨G,rfl⟩:=List.getElem?_eq_some_iff.1 h;exact List.drop_eq_getElem_cons G
set_option maxHeartbeats 1000000
def f0(n:Int)(least leads list:Nat)(most:Int):Int:=if 0≤most∧most<n then-1 else if n<least then-1 else if most<0∧(list:Int)<n then leads+(n-list-1)else leads
def se(k n:Int):Int:=if k=1 then(if n<0 then-1 else 3)else if k=2 then f0 n 2 6 2 (-1)else if k=16 then f0 n 0 3 0 (-1)else if k=18 then f0 n 1 2 0 (-1)else if k=3 then f0 n 1 3 0 1 else if k=4 then f0 n 1 2 0 1 else if k=8 then f0 n 1 2 0 1 else if k=22 then f0 n 1 2 0 1 else if k=17 then f0 n 1 0 0 1 else if k=19 then f0 n 3 3 0 3 else if k=20 then f0 n 2 4 0 2 else if k=21 then f0 n 2 1 0 2 else if k=5∨k=6∨k=7∨k=9∨k=10∨k=11∨k=12∨k=13∨k=14∨k=15 then f0 n 0 1 0 0 else-1
theorem ta(a b c:Int):gu a b c (if a<b then-1 else c):=wQ 0 _ _ _ _ ⟨λh=>by rw[if_pos h],λh=>by rw[if_neg h]⟩
theorem My(a b c:Int):cw a b c (if a=b then c else-1):=vp 0 _ _ _ _ ⟨λh=>by rw[if_pos h],λh=>by rw[if_neg h]⟩
variable{n:Int}
theorem No(m:Nat)(J:0≤n)(h1:n≤1000000000)(a b c:Nat)(z:Int)(hb:b≤10)(O:c≤2)(G:¬(0≤z∧z<n)):mh (m+1) n a b c z (f0 n a b c z):=by
 refine xg m _ _ _ _ _ _ ⟨λh=>⟨λh'=>⟨by omega,by omega,by omega,_,ta _ _ _,?_⟩,λh'=>⟨_,ta _ _ _,?_⟩⟩,λh=>⟨_,ta _ _ _,?_⟩⟩
 ·simp only[f0,if_neg G,h,h',true_and,if_true]
 ·simp only[f0,if_neg G,h,h',true_and,if_false]
 ·simp only[f0,if_neg G,h,false_and,if_false]
theorem NN(m:Nat)(G:0≤n)(h1:n≤1000000000)(a b c:Nat)(z:Int)(hb:b≤10)(J:c≤2):aP (m+2) n a b c z (f0 n a b c z):=by
 refine xk (m+1) _ _ _ _ _ _ ⟨λh=>⟨λh'=>?_,λh'=>No m G h1 _ _ _ _ hb J (by omega)⟩,λh=>No m G h1 _ _ _ _ hb J (by omega)⟩;simp[f0,h,h']
theorem LQ{k:Int}(O:0≤n)(h1:n≤1000000000):px k n (se k n):=by
 have U:∀{r:Int} (a b c:Nat) (z:Int),b≤10→c≤2→r=f0 n a b c z→aP 3 n a b c z r:=λa b c z hb G e=>by rw[e];exact NN 1 O h1 a b c z hb G
 have J:∀{r:Int} (a b c:Nat) (z:Int),b≤10→c≤2→r=f0 n a b c z→aP 4 n a b c z r:=λa b c z hb G e=>by rw[e];exact NN 2 O h1 a b c z hb G
 refine yH 4 _ _ _ ?_
 repeat' first|(refine⟨_,ta _ _ _,?_⟩)|(refine And.intro (λ_=>?_) (λ_=>?_))|(refine xu 3 _ _ _ _ ?_)
 all_goals first|(refine J _ _ _ _ (by decide) (by decide) ?_)|(refine U _ _ _ _ (by decide) (by decide) ?_)|skip
 all_goals simp_all[se]
theorem JG{k:Int}(G:0≤n)(h1:n≤1000000000):lK k n (se k n):=by
 refine vb 2 _ _ _ ?_
 repeat' first|(refine⟨_,My _ _ _,?_⟩)|(refine And.intro (λ_=>?_) (λ_=>?_))|(refine ub 1 _ _ _ _ ?_)|(refine tL 0 _ _ _ _ ?_)|(refine And.intro (by omega) ?_)
 all_goals simp_all[se]
 all_goals (try unfold f0)
 all_goals (repeat' split)
 all_goals omega
def yN(x:List UInt8):Bool:=x==[43]||x==[45]||x==[42]||x==[60]||x==[61,61]
def mR(k:Int)(x:List UInt8):Bool:=if k=1∨k=3 then(cC x:Int)==2 else if k=2∨k=4∨k=12∨k=20 then(cC x:Int)==1 else if k=9 then(cC x:Int)==2||(cC x:Int)==4 else if k=16 then(cC x:Int)==1||(cC x:Int)==3 else if k=10 then(cC x:Int)==5 else if k=11 then(cC x:Int)==6 else if k=21 then yN x else x==[]
theorem GB(x:List UInt8):ni x (yN x):=by
 refine wd 0 _ _ ?_
 repeat' (refine And.intro (λ_=>?_) (λ_=>?_))
 all_goals simp_all[yN]
theorem DH(x:List UInt8):ji x (yN x):=by
 refine rb 0 _ _ ?_
 repeat' (refine And.intro (λ_=>?_) (λ_=>?_))
 all_goals simp_all[yN]
theorem Ju(k:Int)(x:List UInt8)(hx:x.length≤281474976710656):oE k x (mR k x):=by
 refine xZ 2 _ _ _ ?_;refine⟨_,Lm x hx,?_⟩
 repeat' first|(refine⟨_,GB _,?_⟩)|(refine And.intro (λ_=>?_) (λ_=>?_))|(refine wY 1 _ _ _ _ _ ?_)|(refine wT 0 _ _ _ _ _ ?_)
 all_goals simp_all[mR]
theorem Hg(k:Int)(x:List UInt8)(hx:x.length≤281474976710656):jT k x (mR k x):=by
 refine sO 2 _ _ _ ?_;refine⟨_,JM x hx,?_⟩
 repeat' first|(refine⟨_,DH _,?_⟩)|(refine And.intro (λ_=>?_) (λ_=>?_))|(refine sd 1 _ _ _ _ _ ?_)|(refine rH 0 _ _ _ _ _ ?_)
 all_goals simp_all[mR]
def fX(k:Int):Bool:=decide (5≤k∧k≤9)
def dv(k:Int):Bool:=decide (10≤k∧k≤22∧k≠17)
def wJ(k:Int):Bool:=dv k&&decide (k≠19∧k≠20∧k≠21)
theorem Jp(k:Int):lT k (fX k):=xW 0 _ _ ⟨λh=>by simp[fX,h],λh=>by simp[fX,h]⟩
theorem GS(k:Int):ix k (fX k):=uf 0 _ _ ⟨λh=>by simp[fX,h],λh=>by simp[fX,h]⟩
theorem wD(a b:Int):(a !=b)=decide (a≠b):=by by_cases h:a=b<;>simp[h]
theorem Bj(k:Int):fo k (dv k):=tA 0 _ _ ⟨λh=>⟨λh'=>by simp[dv,h,h',wD],λh'=>by simp[dv,h,h']⟩,λh=>by simp[dv,h]⟩
theorem tk(k:Int):dT k (dv k):=ud 0 _ _ ⟨λh=>⟨λh'=>by simp[dv,h,h',wD],λh'=>by simp[dv,h,h']⟩,λh=>by simp[dv,h]⟩
theorem Kd(k:Int):oV k (wJ k):=by
 refine xY 0 _ _ ⟨_,Bj k,?_⟩
 repeat' (refine And.intro (λ_=>?_) (λ_=>?_))
 all_goals simp_all[wJ,wD]
theorem HB(k:Int):la k (wJ k):=by
 refine tV 0 _ _ ⟨_,tk k,?_⟩
 repeat' (refine And.intro (λ_=>?_) (λ_=>?_))
 all_goals simp_all[wJ,wD]
def jL(k n:Int)(i:Int)(kk:Int):Bool:=if k=1 then kk==2||kk==3 else if k=2 then(if i=n-1 then dv kk else if i=n-2 then fX kk else kk==4)else if k=3∨k=4∨k=8 then fX kk else if k=16 then kk==17 else if k=21 then wJ kk||(decide (i=0)&&kk==21)else dv kk
theorem LW(G:t.kids[i]?=some u):pD t i (jL t.kind t.kids.length i u.kind):=by
 refine zp 1 _ _ _ ⟨i,rfl,u,G,?_⟩
 repeat' first|(refine⟨_,Bj _,?_⟩)|(refine⟨_,Jp _,?_⟩)|(refine⟨_,Kd _,?_⟩)|(refine And.intro (λ_=>?_) (λ_=>?_))|(refine xX 0 _ _ _ _ _ ?_)
 all_goals simp_all[jL]
theorem NZ(t:Tree)(i:Nat)(kk:Int):nr t i kk (jL t.kind t.kids.length i kk):=by
 refine wa 1 _ _ _ _ ?_
 repeat' first|(refine⟨_,tk _,?_⟩)|(refine⟨_,GS _,?_⟩)|(refine⟨_,HB _,?_⟩)|(refine And.intro (λ_=>?_) (λ_=>?_))|(refine vn 0 _ _ _ _ _ ?_)
 all_goals simp_all[jL]
mutual
def shapeK:Tree→Bool
 |.node k s _ ks=>decide (0≤se k ks.length)&&mR k s&&shapeKs k ks.length 0 ks
def shapeKs(k n:Int):Nat→List Tree→Bool
 |_,[]=>true
 |i,t::r=>jL k n i t.kind&&shapeK t&&shapeKs k n (i+1) r
end
theorem bV(t:Tree):shapeK t=(decide (0≤se t.kind t.kids.length)&&mR t.kind t.text&&shapeKs t.kind t.kids.length 0 t.kids):=by cases t;simp only[shapeK];rfl
theorem pC:∀t:Tree,tbulk t≤1000000000→fM t (shapeK t):=eY λt ih hb=>by
 have hk:=bN t;have ht:=iT t;have loop:∀m i,t.kids.length-i≤m→(0≤se t.kind t.kids.length∧mR t.kind t.text=true)→kQ (m+1) t i (shapeKs t.kind t.kids.length i (t.kids.drop i)):=λm=>by
  induction m with
  |zero=>
   intro i hi hw;refine qM 0 _ _ _ ⟨λh=>by omega,λh=>?_⟩;rw[List.drop_of_length_le (by omega),shapeKs]
  | succ m ihm=>
   intro i hi hw;refine qM (m+1) _ _ _ ⟨λh=>?_,λh=>?_⟩
   ·obtain⟨u,hu,_⟩|h':=di t.kids i
    ·rw[aJ hu,shapeKs];have hbu:=ax hu;refine⟨u,hu,_,LW hu,λh1=>by simp[h1],λh1=>⟨_,ih i u hu (by omega),λh2=>by simp[h1,h2],λh2=>⟨by omega,?_⟩⟩⟩;simp only[h1,h2,Bool.true_and];exact ihm (i+1) (by omega) hw
    ·exact absurd h h'
   ·rw[List.drop_of_length_le (by omega),shapeKs]
 rw[bV];refine yz (t.kids.length+1) _ _ ⟨_,LQ (by omega) (by omega),λh=>?_,λh=>⟨_,Ju _ _ (by omega),λh1=>by simp[h1],λh1=>?_⟩⟩
 ·rw[decide_eq_false (by omega)];rfl
 ·rw[decide_eq_true (by omega),h1];exact loop _ 0 (by omega) ⟨by omega,h1⟩
theorem Hx:∀t:Tree,tbulk t≤1000000000→iE t (shapeK t):=eY λt ih hb=>by
 have hk:=bN t;have ht:=iT t;have loop:∀m i,t.kids.length-i≤m→gU (m+1) t i (shapeKs t.kind t.kids.length i (t.kids.drop i)):=λm=>by
  induction m with
  |zero=>
   intro i hi;refine nv 0 _ _ _ ⟨λh=>by omega,λh=>?_⟩;rw[List.drop_of_length_le (by omega),shapeKs]
  | succ m ihm=>
   intro i hi;refine nv (m+1) _ _ _ ⟨λh=>?_,λh=>?_⟩
   ·obtain⟨u,hu,_⟩|h':=di t.kids i
    ·rw[aJ hu,shapeKs];have hbu:=ax hu;refine⟨u,hu,_,NZ _ _ _,λh1=>by simp[h1],λh1=>⟨u,hu,_,ih i u hu (by omega),λh2=>by simp[h1,h2],λh2=>?_⟩⟩;simp only[h1,h2,Bool.true_and];exact ihm (i+1) (by omega)
    ·exact absurd h h'
   ·rw[List.drop_of_length_le (by omega),shapeKs]
 rw[bV];refine tO (t.kids.length+1) _ _ ⟨_,JG (by omega) (by omega),λh=>?_,λh=>⟨_,Hg _ _ (by omega),λh1=>by simp[h1],λh1=>?_⟩⟩
 ·rw[decide_eq_false (by omega)];rfl
 ·rw[decide_eq_true (by omega),h1];exact loop _ 0 (by omega)
open Go.RowKit
set_option maxHeartbeats 1000000 in
theorem EK(s:ByteArray)(c:Int)(w:World):Calls prog 159 #[.string s,.int .u8 c] w λe w'=>e=.returned (.int .i64 (Lib.indexByte s.data.toList c.toNat.toUInt8))∧w=w':=by
 go_enter func159,ntmps159
 go_wp2
 rw[run_callFunc_extern func178 (by kernel_rfl) (by kernel_rfl) (by kernel_rfl) (e:=Extern.BytealgIndexByte.indexByte) (by kernel_rfl),Lib.run_indexByteString];simp only[Result.andThen];rw[Oper.upon_value]
 go_wp2
 go_ret
 exact⟨rfl,rfl⟩
theorem Gd(s:ByteArray)(c:Int)(w:World):Calls prog 120 #[.string s,.int .u8 c] w λe w'=>e=.returned (.int .i64 (Lib.indexByte s.data.toList c.toNat.toUInt8))∧w=w':=by
 go_enter func120,ntmps120
 go_wp2_with (go_at_call 159;refine qmm (EK _ _ _) ?_)
 go_ret
 exact⟨rfl,rfl⟩
def bL(s:List UInt8):List Tree→Nat→Int
 |[],_=>-1
 |t::r,i=>if t.text=s then(i:Int)else bL s r (i+1)
theorem rI(s:List UInt8):∀(l:List Tree) (i:Nat),bL s l i=-1∨∃k t,bL s l i=((i+k:Nat):Int)∧l[k]?=some t∧t.text=s∧∀j u,j<k→l[j]?=some u→u.text≠s
 |[],i=>.inl rfl
 | t::r,i=>by
  simp only[bL];split
  ·rename_i h;exact .inr ⟨0,t,rfl,rfl,h,λj u hj _=>by omega⟩
  ·rename_i h;rcases rI s r (i+1)with h1|⟨k,u,h1,h2,h3,h4⟩
   ·exact .inl h1
   ·refine .inr ⟨k+1,u,by rw[h1];congr 1;omega,by simpa using h2,h3,λj x hj hx=>?_⟩;cases j with
    |zero=>simp at hx;subst hx;exact h
    |succ j=>exact h4 j x (by omega) (by simpa using hx)
theorem Jd(t:Tree)(s:List UInt8):pF t s (t.text==s):=yD 0 _ _ _ rfl
theorem DF(l:List Tree)(s:List UInt8)(hl:l.length≤1000000000):mr l s (bL s l 0):=by
 have loop:∀m i,l.length-i≤m→jo (m+1) l s i (bL s (l.drop i) i):=λm=>by
  induction m with
  |zero=>
   intro i hi;refine oW 0 _ _ _ _ ⟨λh=>by omega,λh=>?_⟩;rw[List.drop_of_length_le (by omega),bL]
  | succ m ihm=>
   intro i hi;refine oW (m+1) _ _ _ _ ⟨λh=>?_,λh=>?_⟩
   ·obtain⟨u,hu,_⟩|h':=di l i
    ·rw[aJ hu,bL];refine⟨u,hu,_,Jd u s,λh1=>?_,λh1=>⟨by omega,?_⟩⟩
     ·rw[if_pos (by simpa using h1)]
     ·rw[if_neg (by simpa using h1)];exact ihm (i+1) (by omega)
    ·exact absurd h h'
   ·rw[List.drop_of_length_le (by omega),bL]
 exact vk _ _ _ _ (loop l.length 0 (by omega))
theorem Ee(l:List Tree)(s:List UInt8)(G:l.length≤1000000000):oL l s (bL s l 0):=AF 0 _ _ _ ⟨_,DF l s G,rfl⟩
def dh:List UInt8→Nat→Int
 |[],_=>-1
 |c::r,i=>if c=46 then(i:Int)else dh r (i+1)
theorem uG:∀(l:List UInt8) (i:Nat),dh l i=-1∨∃k,dh l i=((i+k:Nat):Int)∧k<l.length
 |[],i=>.inl rfl
 | c::r,i=>by
  simp only[dh];split
  ·exact .inr ⟨0,rfl,by simp⟩
  ·rcases uG r (i+1)with h1|⟨k,h1,h2⟩
   ·exact .inl h1
   ·exact .inr ⟨k+1,by rw[h1];congr 1;omega,by simp;omega⟩
theorem KG(c:UInt8):∀(l:List UInt8),-1≤Lib.indexByte l c
 |[]=>by simp[Lib.indexByte]
 |b::r=>by
  have :=KG c r;simp only[Lib.indexByte];split
  ·omega
  ·split<;>omega
theorem vc:∀(l:List UInt8) (i:Nat),dh l i=if Lib.indexByte l 46=-1 then-1 else Lib.indexByte l 46+(i:Int)
 |[],i=>by simp[dh,Lib.indexByte]
 | c::r,i=>by
  have ih:=vc r (i+1);have :=KG 46 r;simp only[dh,Lib.indexByte,ih];by_cases h:c=46
  ·simp[h]
  ·have h':(c==46)=false:=by simpa using h
   simp only[if_neg h,h'];by_cases h2:Lib.indexByte r 46=-1
   ·simp[h2]
   ·have h3:(Lib.indexByte r 46==-1)=false:=by simpa using h2
    simp only[if_neg h2,h3,Bool.false_eq_true,if_false];rw[if_neg (by omega)];omega
theorem Dz(l:List UInt8):jj l 46 (dh l 0):=sum0_calls rfl rfl λS w ρ xs hx=>by
 simp only[LRel]at hx;obtain⟨x,ys,rfl,h1,y,zs,rfl,h2,rfl⟩:=hx;simp only[VRel]at h1 h2;subst h1 h2;refine(EK _ _ w).mono λe w' ⟨h1,h2⟩=>⟨_,h1,?_,h2▸Chg.refl _ _⟩;simp only[VRel];have e:dh l 0=Lib.indexByte l 46:=by
  rw[vc];split
  ·rename_i h;rw[h]
  ·simp
 rw[e];rfl
theorem Lt(l:List UInt8):eZ l (dh l 0):=by
 refine nu 1 _ _ ⟨λh=>?_,λh=>ng 0 _ _ ?_⟩
 ·subst h;rfl
 ·exact⟨_,Dz l,rfl⟩
theorem Nu(l:List UInt8)(G:l.length≤1000000000):nh l (if 0≤dh l 0 then l.take (dh l 0).toNat else l) (if 0≤dh l 0 then l.drop ((dh l 0).toNat+1)else[]) (decide (0≤dh l 0)):=by
 refine vt 0 _ _ _ _ ⟨_,_,_,?_,rfl,rfl,rfl⟩;refine oh 0 _ _ _ _ ⟨_,Lt l,λh=>?_,λh=>?_⟩
 ·rcases uG l 0 with h1|⟨k,h1,h2⟩
  ·rw[h1]at h;omega
  ·rw[h1];exact⟨k,by simp,by omega,by omega,k+1,by simp,by omega,by simp,by simp,by simp⟩
 ·simp[h]
def inK(p:List Tree)(m:Int)(w:List UInt8):Int×Int×Bool:=if m<0 then(0,0,false)else match p[m.toNat]? with
 |none=>(0,0,false)
 |some t=>if bL w t.kids 0<0 then(0,0,false)else(m,bL w t.kids 0,true)
def aT(p:List Tree)(m:Int)(w:List UInt8):Int×Int×Bool:=if 0≤dh w 0 then inK p (bL (w.take (dh w 0).toNat) p 0) (w.drop ((dh w 0).toNat+1))else inK p m w
variable{p:List Tree}{m:Int}
theorem Eb{w:List UInt8}(G:m<p.length)(J:kbulk p≤1000000000):mP 1 p m w (inK p m w).1 (inK p m w).2.1 (inK p m w).2.2:=by
 refine zc 0 _ _ _ _ _ _ ⟨λh=>by simp[inK,h],λh=>?_⟩;obtain⟨t,ht,_⟩|h':=di p m.toNat
 ·have :=aY ht;have :=bN t;refine⟨m.toNat,by omega,t,ht,_,Ee _ _ (by omega),λh1=>?_,λh1=>?_⟩
  ·simp[inK,h,ht,h1]
  ·simp[inK,h,ht,h1]
 ·omega
theorem Bh{w:List UInt8}(h0:0≤m)(J:m<p.length)(G:kbulk p≤1000000000)(O:w.length≤1000000000):nD p m w (aT p m w).1 (aT p m w).2.1 (aT p m w).2.2:=by
 have U:=ej p;refine zI 1 _ _ _ _ _ _ ⟨λh=>by omega,λh=>⟨λh=>by omega,λh=>⟨_,_,_,Nu w O,λh1=>?_,λh1=>?_⟩⟩⟩
 ·have h1:0≤dh w 0:=by simpa using h1
  simp only[if_pos h1,aT];refine⟨_,Ee _ _ (by omega),?_⟩;refine Eb ?_ G;rcases rI (w.take (dh w 0).toNat) p 0 with h2|⟨k,t,h2,Z,_⟩
  ·rw[h2];omega
  ·have :=(List.getElem?_eq_some_iff.1 Z).1;rw[h2];omega
 ·have h1:¬0≤dh w 0:=by simpa using h1
  simp only[aT,if_neg h1];exact Eb J G
theorem Kq(l:List UInt8)(hl:l.length≤1000000000):nj l (dh l 0):=by
 have loop:∀m i,l.length-i≤m→jD (m+1) l i (dh (l.drop i) i):=λm=>by
  induction m with
  |zero=>
   intro i hi;refine pe 0 _ _ _ ⟨λh=>by omega,λh=>?_⟩;rw[List.drop_of_length_le (by omega),dh]
  | succ m ihm=>
   intro i hi;refine pe (m+1) _ _ _ ⟨λh=>?_,λh=>?_⟩
   ·obtain⟨u,hu,_⟩|h':=di l i
    ·rw[aJ hu,dh];refine⟨u,hu,λh1=>?_,λh1=>⟨by omega,?_⟩⟩
     ·rw[if_pos (UInt8.toNat_inj.1 (by show u.toNat=46;omega))]
     ·rw[if_neg (λe=>h1 (by subst e;rfl))];exact ihm (i+1) (by omega)
    ·exact absurd h h'
   ·rw[List.drop_of_length_le (by omega),dh]
 exact vW _ _ _ (loop l.length 0 (by omega))
variable{k:Nat}
theorem KS{m:Nat}{w:List UInt8}(ht:p[k]?=some t):∀i,t.kids.length-i≤m→eE (m+1) p i (k:Int) w (if bL w (t.kids.drop i) i<0 then 0 else(k:Int)) (if bL w (t.kids.drop i) i<0 then 0 else bL w (t.kids.drop i) i) (decide (¬bL w (t.kids.drop i) i<0)):=by
 induction m with
 |zero=>
  intro i hi;refine oG 0 _ _ _ _ _ _ _ ⟨k,rfl,t,ht,λh=>by omega,λh=>?_⟩;rw[List.drop_of_length_le (by omega),bL];simp
 | succ m ihm=>
  intro i hi;refine oG (m+1) _ _ _ _ _ _ _ ⟨k,rfl,t,ht,λh=>?_,λh=>?_⟩
  ·obtain⟨u,hu,_⟩|h':=di t.kids i
   ·rw[aJ hu,bL];refine⟨k,rfl,t,ht,u,hu,λh1=>?_,λh1=>?_⟩
    ·have h2:¬((i:Int)<0):=by omega
     simp only[if_pos h1,if_neg h2];simp[h2]
    ·simp only[if_neg h1];exact ihm (i+1) (by omega)
   ·exact absurd h h'
  ·rw[List.drop_of_length_le (by omega),bL];simp
theorem zt{w:List UInt8}(h0:0≤m)(hm:m<p.length)(hp:kbulk p≤1000000000)(hw:w.length≤1000000000):fk p m w (aT p m w).1 (aT p m w).2.1 (aT p m w).2.2:=by
 have hpl:=ej p;have one:∀(k:Nat) (x:List UInt8) t,p[k]?=some t→∃M,∀m',M≤m'→eE m' p 0 (k:Int) x (inK p k x).1 (inK p k x).2.1 (inK p k x).2.2:=λk x t ht=>by
  refine⟨t.kids.length+1,λm' hm'=>?_⟩;obtain⟨q,rfl⟩:∃q,m'=q+1:=⟨m'-1,by omega⟩;have :=KS (w:=x) (m:=q) ht 0 (by omega);have e:inK p k x=(if bL x (t.kids.drop 0) 0<0 then 0 else(k:Int),if bL x (t.kids.drop 0) 0<0 then 0 else bL x (t.kids.drop 0) 0,decide (¬bL x (t.kids.drop 0) 0<0)):=by
   simp only[inK,show¬((k:Int)<0) by omega,if_false,Int.toNat_natCast,ht,List.drop_zero];split<;>simp_all
  rw[e];exact this
 by_cases hd:0≤dh w 0
 ·rcases uG w 0 with h1|⟨k,h1,h2⟩
  ·rw[h1]at hd;omega
  have hk:(dh w 0).toNat=k:=by rw[h1];simp
  simp only[aT,if_pos hd,hk];have loop:∀n i,p.length-i≤n→i≤p.length→∃M,∀m',M≤m'→gm m' p w (dh w 0) i (inK p (bL (w.take k) (p.drop i) i) (w.drop (k+1))).1 (inK p (bL (w.take k) (p.drop i) i) (w.drop (k+1))).2.1 (inK p (bL (w.take k) (p.drop i) i) (w.drop (k+1))).2.2:=λn=>by
   have last:∀i,i=p.length→∃M,∀m',M≤m'→gm m' p w (dh w 0) i (inK p (bL (w.take k) (p.drop i) i) (w.drop (k+1))).1 (inK p (bL (w.take k) (p.drop i) i) (w.drop (k+1))).2.1 (inK p (bL (w.take k) (p.drop i) i) (w.drop (k+1))).2.2:=λi hi=>by
    refine⟨2,λm' hm'=>?_⟩;obtain⟨q,rfl⟩:∃q,m'=q+2:=⟨m'-2,by omega⟩;refine ll (q+1) _ _ _ _ _ _ _ ⟨λh=>by omega,λ_=>oA q _ _ _ _ _ _ _ ⟨λ_=>?_,λh=>absurd hi h⟩⟩;rw[List.drop_of_length_le (by omega),bL];simp[inK]
   induction n with
   |zero=>intro i hi hle;exact last i (by omega)
   | succ n ih=>
    intro i hi hle;obtain⟨u,hu,hlt⟩|h':=di p i
    ·by_cases ht:u.text=w.take k
     ·obtain⟨M,hM⟩:=one i (w.drop (k+1)) u hu;refine⟨M+2,λm' hm'=>?_⟩;obtain⟨q,rfl⟩:∃q,m'=q+2:=⟨m'-2,by omega⟩;rw[aJ hu,bL,if_pos ht];refine ll (q+1) _ _ _ _ _ _ _ ⟨λ_=>⟨u,hu,k,by rw[h1];simp,by omega,λh=>absurd ht h,λ_=>?_⟩,λh=>absurd hlt h⟩;refine oA q _ _ _ _ _ _ _ ⟨λh=>by omega,λ_=>⟨by rw[h1];omega,k+1,by rw[h1];omega,by omega,hM q (by omega)⟩⟩
     ·obtain⟨M,hM⟩:=ih (i+1) (by omega) (by omega);refine⟨M+1,λm' hm'=>?_⟩;obtain⟨q,rfl⟩:∃q,m'=q+1:=⟨m'-1,by omega⟩;rw[aJ hu,bL,if_neg ht];exact ll q _ _ _ _ _ _ _ ⟨λ_=>⟨u,hu,k,by rw[h1];simp,by omega,λ_=>hM q (by omega),λh=>absurd h ht⟩,λh=>absurd hlt h⟩
    ·exact last i (by omega)
  obtain⟨M,hM⟩:=loop p.length 0 (by omega) (by omega);exact pi M _ _ _ _ _ _ ⟨_,Kq w hw,λ_=>hM M (Nat.le_refl _),λh=>absurd hd h⟩
 ·simp only[aT,if_neg hd];obtain⟨t,ht,_⟩|h':=di p m.toNat
  ·obtain⟨M,hM⟩:=one m.toNat w t ht;have :=hM M (Nat.le_refl _);rw[show((m.toNat:Nat):Int)=m by omega]at this;exact pi M _ _ _ _ _ _ ⟨_,Kq w hw,λh=>absurd h hd,λ_=>this⟩
  ·omega
mutual
def nodK:Tree→List Int→List (List Int×Tree)
 |.node k s ls ks,q=>(q,.node k s ls ks)::nodKs ks q 0
def nodKs:List Tree→List Int→Nat→List (List Int×Tree)
 |[],_,_=>[]
 |t::r,q,i=>nodK t (q++[(i:Int)])++nodKs r q (i+1)
end
theorem dF(t:Tree)(q:List Int):nodK t q=(q,t)::nodKs t.kids q 0:=by cases t;simp only[nodK];rfl
mutual
theorem nodK_len:∀(t:Tree) (q:List Int),(nodK t q).length≤tbulk t
 |.node k s ls ks,q=>by have :=nodKs_len ks q 0;simp only[nodK,tbulk,List.length_cons];omega
theorem nodKs_len:∀(l:List Tree) (q:List Int) (i:Nat),(nodKs l q i).length≤kbulk l
 |[],_,_=>by simp[nodKs,kbulk]
 |t::r,q,i=>by have :=nodK_len t (q++[(i:Int)]);have :=nodKs_len r q (i+1);simp only[nodKs,kbulk,List.length_append];omega
end
def atK:Tree→List Int→Option Tree
 |t,[]=>some t
 |t,i::r=>if i<0 then none else match t.kids[i.toNat]? with
  |none=>none
  |some u=>atK u r
theorem wo:∀(t:Tree) (q r:List Int),atK t (q++r)=(atK t q).bind λu=>atK u r
 |t,[],r=>rfl
 | t,i::q,r=>by
  simp only[List.cons_append,atK];split
  ·rfl
  ·split
   ·rfl
   ·rename_i u hu;exact wo u q r
theorem rq(h:t.kids[i]?=some u):atK t [(i:Int)]=some u:=by
 simp[atK,h,show¬((i:Int)<0) by omega]
mutual
theorem nodK_at(root:Tree):∀(t:Tree) (q:List Int),atK root q=some t→∀x∈nodK t q,atK root x.1=some x.2
 |.node k s ls ks,q,h,x,hx=>by
  simp only[nodK,List.mem_cons]at hx;rcases hx with rfl|hx
  ·exact h
  ·exact nodKs_at root (.node k s ls ks) q h ks 0 rfl x hx
theorem nodKs_at(root t:Tree)(q:List Int)(h:atK root q=some t):∀(l:List Tree) (i:Nat),t.kids.drop i=l→∀x∈nodKs l q i,atK root x.1=some x.2
 |[],_,_,x,hx=>by simp[nodKs]at hx
 | u::r,i,hd,x,hx=>by
  simp only[nodKs,List.mem_append]at hx;have hu:t.kids[i]?=some u:=by
   have :=congrArg (·[0]?) hd;simpa using this
  rcases hx with hx|hx
  ·exact nodK_at root u (q++[(i:Int)]) (by rw[wo,h];exact rq hu) x hx
  ·exact nodKs_at root t q h r (i+1) (by rw[←List.tail_drop,hd];rfl) x hx
end
theorem Jb(l:List Int)(G:l.length≤1000000000):nR l l:=wX 0 _ _ λb hb=>⟨λh=>(List.length_eq_zero_iff.1 (hb h)).symm,λ_=>⟨G,rfl⟩⟩
theorem NW(t:Tree)(q:List Int)(hq:q.length≤1000000000):iV t q ((atK t q).getD (.node 0 [] [] [])) (atK t q).isSome:=by
 have loop:∀m i (u:Tree),q.length-i≤m→kc (m+1) q u i ((atK u (q.drop i)).getD (.node 0 [] [] [])) (atK u (q.drop i)).isSome:=λm=>by
  induction m with
  |zero=>
   intro i u hi;refine qh 0 _ _ _ _ _ ⟨λh=>by omega,λh=>?_⟩;rw[List.drop_of_length_le (by omega)];exact⟨rfl,rfl⟩
  | succ m ihm=>
   intro i u hi;refine qh (m+1) _ _ _ _ _ ⟨λh=>?_,λh=>?_⟩
   ·obtain⟨x,hx,_⟩|h':=di q i
    ·rw[aJ hx,atK];refine⟨x,hx,λh1=>by simp[h1],λh1=>⟨x,hx,λh2=>?_,λh2=>?_⟩⟩
     ·have :u.kids[x.toNat]?=none:=List.getElem?_eq_none (by omega);simp[h1,this]
     ·obtain⟨y,hy,_⟩|h3:=di u.kids x.toNat
      ·refine⟨x,hx,x.toNat,by omega,y,hy,?_⟩;simp only[if_neg h1,hy];exact ihm (i+1) y (by omega)
      ·omega
    ·exact absurd h h'
   ·rw[List.drop_of_length_le (by omega)];exact⟨rfl,rfl⟩
 have :=loop q.length 0 t (by omega);exact wU _ _ _ _ _ (by simpa using this)
theorem uW(l:List Int):cD l l true:=by
 have loop:∀m i,l.length-i≤m→dZ (m+1) l l i true:=λm=>by
  induction m with
  |zero=>intro i hi;exact fP 0 _ _ _ _ ⟨λh=>by omega,λh=>rfl⟩
  |succ m G=>
   intro i hi;refine fP (m+1) _ _ _ _ ⟨λh=>?_,λh=>rfl⟩;obtain⟨u,J,_⟩|h':=di l i
   ·exact⟨u,J,u,J,λh=>absurd rfl h,λ_=>G (i+1) (by omega)⟩
   ·exact absurd h h'
 exact jq (l.length+1) _ _ _ ⟨λh=>absurd rfl h,λ_=>loop l.length 0 (by omega)⟩
theorem xd(l:List (List UInt8)):jt l l true:=by
 have loop:∀m i,l.length-i≤m→fS (m+1) l l i true:=λm=>by
  induction m with
  |zero=>intro i hi;exact lU 0 _ _ _ _ ⟨λh=>by omega,λh=>rfl⟩
  |succ m G=>
   intro i hi;refine lU (m+1) _ _ _ _ ⟨λh=>?_,λh=>rfl⟩;obtain⟨u,J,_⟩|h':=di l i
   ·exact⟨u,J,u,J,λh=>absurd rfl h,λ_=>G (i+1) (by omega)⟩
   ·exact absurd h h'
 exact sn (l.length+1) _ _ _ ⟨λh=>absurd rfl h,λ_=>loop l.length 0 (by omega)⟩
def cP(u:Tree):Bool:=u.kind==16||u.kind==9
def tgK(p:List Tree)(m:Int)(q:List Int)(u:Tree):ar:=⟨⟨m,q⟩,(aT p m u.text).1,(aT p m u.text).2.1,!(aT p m u.text).2.2⟩
def aO(p:List Tree)(m:Int):List (List Int×Tree)→List ar
 |[]=>[]
 |x::r=>(if cP x.2 then[tgK p m x.1 x.2]else[])++aO p m r
theorem kO(p:List Tree)(m:Int):∀a b,aO p m (a++b)=aO p m a++aO p m b
 |[],b=>rfl
 |x::r,b=>by simp only[List.cons_append,aO,kO p m r b,List.append_assoc]
theorem uD(p:List Tree)(m:Int):∀a,(aO p m a).length≤a.length
 |[]=>Nat.le_refl _
 |x::r=>by have :=uD p m r;simp only[aO,List.length_append,List.length_cons];split<;>simp <;>omega
variable{M:Int}
theorem KN(h0:0≤M)(hM:M<p.length)(hp:kbulk p≤1000000000):∀(t:Tree) (q:List Int) (fd:List ar),q.length+tbulk t≤1000000000→fd.length+tbulk t≤1000000000→gz p M q fd t p M q (fd++aO p M (nodK t q)):=eY λt ih q fd hq hf=>by
 have hk:=bN t;have ht:=iT t;have hb:=bp t;have loop:∀k i fd,t.kids.length-i≤k→fd.length+kbulk (t.kids.drop i)≤1000000000→ee (k+1) t fd p M q i p M q (fd++aO p M (nodKs (t.kids.drop i) q i)):=λk=>by
  induction k with
  |zero=>
   intro i fd hi hf;refine mH 0 _ _ _ _ _ _ _ _ _ _ ⟨λh=>by omega,λh=>⟨rfl,rfl,rfl,?_⟩⟩;rw[List.drop_of_length_le (by omega)];simp[nodKs,aO]
  | succ k ihk=>
   intro i fd hi hf;refine mH (k+1) _ _ _ _ _ _ _ _ _ _ ⟨λh=>?_,λh=>⟨rfl,rfl,rfl,?_⟩⟩
   ·obtain⟨u,hu,_⟩|h':=di t.kids i
    ·have hd:=aJ hu;rw[hd,kbulk]at hf;have hbu:=ax hu;have hl:=nodK_len u (q++[(i:Int)]);have hl2:=uD p M (nodK u (q++[(i:Int)]));refine⟨u,hu,by simp;omega,_,_,_,_,ih i u hu (q++[(i:Int)]) fd (by simp;omega) (by omega),q.length,by simp,by simp,by omega,?_⟩;have :=ihk (i+1) (fd++aO p M (nodK u (q++[(i:Int)]))) (by omega) (by simp;omega);rw[hd,nodKs,kO,←List.append_assoc];simpa using this
    ·exact absurd h h'
   ·rw[List.drop_of_length_le (by omega)];simp[nodKs,aO]
 have key:∀b,b=cP t→gd (t.kids.length+3) p M q fd t b p M q (fd++aO p M (nodK t q)):=λb hbb=>by
  rw[dF,aO];refine sh (t.kids.length+2) _ _ _ _ _ _ _ _ _ _ ⟨λh=>?_,λh=>?_⟩
  ·rw[if_pos (by rw[←hbb];exact h)];refine⟨_,_,_,Bh h0 hM hp (by omega),_,Jb q (by omega),rK (t.kids.length+1) _ _ _ _ _ _ _ _ _ _ _ _ _ ⟨by simp;omega,?_⟩⟩;have :=loop t.kids.length 0 (fd++[tgK p M q t]) (by omega) (by simp;omega);rw[←List.append_assoc];exact this
  ·rw[if_neg (by rw[←hbb,h];simp)];have :=loop (t.kids.length+1) 0 fd (by omega) (by simp;omega);simpa using this
 refine sK (t.kids.length+3) _ _ _ _ _ _ _ _ _ ⟨λh=>key _ (by simp[cP,h]),λh=>key _ (by simp[cP,h])⟩
def aR:List Tree→Bool
 |[]=>true
 |t::r=>t.kind==1&&shapeK t&&aR r
theorem zV(p:List Tree)(hp:kbulk p≤1000000000):mO p (aR p):=by
 have hl:=ej p;have loop:∀m i,p.length-i≤m→ml (m+1) p i (aR (p.drop i)):=λm=>by
  induction m with
  |zero=>
   intro i hi;refine rQ 0 _ _ _ ⟨λh=>by omega,λh=>?_⟩;rw[List.drop_of_length_le (by omega),aR]
  | succ m ihm=>
   intro i hi;refine rQ (m+1) _ _ _ ⟨λh=>?_,λh=>?_⟩
   ·obtain⟨u,hu,_⟩|h':=di p i
    ·rw[aJ hu,aR];have :=aY hu;refine⟨u,hu,λh1=>by simp[h1],λh1=>⟨_,pC u (by omega),λh2=>by simp[h1,h2],λh2=>⟨by omega,?_⟩⟩⟩;simp only[h1,h2,beq_self_eq_true,Bool.true_and];exact ihm (i+1) (by omega)
    ·exact absurd h h'
   ·rw[List.drop_of_length_le (by omega),aR]
 exact zr _ _ _ (loop p.length 0 (by omega))
theorem iF(p:List Tree)(hp:kbulk p≤1000000000):fg p (aR p):=by
 have hl:=ej p;have loop:∀m i,p.length-i≤m→gG (m+1) p i (aR (p.drop i)):=λm=>by
  induction m with
  |zero=>
   intro i hi;refine mU 0 _ _ _ ⟨λh=>by omega,λh=>?_⟩;rw[List.drop_of_length_le (by omega),aR]
  | succ m ihm=>
   intro i hi;refine mU (m+1) _ _ _ ⟨λh=>?_,λh=>?_⟩
   ·obtain⟨u,hu,_⟩|h':=di p i
    ·rw[aJ hu,aR];have :=aY hu;refine⟨u,hu,λh1=>by simp[h1],λh1=>⟨u,hu,_,Hx u (by omega),λh2=>by simp[h1,h2],λh2=>?_⟩⟩;simp only[h1,h2,beq_self_eq_true,Bool.true_and];exact ihm (i+1) (by omega)
    ·exact absurd h h'
   ·rw[List.drop_of_length_le (by omega),aR]
 exact tx _ _ _ (loop p.length 0 (by omega))
def eP(p:List Tree):Nat→List Tree→List ar
 |_,[]=>[]
 |i,t::r=>aO p i (nodK t [])++eP p (i+1) r
theorem An(p:List Tree):∀(i:Nat) (l:List Tree),(eP p i l).length≤kbulk l
 |_,[]=>Nat.le_refl _
 |i,t::r=>by
  have :=An p (i+1) r;have :=uD p i (nodK t []);have :=nodK_len t [];simp only[eP,kbulk,List.length_append];omega
def bo(p:List Tree):List ar:=if aR p then eP p 0 p else[]
theorem Ai(p:List Tree)(hp:kbulk p≤100000000):mT p (bo p):=by
 have hl:=ej p;have loop:∀m i z fd,p.length-i≤m→fd.length+kbulk (p.drop i)≤1000000000→lY (m+1) p p z [] fd i (fd++eP p i (p.drop i)):=λm=>by
  induction m with
  |zero=>
   intro i z fd hi hf;refine rP 0 _ _ _ _ _ _ _ ⟨λh=>by omega,λh=>?_⟩;rw[List.drop_of_length_le (by omega)];simp[eP]
  | succ m ihm=>
   intro i z fd hi hf;refine rP (m+1) _ _ _ _ _ _ _ ⟨λh=>?_,λh=>?_⟩
   ·obtain⟨u,hu,_⟩|h':=di p i
    ·have :=aY hu;have hd:=aJ hu;rw[hd,kbulk]at hf;have :=uD p i (nodK u []);have :=nodK_len u [];refine⟨u,hu,_,_,_,_,KN (p:=p) (M:=(i:Int)) (by omega) (by omega) (by omega) u [] fd (by simp;omega) (by omega),by omega,?_⟩;rw[hd,eP,←List.append_assoc];exact ihm (i+1) _ _ (by omega) (by simp;omega)
    ·exact absurd h h'
   ·rw[List.drop_of_length_le (by omega)];simp[eP]
 refine yM (p.length+1) _ _ ⟨_,zV p (by omega),λh=>by simp[bo,h],λh=>?_⟩;have :=loop p.length 0 0 [] (by omega) (by simp;omega);simpa[bo,h]using this
theorem tZ{w:List UInt8}(h:(inK p M w).2.2=true):∃(i d:Nat) (t u:Tree),M=(i:Int)∧(inK p M w).1=(i:Int)∧(inK p M w).2.1=(d:Int)∧p[i]?=some t∧t.kids[d]?=some u∧u.text=w∧∀j v,j<d→t.kids[j]?=some v→v.text≠w:=by
 unfold inK at h⊢;by_cases hM:M<0
 ·rw[if_pos hM]at h;cases h
 ·rw[if_neg hM]at h⊢;cases ht:p[M.toNat]? with
  |none=>rw[ht]at h;cases h
  | some t=>
   rw[ht]at h;simp only at h⊢;rcases rI w t.kids 0 with e|⟨k,u,e1,e2,e3,e4⟩
   ·simp[e]at h
   ·have hn:¬bL w t.kids 0<0:=by omega
    rw[if_neg hn];exact⟨M.toNat,k,t,u,by omega,by simp only[];omega,by simp only[];omega,ht,e2,e3,e4⟩
theorem IW{w:List UInt8}(h:(aT p M w).2.2=true):∃(i d:Nat) (t u:Tree),(aT p M w).1=(i:Int)∧(aT p M w).2.1=(d:Int)∧p[i]?=some t∧t.kids[d]?=some u:=by
 unfold aT at h⊢;split at h
 ·rename_i G;rw[if_pos G];obtain⟨i,d,t,u,_,a1,J,O,U,_⟩:=tZ h;exact⟨i,d,t,u,a1,J,O,U⟩
 ·rename_i G;rw[if_neg G];obtain⟨i,d,t,u,_,a1,J,O,U,_⟩:=tZ h;exact⟨i,d,t,u,a1,J,O,U⟩
theorem zU{w:List UInt8}(h:cC w=k)(J:0<k∧k<5):(cd w).2.1=w.length∧(cd w).1=k:=by
 unfold cC at h;split at h
 ·omega
 ·split at h
  ·rename_i G;have e:tokenT w=cd w:=by
    unfold tokenT at h⊢;simp only[]at h⊢
    repeat' split at h
    all_goals simp_all
    all_goals omega
   rw[e]at G h;exact⟨G.2,h⟩
  ·omega
theorem AW{w:List UInt8}(h:cC w=k)(U:k=1∨k=2):spanN aZ w=w.length∧(k=1↔cO (w.getD 0 0)=true):=by
 obtain⟨h1,h2⟩:=zU h (by omega);unfold cd at h1 h2;split at h1
 ·rename_i J;rw[if_pos J]at h2;unfold fO at h2
  repeat' split at h2
  all_goals simp only at h2
  all_goals omega
 ·rename_i J;rw[if_neg J]at h2;unfold bQ at h1 h2;split at h2
  ·simp only at h2;omega
  ·rename_i a1;rw[if_neg a1]at h1;split at h2
   ·simp only at h2;omega
   ·rename_i O;rw[if_neg O]at h1;split at h2
    ·rename_i G;rw[if_pos G]at h1;simp only at h1 h2;exact⟨h1,λ_=>G,λ_=>h2.symm⟩
    ·rename_i G;rw[if_neg G]at h1;simp only at h1 h2;exact⟨h1,λh=>by omega,λh=>absurd h G⟩
theorem Ge{w:List UInt8}(h:cC w=k)(U:k=3∨k=4):spanN aZ w<w.length∧w.getD (spanN aZ w) 0=46∧(k=3↔cO (w.getD (spanN aZ w+1) 0)=true):=by
 obtain⟨h1,h2⟩:=zU h (by omega);unfold cd at h1 h2;split at h1
 ·rename_i J;rw[if_pos J]at h2;have G:=J;simp only[eh,Bool.and_eq_true,decide_eq_true_eq,beq_iff_eq]at G;refine⟨by omega,?_,?_⟩
  ·have :=G.1.2;exact UInt8.toNat_inj.1 (by rw[this];rfl)
  ·unfold fO at h2
   repeat' split at h2
   all_goals simp only at h2
   all_goals first
    |omega
    |(rename_i O;exact⟨λ_=>O,λ_=>h2.symm⟩)
    |(rename_i O;exact⟨λh=>by omega,λh=>absurd h O⟩)
 ·rename_i J;rw[if_neg J]at h2;unfold bQ at h2
  repeat' split at h2
  all_goals simp only at h2
  all_goals omega
theorem yR(c:UInt8)(r:List UInt8):spanN aZ (c::r)=if aZ c=true then spanN aZ r+1 else 0:=by
 unfold spanN;rw[List.takeWhile_cons];split<;>simp
theorem ya:∀(w:List UInt8) (i:Nat),spanN aZ w=w.length→dh w i=-1
 |[],i,h=>rfl
 | c::r,i,h=>by
  rw[yR]at h;split at h
  ·rename_i hc;have :c≠46:=λe=>by subst e;revert hc;decide
   rw[dh,if_neg this];exact ya r (i+1) (by simpa using h)
  ·simp at h
theorem Iu:∀(w:List UInt8) (i:Nat),spanN aZ w<w.length→w.getD (spanN aZ w) 0=46→dh w i=((i+spanN aZ w:Nat):Int)
 |[],i,h,_=>by simp at h
 | c::r,i,h,h2=>by
  rw[yR]at h h2⊢;split at h
  ·rename_i hc;rw[if_pos hc]at h2⊢;have :c≠46:=λe=>by subst e;revert hc;decide
   rw[dh,if_neg this,Iu r (i+1) (by simpa using h) (by simpa using h2)]
   congr 1;omega
  ·rename_i hc;rw[if_neg hc]at h2⊢;have :c=46:=by simpa using h2
   rw[dh,if_pos this];rfl
theorem dx{k n:Int}:∀{l:List Tree} {i j:Nat} {u:Tree},shapeKs k n i l=true→l[j]?=some u→jL k n ((i+j:Nat):Int) u.kind=true∧shapeK u=true
 |[],i,j,u,_,h=>by simp at h
 |t::r,i,0,u,h,G=>by
  simp only[shapeKs,Bool.and_eq_true]at h;simp only[List.getElem?_cons_zero,Option.some.injEq]at G;subst G;exact⟨by simpa using h.1.1,h.1.2⟩
 |t::r,i,j+1,u,h,G=>by
  simp only[shapeKs,Bool.and_eq_true]at h;have :=dx (i:=i+1) (j:=j) h.2 (by simpa using G);exact⟨by rw[show i+(j+1)=i+1+j by omega];exact this.1,this.2⟩
theorem dm:∀{p:List Tree} {i:Nat} {t:Tree},aR p=true→p[i]?=some t→t.kind=1∧shapeK t=true
 |[],i,t,_,h=>by simp at h
 |v::r,0,t,h,hi=>by
  simp only[aR,Bool.and_eq_true,beq_iff_eq]at h;simp only[List.getElem?_cons_zero,Option.some.injEq]at hi;subst hi;exact h.1
 |v::r,i+1,t,h,hi=>by
  simp only[aR,Bool.and_eq_true]at h;exact dm h.2 (by simpa using hi)
abbrev Kn:=aa
abbrev Env:=List au
structure Cx where
 p:List Tree
 nm:List ((Int×List UInt8)×aa)
 sg:List ((Int×Int)×ak)
 mo:Int
 pa:List Int
 wm:Int
 wp:List Int
structure Sv where
 tg:List ar
 fa:List ac
 rs:Int
 rl:Int
def Cx.go(x:Cx)(i:Int):Cx:={x with pa:=x.pa++[i]}
def faP(x:Cx)(k:Int)(b:List Int)(s:Sv):Sv:={s with fa:=s.fa++[⟨⟨x.mo,x.pa++b⟩,k⟩]}
def aS(a b:Kn):Bool:=a.simple !=0&&b.simple !=0&&!(a.simple==b.simple&&a.lists==b.lists)
def ic(w:List UInt8):Env→Option Kn
 |[]=>none
 |b::r=>if b.name=w then some b.typ else ic w r
abbrev Ev:=Cx→Tree→Env→Sv→Kn×Sv
def bz(t:Tree)(i:Nat):Tree:=t.kids.getD i (.node 0 [] [] [])
def knS(x:Cx)(i:Nat)(k:Kn)(s:Sv):Sv:=if x.mo=x.wm∧x.pa++[(i:Int)]=x.wp then{s with rs:=k.simple,rl:=k.lists}else s
def wg(x:Cx)(i:Nat):Kn×Sv→Kn×Sv
 |(k,s)=>(k,knS x i k s)
def aA(E:Ev)(x:Cx)(t:Tree)(i:Nat)(env:Env)(s:Sv):Kn×Sv:=wg x i (E (x.go i) (bz t i) env s)
def noT:ar:=⟨⟨0,[]⟩,0,0,true⟩
def bx(s:Sv):Sv:={s with tg:=s.tg.drop 1}
def nB(x:Cx)(g:ar):ak:=if g.Free then⟨[],⟨0,0⟩⟩else(aC (g.Module,g.Def) x.sg).getD ⟨[],⟨0,0⟩⟩
def oC(x:Cx)(t:Tree)(g:ar)(q:ak)(s:Sv):Sv:=if g.Free then faP x 1 [] s else if q.params.length=t.kids.length then s else faP x 3 [] s
def oJ(x:Cx)(ps:List Kn)(i:Nat):Kn×Sv→Sv
 |(k,s)=>match ps[i]? with
  |some q=>if aS k q then faP x 4 [(i:Int),0] s else s
  |none=>s
def gg(E:Ev)(x:Cx)(ps:List Kn)(env:Env):List Tree→Nat→Sv→Sv
 |[],_,s=>s
 |a::r,i,s=>gg E x ps env r (i+1) (oJ x ps i (aA E (x.go i) a 0 env s))
def mj(E:Ev)(x:Cx)(t:Tree)(env:Env)(s:Sv):Kn×Sv:=((nB x (s.tg.headD noT)).result,gg E x (nB x (s.tg.headD noT)).params env t.kids 0 (oC x t (s.tg.headD noT) (nB x (s.tg.headD noT)) (bx s)))
def vX(x:Cx)(i:Nat)(f:Kn):Kn×Sv→Kn×Sv
 |(k,s)=>(if f.simple=0 then k else f,if aS k (if f.simple=0 then k else f)then faP x 6 [(i:Int)] s else s)
def fQ(E:Ev)(x:Cx)(t:Tree)(env:Env):Nat→Nat→Kn×Sv→Kn×Sv
 |0,_,r=>r
 |n+1,i,(f,s)=>fQ E x t env n (i+1) (vX x i f (aA E x t i env s))
def iS:Kn×Sv→Kn×Sv
 |(f,s)=>(if f.simple=0 then f else⟨f.simple,f.lists+1⟩,s)
def ifQ(x:Cx)(a:Kn):Kn×Sv→Kn×Sv
 |(b,s)=>(if a.simple=0 then b else a,if aS a b then faP x 6 [2] s else s)
def ifR(E:Ev)(x:Cx)(t:Tree)(env:Env):Kn×Sv→Kn×Sv
 |(a,s)=>ifQ x a (aA E x t 2 env s)
def ifS(x:Cx):Kn×Sv→Sv
 |(c,s)=>if aS c ⟨7,0⟩then faP x 4 [0] s else s
def ifP(E:Ev)(x:Cx)(t:Tree)(env:Env)(s:Sv):Kn×Sv:=ifR E x t env (aA E x t 1 env (ifS x (aA E x t 0 env s)))
def okB(k:Kn):Bool:=(k.simple==5&&k.lists==0)||(k.simple==6&&k.lists==0)
def bad(k:Kn):Bool:=!okB k&&k.simple !=0
def ro(a:Kn):Kn:=if okB a then a else⟨0,0⟩
def qw(a b:Kn):Kn:=if okB b then(if(ro a).simple=0 then b else ro a)else ro a
def nf(x:Cx)(a b:Kn)(s:Sv):Sv:=
 if bad a then(if bad b then faP x 4 [1] (faP x 4 [0] s)else faP x 4 [0] s)
 else if bad b then faP x 4 [1] s else if aS a b then faP x 6 [1] s else s
def rY(x:Cx)(a b:Kn)(s:Sv):Sv:=if aS b ⟨5,0⟩then faP x 4 [1] (if aS a ⟨5,0⟩then faP x 4 [0] s else s)else(if aS a ⟨5,0⟩then faP x 4 [0] s else s)
def opQ(x:Cx)(w:List UInt8)(a:Kn):Kn×Sv→Kn×Sv
 |(b,s)=>if w=[43]then(qw a b,nf x a b s)else if w=[61,61]then(⟨7,0⟩,if aS a b then faP x 6 [1] s else s)else(if w=[60]then⟨7,0⟩else⟨5,0⟩,rY x a b s)
def sb(E:Ev)(x:Cx)(t:Tree)(env:Env):Kn×Sv→Kn×Sv
 |(a,s)=>opQ x t.text a (aA E x t 1 env s)
def BI(E:Ev)(x:Cx)(t:Tree)(env:Env):Kn×Sv→Kn×Sv
 |(a,s)=>aA E x t 1 (⟨t.text,a⟩::env) s
def qv(x:Cx)(s:Sv):Option Kn→Kn×Sv
 |some k=>(k,s)
 |none=>(⟨0,0⟩,faP x 1 [] s)
def bl(E:Ev):Ev:=λx t env s=>
 if t.kind=10 then(⟨5,0⟩,s)else if t.kind=11 then(⟨6,0⟩,s)else if t.kind=13 then(⟨7,0⟩,s)else if t.kind=14 then(⟨7,0⟩,s)
 else if t.kind=12 then qv x s (ic t.text env)else if t.kind=16 then mj E x t env s
 else if t.kind=18 then iS (fQ E x t env t.kids.length 0 (⟨0,0⟩,s))else if t.kind=19 then ifP E x t env s
 else if t.kind=20 then BI E x t env (aA E x t 0 env s)else if t.kind=21 then sb E x t env (aA E x t 0 env s)
 else if t.kind=22 then aA E x t 0 env s else(⟨0,0⟩,s)
def bj:Nat→Ev
 |0=>λ_ _ _ s=>(⟨0,0⟩,s)
 |n+1=>bl (bj n)
def mkC(x:Cx)(s:Sv):CKr:=⟨x.p,s.tg,x.nm,x.sg,x.mo,x.pa,s.fa,x.wm,x.wp,s.rs,s.rl⟩
section
variable(x:Cx)(s:Sv)
abbrev ckF(k:Int)(b:List Int)(s':Sv):Prop:=aE (mkC x s) k b (mkC x s')
abbrev ckE(t:Tree)(env:Env)(k:Kn)(s':Sv):Prop:=gL (mkC x s) t env k (mkC x s')
abbrev ckK(t:Tree)(i:Int)(env:Env)(k:Kn)(s':Sv):Prop:=bi (mkC x s) t i env k (mkC x s')
abbrev ckV(t:Tree)(env:Env)(k:Kn)(s':Sv):Prop:=iH (mkC x s) t env k (mkC x s')
abbrev ckC(t:Tree)(env:Env)(k:Kn)(s':Sv):Prop:=kB (mkC x s) t env k (mkC x s')
abbrev ckB(t:Tree)(env:Env)(k:Kn)(s':Sv):Prop:=iI (mkC x s) t env k (mkC x s')
abbrev ckO(t:Tree)(env:Env)(k:Kn)(s':Sv):Prop:=ij (mkC x s) t env k (mkC x s')
abbrev ckS(ab:Kn×Kn)(k:Kn)(s':Sv):Prop:=kX (mkC x s) ab k (mkC x s')
abbrev ckN(i:Int):Prop:=cF (mkC x s) i (mkC (x.go i) s)
abbrev ckD(i:Int):Prop:=aU (mkC (x.go i) s) (mkC x s)
end
theorem JP(a b:List Int)(h:a.length+b.length≤1000000000):oD [a,b] (a++b):=by
 refine yu 6 _ _ (?_);refine na 5 _ _ _ _ (⟨λ_=>⟨a,rfl,by omega,λh=>absurd h (by omega),λ_=>⟨by omega,?_⟩⟩,λh=>absurd (show 0<2 by decide) h⟩);refine na 4 _ _ _ _ (⟨λ_=>⟨b,rfl,by omega,λh=>absurd h (by omega),λ_=>⟨by omega,?_⟩⟩,λh=>absurd (show 1<2 by decide) h⟩);refine na 3 _ _ _ _ (⟨λh=>absurd h (show¬2<2 by decide),λ_=>⟨[],Mv _ (by omega),?_⟩⟩);refine nk 2 _ _ _ _ (⟨λ_=>⟨a,rfl,by simp;omega,by omega,?_⟩,λh=>absurd (show 0<2 by decide) h⟩);refine nk 1 _ _ _ _ (⟨λ_=>⟨b,rfl,by simp;omega,by omega,?_⟩,λh=>absurd (show 1<2 by decide) h⟩);exact nk 0 _ _ _ _ (⟨λh=>absurd h (show¬2<2 by decide),λ_=>rfl⟩)
variable{x:Cx}{s:Sv}
theorem eB(k:Int)(b:List Int)(h1:x.pa.length+b.length≤1000000000)(h2:s.fa.length+1≤1000000000):ckF x s k b (faP x k b s):=
 rS_typing_checker_fault 0 _ _ _ _ (⟨_,JP x.pa b h1,by simp[mkC];omega,rfl⟩)
theorem kz(i:Int)(h:x.pa.length+1≤1000000000):ckN x s i:=sL 0 _ _ _ (⟨by simp[mkC];omega,rfl⟩)
theorem jx(i:Int):ckD x s i:=sI 0 _ _ (⟨x.pa.length,by simp[mkC,Cx.go],by simp[mkC,Cx.go],by simp[mkC,Cx.go]⟩)
theorem Ks(h:0<s.tg.length):iw (mkC x s) (s.tg.headD noT) (mkC x (bx s)):=by
 obtain⟨tg,fa,rs,rl⟩:=s;cases tg with
 |nil=>simp at h
 |cons g r=>exact ug 0 _ _ _ (⟨g,rfl,by simp[mkC],rfl,rfl⟩)
theorem jO(a b:Kn):bY a b (aS a b):=yy 0 _ _ _ (⟨λh1=>⟨λh2=>by simp[aS,h1,h2],λh2=>by simp[aS,h1,h2]⟩,λh1=>by simp[aS,h1]⟩)
theorem Og(a b:List Int)(ha:a.length≤1000000000):nP a b (decide (a=b)):=by
 by_cases hl:a.length=b.length
 ·have key:∀k i,a.length-i≤k→a.take i=b.take i→jY (k+1) a b i (decide (a=b)):=by
   intro k
   induction k with
   |zero=>
    intro i hi ht;refine qc 0 _ _ _ _ (⟨λh=>by omega,λ_=>?_⟩);rw[List.take_of_length_le (by omega),List.take_of_length_le (by omega)]at ht;simp[ht]
   | succ k ih=>
    intro i hi ht;refine qc (k+1) _ _ _ _ (⟨λh=>?_,λh=>?_⟩)
    ·have h':i<b.length:=by omega
     refine⟨a[i],List.getElem?_eq_getElem h,b[i],List.getElem?_eq_getElem h',λhn=>?_,λhe=>⟨by omega,ih (i+1) (by omega) ?_⟩⟩
     ·have :a≠b:=λe=>hn (by subst e;rfl);simp[this]
     ·rw[List.take_add_one,List.take_add_one,ht,List.getElem?_eq_getElem h,List.getElem?_eq_getElem h',he]
    ·rw[List.take_of_length_le (by omega),List.take_of_length_le (by omega)]at ht;simp[ht]
  exact qL (a.length+1) _ _ _ (⟨λh=>absurd hl h,λ_=>key a.length 0 (by omega) rfl⟩)
 ·exact qL 0 _ _ _ (⟨λ_=>by
   have :a≠b:=λe=>hl (by rw[e]);simp[this],λh=>absurd h hl⟩)
variable{env:Env}
theorem NO{s':Sv}{k:Kn}(J:t.kids[i]?=some u)(O:x.pa.length+1≤1000000000)(h:ckE (x.go i) s u env k s'):ckK x s t i env k (knS x i k s'):=by
 have U:(x.pa++[(i:Int)]).length≤1000000000:=by simp;omega
 have Z:=Og (x.pa++[(i:Int)]) x.wp U;unfold knS;by_cases h1:x.mo=x.wm
 ·by_cases h2:x.pa++[(i:Int)]=x.wp
  ·rw[if_pos ⟨h1,h2⟩];refine kD 0 _ _ _ _ _ _ (⟨_,kz (i:Int) O,i,rfl,u,J,_,_,h,λ_=>⟨_,Z,λ_=>⟨_,jx (x:=x) (s:={s' with rs:=k.simple,rl:=k.lists}) i,rfl,rfl⟩,λhb=>?_⟩,λG=>absurd h1 G⟩);rw[decide_eq_true h2]at hb;cases hb
  ·rw[if_neg (λh=>h2 h.2)];refine kD 0 _ _ _ _ _ _ (⟨_,kz (i:Int) O,i,rfl,u,J,_,_,h,λ_=>⟨_,Z,λhb=>?_,λ_=>⟨_,jx (x:=x) (s:=s') i,rfl,rfl⟩⟩,λG=>absurd h1 G⟩);rw[decide_eq_false h2]at hb;cases hb
 ·rw[if_neg (λh=>h1 h.1)];exact kD 0 _ _ _ _ _ _ (⟨_,kz (i:Int) O,i,rfl,u,J,_,_,h,λG=>absurd G h1,λ_=>⟨_,jx (x:=x) (s:=s') i,rfl,rfl⟩⟩)
theorem GW{x:Cx}{s:Sv}(t:Tree)(h1:x.pa.length≤1000000000)(h2:s.fa.length+1≤1000000000):∀env:Env,eR (env.length+1) (mkC x s) t env (qv x s (ic t.text env)).1 (mkC x (qv x s (ic t.text env)).2)
 |[]=>kM 0 _ _ _ _ _ (⟨λ_=>⟨_,eB (x:=x) (s:=s) 1 [] (by simpa using h1) h2,rfl,rfl⟩,λy r h=>(by cases h)⟩)
 | b::r=>by
  refine kM (r.length+1) _ _ _ _ _ (⟨λh=>(by cases h),λy r' h=>?_⟩);injection h with e1 e2;subst e1 e2
  refine⟨λhb=>?_,λhb=>?_⟩
  ·rw[show ic t.text (b::r)=some b.typ from if_pos hb];exact⟨rfl,rfl⟩
  ·rw[show ic t.text (b::r)=ic t.text r from if_neg hb];exact GW t h1 h2 r
theorem NY(t:Tree)(env:Env)(h1:x.pa.length≤1000000000)(h2:s.fa.length+1≤1000000000):ckV x s t env (qv x s (ic t.text env)).1 (qv x s (ic t.text env)).2:=
 rS_typing_checker_variable (env.length+1) _ _ _ _ _ (GW t h1 h2 env)
theorem dn(h:i<t.kids.length):t.kids[i]?=some (bz t i):=by
 simp only[bz,List.getD_eq_getElem?_getD];rw[List.getElem?_eq_getElem h];rfl
theorem dl(h:t.kids[i]?=some u):bz t i=u:=by simp only[bz,List.getD_eq_getElem?_getD,h];rfl
def exT(t:Tree):Prop:=shapeK t=true∧dv t.kind=true
theorem pW{a b c:Nat}{z:Int}(h:0≤f0 n a b c z):(a:Int)≤n∧(0≤z→n≤z):=by
 unfold f0 at h;split at h
 ·omega
 ·split at h
  ·omega
  ·exact⟨by omega,λG=>by omega⟩
theorem nZ(h:exT t):(t.kind=22→t.kids.length=1)∧(t.kind=20→t.kids.length=2)∧(t.kind=19→t.kids.length=3)∧(t.kind=21→t.kids.length=2):=by
 obtain⟨hs,J⟩:=h;rw[bV]at hs;simp only[Bool.and_eq_true,decide_eq_true_eq]at hs;have G:=hs.1.1;refine⟨λe=>?_,λe=>?_,λe=>?_,λe=>?_⟩
 ·rw[e]at G;have :=pW (show 0≤f0 t.kids.length 1 2 0 1 from G);omega
 ·rw[e]at G;have :=pW (show 0≤f0 t.kids.length 2 4 0 2 from G);omega
 ·rw[e]at G;have :=pW (show 0≤f0 t.kids.length 3 3 0 3 from G);omega
 ·rw[e]at G;have :=pW (show 0≤f0 t.kids.length 2 1 0 2 from G);omega
theorem cv(h:exT t)(hu:t.kids[i]?=some u)(h16:t.kind≠16):exT u∧u.kind≠17:=by
  obtain⟨hs,hk⟩:=h;rw[bV]at hs;simp only[Bool.and_eq_true,decide_eq_true_eq]at hs;obtain⟨g1,g2⟩:=dx hs.2 hu;have hk':10≤t.kind∧t.kind≤22∧t.kind≠17:=by simpa[dv]using hk
  have e:dv u.kind=true:=by
    simp only[jL]at g1;rw[if_neg (by omega),if_neg (by omega),if_neg (by omega),if_neg h16]at g1;split at g1
    · simp only[Bool.or_eq_true,Bool.and_eq_true,beq_iff_eq,wJ]at g1;rcases g1 with g|⟨_,g⟩
      ·exact g.1
      ·rw[g];rfl
    ·exact g1
  exact ⟨⟨g2, e⟩, by have :10≤u.kind∧u.kind≤22∧u.kind≠17:=by simpa[dv   ]using e
                     exact this.2.2⟩
theorem zG(h:exT t)(hu:t.kids[i]?=some u)(J:t.kind=16):u.kind=17∧u.kids.length=1∧exT (bz u 0):=by
 obtain⟨hs,hk⟩:=h;rw[bV]at hs;simp only[Bool.and_eq_true,decide_eq_true_eq]at hs;obtain⟨O,G⟩:=dx hs.2 hu;have e:u.kind=17:=by
  rw[J]at O;simpa[jL]using O
 rw[bV]at G;simp only[Bool.and_eq_true,decide_eq_true_eq]at G;have U:=G.1.1;rw[e]at U;have :=pW (show 0≤f0 u.kids.length 1 0 0 1 from U);have h1:u.kids.length=1:=by omega
 obtain⟨Z,g4⟩:=dx G.2 (dn (t:=u) (i:=0) (by omega));rw[e]at Z;exact⟨e,h1,g4,by simpa[jL]using Z⟩
mutual
def uN:Tree→Nat
 |.node k w ls ks=>(if k=16∨k=9 then 1 else 0)+uNs ks
def uNs:List Tree→Nat
 |[]=>0
 |t::r=>uN t+uNs r
end
theorem fZ(t:Tree):uN t=(if t.kind=16∨t.kind=9 then 1 else 0)+uNs t.kids:=by cases t;simp only[uN];rfl
def KOk(L:Nat)(k:Kn):Prop:=0≤k.lists∧k.lists≤(L:Int)
variable{L:Nat}
theorem KOk.mono{M:Nat}{k:Kn}(h:KOk L k)(G:L≤M):KOk M k:=⟨h.1,by have :=h.2;omega⟩
theorem qu(z:Int):KOk L ⟨z,0⟩:=⟨Int.le_refl _,by simp⟩
structure Hyp (x:Cx) (env:Env) (s:Sv) (L B u:Nat):Prop where
 pa:x.pa.length+B≤100000000
 fa:s.fa.length+4*B≤900000000
 tg:u≤s.tg.length
 lb:L+B≤900000000
 env:∀b∈env,KOk L b.typ
 sg:∀k g,aC k x.sg=some g→KOk L g.result
structure Pst (L B u:Nat) (s:Sv) (r:Kn×Sv):Prop where
 k:KOk (L+B) r.1
 tg:r.2.tg=s.tg.drop u
 fa:r.2.fa.length+1≤s.fa.length+4*B
variable{B:Nat}
theorem Hyp.to{s1:Sv}{u B' u':Nat}(h:Hyp x env s L B u)(G:B'≤B)(hf:s1.fa.length+4*B'≤s.fa.length+4*B)(ht:u'≤s1.tg.length):Hyp x env s1 L B' u':=
 ⟨by have :=h.pa;omega,by have :=h.fa;omega,ht,by have :=h.lb;omega,h.env,h.sg⟩
def lJ(E:Ev)(N:Nat):Prop:=∀t,tbulk t≤N→exT t→∀x env s L,Hyp x env s L (tbulk t) (uN t)→ckE x s t env (E x t env s).1 (E x t env s).2∧Pst L (tbulk t) (uN t) s (E x t env s)
theorem Mm(x:Cx)(i:Nat)(k:Kn)(s:Sv):(knS x i k s).tg=s.tg:=by unfold knS;split<;>rfl
theorem yO(x:Cx)(i:Nat)(k:Kn)(s:Sv):(knS x i k s).fa=s.fa:=by unfold knS;split<;>rfl
variable{E:Ev}{N:Nat}
theorem da(J:lJ E N)(G:t.kids[i]?=some u)(hb:tbulk u≤N)(hx:exT u)(hy:Hyp x env s L (tbulk u+1) (uN u)):
  ckK x s t i env (aA E x t i env s).1 (aA E x t i env s).2∧Pst L (tbulk u) (uN u) s (aA E x t i env s):=by
 have O:=hy.pa;obtain⟨h1,h2⟩:=J u hb hx (x.go i) env s L ⟨by simp[Cx.go];omega,by have :=hy.fa;omega,hy.tg,by have :=hy.lb;omega,hy.env,hy.sg⟩;have e:aA E x t i env s=wg x i (E (x.go i) u env s):=by unfold aA;rw[dl G]
 rw[e];generalize E (x.go i) u env s=r at h1 h2⊢;obtain⟨k,s'⟩:=r;exact⟨NO G (by omega) h1,h2.k,(Mm _ _ _ _).trans h2.tg,by show(knS x i k s').fa.length+1≤_;rw[yO];exact h2.fa⟩
theorem eJ(x:Cx)(k:Int)(b:List Int)(s:Sv):(faP x k b s).fa.length=s.fa.length+1:=by simp[faP]
theorem On(a b:Kn)(h1:x.pa.length+1≤1000000000)(h2:s.fa.length+3≤1000000000):ckS x s (a,b) (qw a b) (nf x a b s):=by
 have L4:∀s0:Sv,s0.fa.length+1≤1000000000→∀(w:Bool) (f:Kn),dE 1 (a,b) f.simple f.lists (mkC x s0) w f (mkC x (if w=false∧aS a b=true then faP x 6 [1] s0 else s0)):=λs0 h0 w f=>by
  refine tv 0 _ _ _ _ _ _ _ (⟨λU=>⟨_,jO a b,λhd=>?_,λhd=>?_⟩,λU=>?_⟩)
  ·rw[if_pos ⟨U,hd⟩];exact⟨_,eB (x:=x) (s:=s0) 6 [1] h1 h0,rfl,rfl⟩
  ·rw[if_neg (λh=>by rw[hd]at h;cases h.2)];exact⟨rfl,rfl⟩
  ·rw[if_neg (λh=>by rw[U]at h;cases h.1)];exact⟨rfl,rfl⟩
 have L3:∀s0:Sv,s0.fa.length+2≤1000000000→∀(w:Bool) (f:Kn) (v:Bool),v=okB b→gQ 2 (a,b) (mkC x s0) w f.simple f.lists v (if okB b then(if f.simple=0 then b else f)else f) (mkC x (if bad b then faP x 4 [1] s0 else if w=false∧aS a b=true then faP x 6 [1] s0 else s0)):=λs0 h0 w f v hv=>by
  refine tq 1 _ _ _ _ _ _ _ _ (⟨λU=>?_,λU=>⟨λZ=>?_,λZ=>?_⟩⟩)
  ·have G:okB b=true:=hv▸U;have J:¬(bad b=true):=by simp[bad,G]
   rw[if_neg J,if_pos G];refine⟨λhz=>?_,λhz=>?_⟩
   ·rw[if_pos hz];exact L4 s0 (by omega) w b
   ·rw[if_neg hz];exact L4 s0 (by omega) w f
  ·have O:=Z;simp only at O;have G:okB b=false:=hv▸U;have J:bad b=true:=by simp[bad,G,O]
   rw[if_pos J,if_neg (by rw[G];decide)];have :=L4 (faP x 4 [1] s0) (by rw[eJ];omega) true f;rw[if_neg (λh=>by cases h.1)]at this;exact⟨_,eB (x:=x) (s:=s0) 4 [1] h1 (by omega),this⟩
  ·have O:=Z;simp only at O;have G:okB b=false:=hv▸U;have J:¬(bad b=true):=by simp[bad,G,O]
   rw[if_neg J,if_neg (by rw[G];decide)];exact L4 s0 (by omega) w f
 have L2:∀s0:Sv,s0.fa.length+2≤1000000000→∀(w:Bool) (f:Kn),fi 3 (a,b) (mkC x s0) w f.simple f.lists (if okB b then(if f.simple=0 then b else f)else f) (mkC x (if bad b then faP x 4 [1] s0 else if w=false∧aS a b=true then faP x 6 [1] s0 else s0)):=λs0 h0 w f=>
  rL2_typing_checker_sum 2 _ _ _ _ _ _ _ (⟨λh=>L3 s0 h0 w f true (by have h':b.simple=5∧b.lists=0:=h;simp[okB,h'.1,h'.2]),λh=>L3 s0 h0 w f _ (by
   by_cases e1:b.simple=5
   ·by_cases e2:b.lists=0
    ·exact absurd ⟨e1,e2⟩ h
    ·simp[okB,e1,e2]
   ·simp[okB,e1])⟩)
 have L1:∀v:Bool,v=okB a→gX 4 (mkC x s) (a,b) v (qw a b) (mkC x (nf x a b s)):=λv hv=>by
  refine tB 3 _ _ _ _ _ (⟨λU=>?_,λU=>⟨λZ=>?_,λZ=>?_⟩⟩)
  ·have G:okB a=true:=hv▸U;have J:¬(bad a=true):=by simp[bad,G]
   have :=L2 s (by omega) false a;simp only[true_and]at this;unfold qw nf ro;rw[if_neg J,if_pos G];exact this
  ·have O:=Z;simp only at O;have G:okB a=false:=hv▸U;have J:bad a=true:=by simp[bad,G,O]
   have :=L2 (faP x 4 [0] s) (by rw[eJ];omega) true ⟨0,0⟩;rw[show(if bad b then faP x 4 [1] (faP x 4 [0] s)else if true=false∧aS a b=true then faP x 6 [1] (faP x 4 [0] s)else faP x 4 [0] s)=(if bad b then faP x 4 [1] (faP x 4 [0] s)else faP x 4 [0] s) by rw[if_neg (c:=true=false∧aS a b=true) (λh=>by cases h.1)]]at this;unfold qw nf ro;rw[if_pos J,if_neg (c:=okB a=true) (by rw[G];decide)];exact⟨_,eB (x:=x) (s:=s) 4 [0] h1 (by omega),this⟩
  ·have O:=Z;simp only at O;have G:okB a=false:=hv▸U;have J:¬(bad a=true):=by simp[bad,G,O]
   have :=L2 s (by omega) false ⟨0,0⟩;simp only[true_and]at this;unfold qw nf ro;rw[if_neg J,if_neg (c:=okB a=true) (by rw[G];decide)];exact this
 refine uo 5 _ _ _ _ (?_);exact tG 4 _ _ _ _ (⟨λh=>L1 true (by have h':a.simple=5∧a.lists=0:=h;simp[okB,h'.1,h'.2]),λh=>L1 _ (by
  by_cases e1:a.simple=5
  ·by_cases e2:a.lists=0
   ·exact absurd ⟨e1,e2⟩ h
   ·simp[okB,e1,e2]
  ·simp[okB,e1])⟩)
theorem Ph(t:Tree)(a b:Kn)(h1:x.pa.length+1≤1000000000)(h2:s.fa.length+3≤1000000000):gO 4 t a b (mkC x s) (opQ x t.text a (b,s)).1 (mkC x (opQ x t.text a (b,s)).2):=by
 have L3:∀s0:Sv,t.text≠[43]→t.text≠[61,61]→ew 1 t a b (mkC x s0) (if t.text=[60]then⟨7,0⟩else⟨5,0⟩) (mkC x s0):=λs0 _ _=>
  rL3_typing_checker_operation 0 _ _ _ _ _ _ (⟨λh=>by rw[if_pos h];exact⟨rfl,rfl⟩,λh=>by rw[if_neg h];exact⟨rfl,rfl⟩⟩)
 have L2:∀s0:Sv,s0.fa.length+1≤1000000000→t.text≠[43]→t.text≠[61,61]→ep 2 t a b (mkC x s0) (if t.text=[60]then⟨7,0⟩else⟨5,0⟩) (mkC x (if aS b ⟨5,0⟩then faP x 4 [1] s0 else s0)):=λs0 J n1 G=>
  rL2_typing_checker_operation 1 _ _ _ _ _ _ (⟨_,jO b ⟨5,0⟩,λh=>by rw[if_pos h];exact⟨_,eB (x:=x) (s:=s0) 4 [1] h1 J,L3 _ n1 G⟩,λh=>by rw[if_neg (c:=aS b ⟨5,0⟩=true) (by rw[h];decide)];exact L3 _ n1 G⟩)
 refine pI 3 _ _ _ _ _ _ (⟨λh=>?_,λn1=>⟨λh=>?_,λG=>?_⟩⟩)
 ·rw[show opQ x t.text a (b,s)=(qw a b,nf x a b s)from if_pos h];exact⟨_,_,On (x:=x) (s:=s) a b h1 h2,rfl,rfl⟩
 ·rw[show opQ x t.text a (b,s)=(⟨7,0⟩,if aS a b then faP x 6 [1] s else s)from(if_neg n1).trans (if_pos h)];refine⟨_,jO a b,λh=>?_,λh=>?_⟩
  ·rw[if_pos h];exact⟨_,eB (x:=x) (s:=s) 6 [1] h1 (by omega),rfl,rfl⟩
  ·rw[if_neg (by rw[h];decide)];exact⟨rfl,rfl⟩
 ·rw[show opQ x t.text a (b,s)=(if t.text=[60]then⟨7,0⟩else⟨5,0⟩,rY x a b s)from(if_neg n1).trans (if_neg G)];refine py 2 _ _ _ _ _ _ (⟨_,jO a ⟨5,0⟩,λh=>?_,λh=>?_⟩)
  ·have :=L2 (faP x 4 [0] s) (by rw[eJ];omega) n1 G;unfold rY;rw[if_pos (c:=aS a ⟨5,0⟩=true) h];exact⟨_,eB (x:=x) (s:=s) 4 [0] h1 (by omega),this⟩
  ·have :=L2 s (by omega) n1 G;unfold rY;rw[if_neg (c:=aS a ⟨5,0⟩=true) (by rw[h];decide)];exact this
theorem NE{a b:Kn}(G:KOk L a)(hb:KOk L b):KOk L (qw a b):=by
 have h1:KOk L (ro a):=by unfold ro;split;exact G;exact qu 0
 unfold qw;split
 ·split
  ·exact hb
  ·exact h1
 ·exact h1
theorem LM(x:Cx)(a b:Kn)(s:Sv):(nf x a b s).tg=s.tg∧(nf x a b s).fa.length≤s.fa.length+2:=by
 unfold nf
 repeat' split
 all_goals exact⟨rfl,by first|(simp only[eJ];omega)|omega⟩
theorem LX(x:Cx)(a b:Kn)(s:Sv):(rY x a b s).tg=s.tg∧(rY x a b s).fa.length≤s.fa.length+2:=by
 unfold rY
 repeat' split
 all_goals exact⟨rfl,by first|(simp only[eJ];omega)|omega⟩
theorem MY{w:List UInt8}{a b:Kn}(G:KOk L a)(hb:KOk L b):KOk L (opQ x w a (b,s)).1∧(opQ x w a (b,s)).2.tg=s.tg∧(opQ x w a (b,s)).2.fa.length≤s.fa.length+2:=by
 by_cases h1:w=[43]
 ·rw[show opQ x w a (b,s)=(qw a b,nf x a b s)from if_pos h1];exact⟨NE G hb,LM x a b s⟩
 ·by_cases h2:w=[61,61]
  ·rw[show opQ x w a (b,s)=(⟨7,0⟩,if aS a b then faP x 6 [1] s else s)from(if_neg h1).trans (if_pos h2)];refine⟨qu _,?_⟩;simp only[];split
   ·exact⟨rfl,by rw[eJ];omega⟩
   ·exact⟨rfl,by omega⟩
  ·rw[show opQ x w a (b,s)=(if w=[60]then⟨7,0⟩else⟨5,0⟩,rY x a b s)from(if_neg h1).trans (if_neg h2)];refine⟨?_,LX x a b s⟩;simp only[];split<;>exact qu _
theorem AM(h:t.kids.length=2):∃a b,t.kids=[a,b]:=by
 match e:t.kids,h with
 |[a,b],_=>exact⟨a,b,rfl⟩
theorem Kx(h:t.kids.length=3):∃a b c,t.kids=[a,b,c]:=by
 match e:t.kids,h with
 |[a,b,c],_=>exact⟨a,b,c,rfl⟩
theorem wA(h:t.kids.length=1):∃a,t.kids=[a]:=by
 match e:t.kids,h with
 |[a],_=>exact⟨a,rfl⟩
theorem pr{s1:Sv}{u u' v:Nat}(h:s1.tg=s.tg.drop u)(G:u+u'≤v)(hv:v≤s.tg.length):u'≤s1.tg.length:=by rw[h,List.length_drop];omega
theorem Kg(J:lJ E N)(hb:tbulk t≤N+1)(hx:exT t)(O:t.kind=21)(hy:Hyp x env s L (tbulk t) (uN t)):
  ckO x s t env (sb E x t env (aA E x t 0 env s)).1 (sb E x t env (aA E x t 0 env s)).2∧Pst L (tbulk t) (uN t) s (sb E x t env (aA E x t 0 env s)):=by
 obtain⟨a,b,e⟩:=AM ((nZ hx).2.2.2 O);have U:t.kids[0]?=some a:=by rw[e];rfl
 have G:t.kids[1]?=some b:=by rw[e];rfl
 have Z:=bp t;rw[e]at Z;simp only[kbulk]at Z;have hU:uN t=uN a+uN b:=by rw[fZ,e,O];simp[uNs]
 have p0:=hy.pa;have p1:=hy.fa;have p2:=hy.tg;have p3:=hy.lb;obtain⟨A1,A2⟩:=da J (s:=s) (env:=env) (x:=x) (L:=L) U (by omega) (cv hx U (by omega)).1 (hy.to (by omega) (by omega) (by omega));generalize aA E x t 0 env s=r at A1 A2⊢;obtain⟨k1,s1⟩:=r;have q1:=A2.fa;simp only at q1;obtain⟨B1,B2⟩:=da J (s:=s1) (env:=env) (x:=x) (L:=L) G (by omega) (cv hx G (by omega)).1 (hy.to (by omega) (by omega) (pr (v:=uN t) A2.tg (by omega) p2));show ckO x s t env (opQ x t.text k1 (aA E x t 1 env s1)).1 (opQ x t.text k1 (aA E x t 1 env s1)).2∧Pst L (tbulk t) (uN t) s (opQ x t.text k1 (aA E x t 1 env s1));generalize aA E x t 1 env s1=r at B1 B2⊢;obtain⟨k2,s2⟩:=r;have q2:=B2.fa;simp only at q2;refine⟨qn 4 _ _ _ _ _ (⟨_,_,A1,_,_,B1,Ph (x:=x) (s:=s2) t k1 k2 (by omega) (by omega)⟩),?_⟩;obtain⟨g1,g2,g3⟩:=MY (x:=x) (w:=t.text) (s:=s2) (a:=k1) (b:=k2) (L:=L+tbulk t) (A2.k.mono (by omega)) (B2.k.mono (by omega));exact⟨g1,by rw[g2,B2.tg,A2.tg,List.drop_drop,hU],by omega⟩
theorem LA(hE:lJ E N)(hb:tbulk t≤N+1)(hx:exT t)(hk:t.kind=19)(hy:Hyp x env s L (tbulk t) (uN t)):
  ckB x s t env (ifP E x t env s).1 (ifP E x t env s).2∧Pst L (tbulk t) (uN t) s (ifP E x t env s):=by
 obtain⟨a,b,c,e⟩:=Kx ((nZ hx).2.2.1 hk);have ha:t.kids[0]?=some a:=by rw[e];rfl
 have hb':t.kids[1]?=some b:=by rw[e];rfl
 have hc:t.kids[2]?=some c:=by rw[e];rfl
 have hB:=bp t;rw[e]at hB;simp only[kbulk]at hB;have hU:uN t=uN a+uN b+uN c:=by rw[fZ,e,hk];simp[uNs];omega
 have p0:=hy.pa;have p1:=hy.fa;have p2:=hy.tg;have p3:=hy.lb;obtain⟨A1,A2⟩:=da hE (s:=s) (env:=env) (x:=x) (L:=L) ha (by omega) (cv hx ha (by omega)).1 (hy.to (by omega) (by omega) (by omega));unfold ifP;generalize aA E x t 0 env s=r at A1 A2⊢;obtain⟨k1,s1⟩:=r;have q1:=A2.fa;simp only at q1;obtain⟨G,Z⟩:∃G,G=ifS x (k1,s1):=⟨_,rfl⟩;have f1:G.tg=s1.tg∧G.fa.length≤s1.fa.length+1:=by
  rw[Z];unfold ifS;simp only[];split
  ·exact⟨rfl,by rw[eJ];omega⟩
  ·exact⟨rfl,by omega⟩
 rw[←Z];obtain⟨B1,B2⟩:=da hE (s:=G) (env:=env) (x:=x) (L:=L) hb' (by omega) (cv hx hb' (by omega)).1 (hy.to (by omega) (by omega) (pr (v:=uN t) (f1.1.trans A2.tg) (by omega) p2));generalize aA E x t 1 env G=r at B1 B2⊢;obtain⟨J,s2⟩:=r;have q2:=B2.fa;simp only at q2;have hd2:s2.tg=s.tg.drop (uN a+uN b):=by have :=B2.tg;simp only at this;rw[this,f1.1,A2.tg,List.drop_drop]
 obtain⟨C1,C2⟩:=da hE (s:=s2) (env:=env) (x:=x) (L:=L) hc (by omega) (cv hx hc (by omega)).1 (hy.to (by omega) (by omega) (pr (v:=uN t) hd2 (by omega) p2));show ckB x s t env (ifQ x J (aA E x t 2 env s2)).1 (ifQ x J (aA E x t 2 env s2)).2∧Pst L (tbulk t) (uN t) s (ifQ x J (aA E x t 2 env s2));generalize aA E x t 2 env s2=r at C1 C2⊢;obtain⟨O,U⟩:=r;have q3:=C2.fa;simp only at q3;have hd3:U.tg=s.tg.drop (uN t):=by have :=C2.tg;simp only at this;rw[this,hd2,List.drop_drop,hU]
 have fin:eO 1 t env (mkC x G) (ifQ x J (O,U)).1 (mkC x (ifQ x J (O,U)).2):=by
  refine pZ 0 _ _ _ _ _ (⟨_,_,B1,_,_,C1,_,jO J O,λh=>?_,λh=>?_⟩)
  ·rw[show ifQ x J (O,U)=(if J.simple=0 then O else J,if aS J O then faP x 6 [2] U else U)from rfl];rw[if_pos (c:=aS J O=true) h];refine⟨_,eB (x:=x) (s:=U) 6 [2] (by simp;omega) (by omega),λhz=>?_,λhz=>?_⟩
   ·rw[if_pos hz];exact⟨rfl,rfl⟩
   ·rw[if_neg hz];exact⟨rfl,rfl⟩
  ·rw[show ifQ x J (O,U)=(if J.simple=0 then O else J,if aS J O then faP x 6 [2] U else U)from rfl];rw[if_neg (c:=aS J O=true) (by rw[h];decide)];refine⟨λhz=>?_,λhz=>?_⟩
   ·rw[if_pos hz];exact⟨rfl,rfl⟩
   ·rw[if_neg hz];exact⟨rfl,rfl⟩
 refine⟨qy 1 _ _ _ _ _ (⟨_,_,A1,_,jO k1 ⟨7,0⟩,λh=>?_,λh=>?_⟩),?_⟩
 ·have e1:G=faP x 4 [0] s1:=Z.trans (if_pos h);rw[e1]at fin;exact⟨_,eB (x:=x) (s:=s1) 4 [0] (by simp;omega) (by omega),fin⟩
 ·have e1:G=s1:=Z.trans (if_neg (by rw[h];decide));rw[e1]at fin;exact fin
 ·refine⟨?_,?_,?_⟩<;>unfold ifQ<;>simp only[]
  ·split
   ·exact C2.k.mono (by omega)
   ·exact B2.k.mono (by omega)
  ·split<;>exact hd3
  ·split
   ·rw[eJ];omega
   ·omega
theorem FD{E:Ev}{N:Nat}(hE:lJ E N){x:Cx}{env:Env}{L M:Nat}{t:Tree}(hkl:t.kids.length≤1000000000)(ht:∀(i:Nat) (u:Tree),t.kids[i]?=some u→tbulk u≤N∧tbulk u≤M∧exT u):∀(n i:Nat) (f:Kn) (s:Sv),n+i=t.kids.length→KOk (L+M) f→Hyp x env s L (kbulk (t.kids.drop i)+1) (uNs (t.kids.drop i))→L+M≤900000000→
  L0_typing_checker_list (n+1) t env (mkC x s) f.simple f.lists i (iS (fQ E x t env n i (f,s))).1 (mkC x (iS (fQ E x t env n i (f,s))).2)∧
  KOk (L+M+1) (iS (fQ E x t env n i (f,s))).1∧(iS (fQ E x t env n i (f,s))).2.tg=s.tg.drop (uNs (t.kids.drop i))∧(iS (fQ E x t env n i (f,s))).2.fa.length≤s.fa.length+4*kbulk (t.kids.drop i)
 | 0,i,f,s,hn,hf,hy,hl=>by
  have h0:=hf.1;have h1:=hf.2;have hd:t.kids.drop i=[]:=List.drop_of_length_le (by omega);rw[show fQ E x t env 0 i (f,s)=(f,s)from rfl];refine⟨mX 0 _ _ _ _ _ _ _ _ (⟨λh=>absurd h (by omega),λ_=>⟨λhz=>?_,λhz=>?_⟩⟩),?_,?_,?_⟩
  ·rw[show iS (f,s)=(⟨f.simple,f.lists+1⟩,s) by unfold iS;simp only[if_neg hz]];exact⟨⟨by omega,by omega⟩,rfl,rfl⟩
  ·rw[show iS (f,s)=(f,s) by unfold iS;simp only[if_pos hz]];exact⟨rfl,rfl⟩
  ·show KOk (L+M+1) (if f.simple=0 then f else⟨f.simple,f.lists+1⟩);split
   ·exact hf.mono (by omega)
   ·exact⟨by simp only[];omega,by simp only[];omega⟩
  ·rw[hd];simp[uNs,iS]
  ·rw[hd];simp[iS]
 | n+1,i,f,s,hn,hf,hy,hl=>by
  have hlt:i<t.kids.length:=by omega
  obtain⟨u,hu⟩:∃u,t.kids[i]?=some u:=⟨_,dn hlt⟩;have hd:=aJ hu;obtain⟨b1,b2,b3⟩:=ht i u hu;have p1:=hy.pa;have p2:=hy.fa;have p3:=hy.tg;have p4:=hy.lb;rw[hd]at p1 p2 p3 p4 hy⊢;simp only[kbulk,uNs]at p1 p2 p3 p4 hy⊢;obtain⟨A1,A2⟩:=da hE (s:=s) (env:=env) (x:=x) (L:=L) hu b1 b3 (hy.to (by omega) (by omega) (by omega));rw[show fQ E x t env (n+1) i (f,s)=fQ E x t env n (i+1) (vX x i f (aA E x t i env s))from rfl];generalize aA E x t i env s=r at A1 A2⊢;obtain⟨k,s1⟩:=r;have q1:=A2.fa;have q2:=A2.tg;have q3:=A2.k;simp only at q1 q2 q3;obtain⟨f1,hf1⟩:∃f1,f1=if f.simple=0 then k else f:=⟨_,rfl⟩
  have hk1:KOk (L+M) f1:=by
   rw[hf1];split
   ·exact q3.mono (by omega)
   ·exact hf
  have next:∀s2:Sv,s2.tg=s1.tg→s2.fa.length≤s1.fa.length+1→Hyp x env s2 L (kbulk (t.kids.drop (i+1))+1) (uNs (t.kids.drop (i+1))):=λs2 e1 e2=>
   hy.to (by omega) (by omega) (by rw[e1,q2,List.length_drop];omega)
  rw[show vX x i f (k,s1)=(if f.simple=0 then k else f,if aS k (if f.simple=0 then k else f)then faP x 6 [(i:Int)] s1 else s1)from rfl,←hf1];have fin:∀s2:Sv,s2.tg=s1.tg→s2.fa.length≤s1.fa.length+1→KOk (L+M+1) (iS (fQ E x t env n (i+1) (f1,s2))).1∧(iS (fQ E x t env n (i+1) (f1,s2))).2.tg=s.tg.drop (uN u+uNs (t.kids.drop (i+1)))∧(iS (fQ E x t env n (i+1) (f1,s2))).2.fa.length≤s.fa.length+4*(tbulk u+kbulk (t.kids.drop (i+1))):=λs2 e1 e2=>by
   obtain⟨_,g2,g3,g4⟩:=FD hE hkl ht n (i+1) f1 s2 (by omega) hk1 (next s2 e1 e2) hl;exact⟨g2,by rw[g3,e1,q2,List.drop_drop],by omega⟩
  have run:∀s2:Sv,s2.tg=s1.tg→s2.fa.length≤s1.fa.length+1→_:=λs2 e1 e2=>(FD hE hkl ht n (i+1) f1 s2 (by omega) hk1 (next s2 e1 e2) hl).1;refine⟨mX (n+1) _ _ _ _ _ _ _ _ (⟨λ_=>⟨_,_,A1,λhz=>⟨_,jO k k,λh=>?_,λh=>?_⟩,λhz=>⟨_,jO k f,λh=>?_,λh=>?_⟩⟩,λh=>absurd hlt h⟩),?_⟩
  ·have e:f1=k:=hf1.trans (if_pos hz);rw[e]at run⊢;rw[if_pos (c:=aS k k=true) h];exact⟨_,eB (x:=x) (s:=s1) 6 [(i:Int)] (by simp;omega) (by omega),by omega,run _ rfl (by rw[eJ];omega)⟩
  ·have e:f1=k:=hf1.trans (if_pos hz);rw[e]at run⊢;rw[if_neg (c:=aS k k=true) (by rw[h];decide)];exact⟨by omega,run s1 rfl (by omega)⟩
  ·have e:f1=f:=hf1.trans (if_neg hz);rw[e]at run⊢;rw[if_pos (c:=aS k f=true) h];exact⟨_,eB (x:=x) (s:=s1) 6 [(i:Int)] (by simp;omega) (by omega),by omega,run _ rfl (by rw[eJ];omega)⟩
  ·have e:f1=f:=hf1.trans (if_neg hz);rw[e]at run⊢;rw[if_neg (c:=aS k f=true) (by rw[h];decide)];exact⟨by omega,run s1 rfl (by omega)⟩
  ·split
   ·exact fin _ rfl (by rw[eJ];omega)
   ·exact fin _ rfl (by omega)
theorem Cq{E:Ev}{N:Nat}(hE:lJ E N){x:Cx}{env:Env}{L:Nat}{t:Tree}(ps:List Kn)(z1 z2:Int)(hkl:t.kids.length≤1000000000)(ht:∀(i:Nat) (a:Tree),t.kids[i]?=some a→∃u,a.kids[0]?=some u∧tbulk u<tbulk a∧tbulk u≤N∧exT u∧uN a=uN u):∀(n i:Nat) (s:Sv),n+i=t.kids.length→x.pa.length+kbulk (t.kids.drop i)+1≤100000000→Hyp x env s L (kbulk (t.kids.drop i)) (uNs (t.kids.drop i))→
  L0_typing_checker_call (n+1) t env (mkC x s) ps z1 z2 i ⟨z1,z2⟩ (mkC x (gg E x ps env (t.kids.drop i) i s))∧
  (gg E x ps env (t.kids.drop i) i s).tg=s.tg.drop (uNs (t.kids.drop i))∧(gg E x ps env (t.kids.drop i) i s).fa.length≤s.fa.length+4*kbulk (t.kids.drop i)
 |0,i,s,hn,hpa,hy=>by
  have hd:t.kids.drop i=[]:=List.drop_of_length_le (by omega);rw[hd];exact⟨mY 0 _ _ _ _ _ _ _ _ _ (⟨λh=>absurd h (by omega),λ_=>⟨rfl,rfl⟩⟩),by simp[uNs,gg],by simp[gg]⟩
 | n +1,i,s,hn,hpa,hy=>by
  have hlt:i<t.kids.length:=by omega
  obtain⟨a,ha⟩:∃a,t.kids[i]?=some a:=⟨_,dn hlt⟩;have hd:=aJ ha;obtain⟨u,hu,b1,b2,b3,b4⟩:=ht i a ha;have p1:=hy.pa;have p2:=hy.fa;have p3:=hy.tg;have p4:=hy.lb;rw[hd]at p1 p2 p3 p4 hy hpa⊢;simp only[kbulk,uNs]at p1 p2 p3 p4 hy hpa⊢;obtain⟨A1,A2⟩:=da hE (s:=s) (env:=env) (x:=x.go i) (L:=L) hu b2 b3 ⟨by simp[Cx.go];omega,by omega,by omega,by omega,hy.env,hy.sg⟩;rw[show gg E x ps env (a::t.kids.drop (i+1)) i s=gg E x ps env (t.kids.drop (i+1)) (i+1) (oJ x ps i (aA E (x.go i) a 0 env s))from rfl];generalize aA E (x.go i) a 0 env s=r at A1 A2⊢;obtain⟨k,s1⟩:=r;have q1:=A2.fa;have q2:=A2.tg;simp only at q1 q2;have next:∀s2:Sv,s2.tg=s1.tg→s2.fa.length≤s1.fa.length+1→Hyp x env s2 L (kbulk (t.kids.drop (i+1))) (uNs (t.kids.drop (i+1))):=λs2 e1 e2=>
   hy.to (by omega) (by omega) (by rw[e1,q2,List.length_drop];omega)
  have fin:∀s2:Sv,s2.tg=s1.tg→s2.fa.length≤s1.fa.length+1→(gg E x ps env (t.kids.drop (i+1)) (i+1) s2).tg=s.tg.drop (uN a+uNs (t.kids.drop (i+1)))∧(gg E x ps env (t.kids.drop (i+1)) (i+1) s2).fa.length≤s.fa.length+4*(tbulk a+kbulk (t.kids.drop (i+1))):=λs2 e1 e2=>by
   obtain⟨_,g3,g4⟩:=Cq hE ps z1 z2 hkl ht n (i+1) s2 (by omega) (by omega) (next s2 e1 e2);exact⟨by rw[g3,e1,q2,List.drop_drop,b4],by omega⟩
  have run:∀s2:Sv,s2.tg=s1.tg→s2.fa.length≤s1.fa.length+1→_:=λs2 e1 e2=>(Cq hE ps z1 z2 hkl ht n (i+1) s2 (by omega) (by omega) (next s2 e1 e2)).1;refine⟨mY (n+1) _ _ _ _ _ _ _ _ _ (⟨λ_=>⟨a,ha,_,kz (x:=x) (s:=s) (i:Int) (by omega),_,_,A1,_,jx (x:=x) (s:=s1) (i:Int),λhi=>?_,λhi=>⟨by omega,?_⟩⟩,λh=>absurd hlt h⟩),?_⟩
  ·obtain⟨q,hq⟩:∃q,ps[i]?=some q:=⟨ps[i],List.getElem?_eq_getElem hi⟩;rw[show oJ x ps i (k,s1)=if aS k q then faP x 4 [(i:Int),0] s1 else s1 by unfold oJ;simp only[hq]];refine⟨q,hq,_,jO k q,λh=>?_,λh=>?_⟩
   ·rw[if_pos h];exact⟨_,eB (x:=x) (s:=s1) 4 [(i:Int),0] (by simp;omega) (by omega),run _ rfl (by rw[eJ];omega)⟩
   ·rw[if_neg (by rw[h];decide)];exact run s1 rfl (by omega)
  ·have hq:ps[i]?=none:=List.getElem?_eq_none (by omega);rw[show oJ x ps i (k,s1)=s1 by unfold oJ;simp only[hq]];exact run s1 rfl (by omega)
  ·have e:∀r,oJ x ps i (k,s1)=r→r.tg=s1.tg∧r.fa.length≤s1.fa.length+1:=λr hr=>by
    subst hr;unfold oJ;simp only[];split
    ·split
     ·exact⟨rfl,by rw[eJ];omega⟩
     ·exact⟨rfl,by omega⟩
    ·exact⟨rfl,by omega⟩
   exact fin _ (e _ rfl).1 (e _ rfl).2
theorem Hn(hE:lJ E N)(hb:tbulk t≤N+1)(hx:exT t)(hk:t.kind=16)(hy:Hyp x env s L (tbulk t) (uN t)):
  ckC x s t env (mj E x t env s).1 (mj E x t env s).2∧Pst L (tbulk t) (uN t) s (mj E x t env s):=by
 have hB:=bp t;have hU:uN t=1+uNs t.kids:=by rw[fZ,hk];simp
 have p1:=hy.pa;have p2:=hy.fa;have p3:=hy.tg;have p4:=hy.lb;have hkl:=bN t;have ht:∀(i:Nat) (a:Tree),t.kids[i]?=some a→∃u,a.kids[0]?=some u∧tbulk u<tbulk a∧tbulk u≤N∧exT u∧uN a=uN u:=λi a ha=>by
  obtain⟨h1,h2,h3⟩:=zG hx ha hk;obtain⟨u,e⟩:=wA h2;have hu:a.kids[0]?=some u:=by rw[e];rfl
  have h4:=ax hu;have h5:=ax ha;rw[dl hu]at h3;exact⟨u,hu,h4,by omega,h3,by rw[fZ a,h1,e];simp[uNs]⟩
 obtain⟨g,hg⟩:∃g,g=s.tg.headD noT:=⟨_,rfl⟩;have O:=Ks (x:=x) (s:=s) (by omega);rw[←hg]at O;obtain⟨q,U⟩:∃q,q=nB x g:=⟨_,rfl⟩;have hqr:KOk L q.result:=by
  rw[U];unfold nB;split
  ·exact qu 0
  ·cases Z:aC (g.Module,g.Def) x.sg with
   |none=>exact qu 0
   |some d=>exact hy.sg _ d Z
 obtain⟨s1,J⟩:∃s1,s1=oC x t g q (bx s):=⟨_,rfl⟩;have f1:s1.tg=s.tg.drop 1∧s1.fa.length≤s.fa.length+1:=by
  rw[J];unfold oC;split
  ·exact⟨rfl,by rw[eJ];simp[bx]⟩
  ·split
   ·exact⟨rfl,by simp[bx]⟩
   ·exact⟨rfl,by rw[eJ];simp[bx]⟩
 have e0:mj E x t env s=(q.result,gg E x q.params env t.kids 0 s1):=by rw[J,U,hg];rfl
 obtain⟨A1,A2,A3⟩:=Cq hE (x:=x) (env:=env) (L:=L) (t:=t) q.params q.result.simple q.result.lists (by omega) ht t.kids.length 0 s1 (by omega) (by simp;omega) (hy.to (by simp;omega) (by simp;omega) (by rw[f1.1,List.length_drop];simp;omega));simp only[List.drop_zero]at A1 A2 A3;rw[e0];refine⟨tH (t.kids.length+1) _ _ _ _ _ (⟨_,_,O,λh=>?_,λh=>⟨λZ=>⟨λhn=>?_,λhn=>?_⟩,λd Z=>⟨λhn=>?_,λhn=>?_⟩⟩⟩),?_⟩
 ·have eq:q=⟨[],⟨0,0⟩⟩:=U.trans (if_pos h);have es:s1=faP x 1 [] (bx s):=J.trans (if_pos h);rw[es,eq]at A1;rw[es,eq];exact⟨_,eB (x:=x) (s:=bx s) 1 [] (by simp;omega) (by simp[bx];omega),A1⟩
 ·have eq:q=⟨[],⟨0,0⟩⟩:=U.trans ((if_neg (by rw[h];decide)).trans (by have G:=Z;simp only[mkC]at G;rw[G];rfl));have es:s1=faP x 3 [] (bx s):=J.trans ((if_neg (by rw[h];decide)).trans (if_neg (by rw[eq];intro e;have e':0=t.kids.length:=e;exact hn (by omega))));rw[es,eq]at A1;rw[es,eq];exact⟨_,eB (x:=x) (s:=bx s) 3 [] (by simp;omega) (by simp[bx];omega),A1⟩
 ·have eq:q=⟨[],⟨0,0⟩⟩:=U.trans ((if_neg (by rw[h];decide)).trans (by have G:=Z;simp only[mkC]at G;rw[G];rfl));have es:s1=bx s:=J.trans ((if_neg (by rw[h];decide)).trans (if_pos (by rw[eq];show 0=t.kids.length;omega)));rw[es,eq]at A1;rw[es,eq];exact A1
 ·have eq:q=d:=U.trans ((if_neg (by rw[h];decide)).trans (by have G:=Z;simp only[mkC]at G;rw[G];rfl));have es:s1=faP x 3 [] (bx s):=J.trans ((if_neg (by rw[h];decide)).trans (if_neg (by rw[eq];exact hn)));rw[es,eq]at A1;rw[es,eq];exact⟨_,eB (x:=x) (s:=bx s) 3 [] (by simp;omega) (by simp[bx];omega),A1⟩
 ·have eq:q=d:=U.trans ((if_neg (by rw[h];decide)).trans (by have G:=Z;simp only[mkC]at G;rw[G];rfl));have es:s1=bx s:=J.trans ((if_neg (by rw[h];decide)).trans (if_pos (by rw[eq];exact hn)));rw[es,eq]at A1;rw[es,eq];exact A1
 ·exact⟨hqr.mono (by omega),by simp only[];rw[A2,f1.1,List.drop_drop,hU],by simp only[];omega⟩
theorem GN(hE:lJ E N):lJ (bl E) (N+1):=λt hb hx x env s L hy=>by
 have p1:=hy.pa;have p2:=hy.fa;have p3:=hy.tg;have p4:=hy.lb;have hB:=bp t;have leaf:∀z:Int,uN t=uN t→Pst L (tbulk t) 0 s (⟨z,0⟩,s):=λz _=>⟨qu _,by simp,by simp only[];omega⟩;have hkl:=bN t;have run:∀(b:Bool) (k:Kn) (s':Sv),dS 1 (mkC x s) t env b k (mkC x s')→t.kind≠10→t.kind≠11→(b=true↔t.kind=13∨t.kind=14)→ckE x s t env k s':=λb k s' h n1 n2 hb=>by
  refine gv 1 _ _ _ _ _ (⟨λh=>absurd h n1,λ_=>⟨λh=>absurd h n2,λ_=>⟨λh13=>?_,λh13=>?_⟩⟩⟩)
  ·have :b=true:=hb.2 (.inl h13);subst this;exact h
  ·have :b=(t.kind==14):=by
    by_cases h14:t.kind=14
    ·rw[hb.2 (.inr h14)];simp[h14]
    ·have :b≠true:=λe=>(hb.1 e).elim h13 h14;simp[this,h14]
   subst this;exact h
 have hk:=hx.2;have hk':10≤t.kind∧t.kind≤22∧t.kind≠17:=by simpa[dv]using hk
 have leafU:10≤t.kind→t.kind≤15→uN t=0:=λh1 h2=>by
  have hs:=hx.1;rw[bV]at hs;simp only[Bool.and_eq_true,decide_eq_true_eq]at hs;have hl:=hs.1.1;have h0:(t.kids.length:Int)≤0:=by
   have :t.kind=10∨t.kind=11∨t.kind=12∨t.kind=13∨t.kind=14∨t.kind=15:=by omega
   rcases this with e|e|e|e|e|e<;>(rw[e]at hl;exact(pW (show 0≤f0 t.kids.length 0 1 0 0 from hl)).2 (by omega))
  have h3:t.kids=[]:=List.length_eq_zero_iff.1 (by omega);rw[fZ,h3,if_neg (by omega)];simp[uNs]
 have drp:∀k,KOk (L+tbulk t) k→bl E x t env s=(k,s)→uN t=0→Pst L (tbulk t) (uN t) s (bl E x t env s):=λk h1 h2 h3=>by rw[h2,h3];exact⟨h1,by simp,by simp only[];omega⟩
 by_cases h:t.kind=10
 ·have e:bl E x t env s=(⟨5,0⟩,s):=by simp[bl,h]
  refine⟨?_,drp _ (qu _) e (leafU (by omega) (by omega))⟩;rw[e];exact gv 0 _ _ _ _ _ (⟨λ_=>⟨rfl,rfl⟩,λh'=>absurd h h'⟩)
 by_cases h:t.kind=11
 ·have e:bl E x t env s=(⟨6,0⟩,s):=by simp[bl,h]
  refine⟨?_,drp _ (qu _) e (leafU (by omega) (by omega))⟩;rw[e];exact gv 0 _ _ _ _ _ (⟨λh'=>absurd h' (by omega),λ_=>⟨λ_=>⟨rfl,rfl⟩,λh'=>absurd h h'⟩⟩)
 by_cases h:t.kind=13∨t.kind=14
 ·have e:bl E x t env s=(⟨7,0⟩,s):=by rcases h with h|h<;>simp[bl,h]
  refine⟨?_,drp _ (qu _) e (leafU (by omega) (by omega))⟩;rw[e];exact run true _ _ (ba 0 _ _ _ _ _ _ (⟨λ_=>⟨rfl,rfl⟩,λh'=>(by cases h')⟩)) (by omega) (by omega) ⟨λ_=>h,λ_=>rfl⟩
 by_cases h:t.kind=12
 ·have e:bl E x t env s=qv x s (ic t.text env):=by simp[bl,h]
  have h0:=leafU (by omega) (by omega);have v:=NY (x:=x) (s:=s) t env (by omega) (by omega);rw[e];refine⟨run false _ _ (ba 0 _ _ _ _ _ _ (⟨λh'=>(by cases h'),λ_=>⟨λ_=>⟨_,_,v,rfl,rfl⟩,λh'=>absurd h h'⟩⟩)) (by omega) (by omega) (by constructor<;>intro h'<;>first|(cases h';done)|omega),?_⟩;cases hv:ic t.text env with
  |none=>exact⟨qu _,by rw[h0];simp[qv,faP],by show(faP x 1 [] s).fa.length+1≤_;rw[eJ];omega⟩
  | some k=>
   have :∀l:Env,ic t.text l=some k→∃b∈l,b.typ=k:=λl=>by
    induction l with
    |nil=>intro h;cases h
    |cons b r ih=>
     intro hh;unfold ic at hh;split at hh
     ·injection hh with hh;exact⟨b,List.mem_cons_self,hh⟩
     ·obtain⟨c,c1,c2⟩:=ih hh;exact⟨c,List.mem_cons_of_mem _ c1,c2⟩
   obtain⟨b,hb1,hb2⟩:=this env hv;exact⟨by show KOk _ k;rw[←hb2];exact(hy.env b hb1).mono (by omega),by rw[h0];simp[qv],by simp only[qv];omega⟩
 by_cases h:t.kind=16
 ·have e:bl E x t env s=mj E x t env s:=by simp[bl,h]
  obtain⟨c1,c2⟩:=Hn hE hb hx h hy;rw[e];exact⟨run false _ _ (ba 0 _ _ _ _ _ _ (⟨λh'=>(by cases h'),λ_=>⟨λh'=>absurd h' (by omega),λ_=>⟨λ_=>⟨_,_,c1,rfl,rfl⟩,λh'=>absurd h h'⟩⟩⟩)) (by omega) (by omega) (by constructor<;>intro h'<;>first|(cases h';done)|omega),c2⟩
 by_cases h:t.kind=18
 ·have e:bl E x t env s=iS (fQ E x t env t.kids.length 0 (⟨0,0⟩,s)):=by simp[bl,h]
  have hU:uN t=uNs t.kids:=by rw[fZ,h];simp
  obtain⟨c1,c2,c3,c4⟩:=FD hE (x:=x) (env:=env) (L:=L) (M:=kbulk t.kids) (t:=t) (by omega) (λi u hu=>by
   have h1:=ax hu;exact⟨by omega,aY hu,(cv hx hu (by omega)).1⟩) t.kids.length 0 ⟨0,0⟩ s (by omega) (qu _) (hy.to (by simp;omega) (by simp;omega) (by simp;omega)) (by omega)
  simp only[List.drop_zero]at c3 c4;rw[e];refine⟨run false _ _ (ba 0 _ _ _ _ _ _ (⟨λh'=>(by cases h'),λ_=>⟨λh'=>absurd h' (by omega),λ_=>⟨λh'=>absurd h' (by omega),λ_=>⟨λ_=>⟨_,_,tu (t.kids.length+1) _ _ _ _ _ (c1),rfl,rfl⟩,λh'=>absurd h h'⟩⟩⟩⟩)) (by omega) (by omega) (by constructor<;>intro h'<;>first|(cases h';done)|omega),c2.mono (by omega),by rw[c3,hU],by omega⟩
 by_cases h:t.kind=19
 ·have e:bl E x t env s=ifP E x t env s:=by simp[bl,h]
  obtain⟨c1,c2⟩:=LA hE hb hx h hy;rw[e];exact⟨run false _ _ (ba 0 _ _ _ _ _ _ (⟨λh'=>(by cases h'),λ_=>⟨λh'=>absurd h' (by omega),λ_=>⟨λh'=>absurd h' (by omega),λ_=>⟨λh'=>absurd h' (by omega),λ_=>⟨λ_=>⟨_,_,c1,rfl,rfl⟩,λh'=>absurd h h'⟩⟩⟩⟩⟩)) (by omega) (by omega) (by constructor<;>intro h'<;>first|(cases h';done)|omega),c2⟩
 by_cases h:t.kind=20
 ·have e:bl E x t env s=BI E x t env (aA E x t 0 env s):=by simp[bl,h]
  obtain⟨a,b,ek⟩:=AM ((nZ hx).2.1 h);have ha:t.kids[0]?=some a:=by rw[ek];rfl
  have hb':t.kids[1]?=some b:=by rw[ek];rfl
  rw[ek]at hB;simp only[kbulk]at hB;have hU:uN t=uN a+uN b:=by rw[fZ,ek,h];simp[uNs]
  rw[e];obtain⟨A1,A2⟩:=da hE (s:=s) (env:=env) (x:=x) (L:=L) ha (by omega) (cv hx ha (by omega)).1 (hy.to (by omega) (by omega) (by omega));generalize aA E x t 0 env s=r at A1 A2⊢;obtain⟨k1,s1⟩:=r;have q1:=A2.fa;have q2:=A2.k;simp only at q1 q2;show ckE x s t env (aA E x t 1 (⟨t.text,k1⟩::env) s1).1 (aA E x t 1 (⟨t.text,k1⟩::env) s1).2∧Pst L (tbulk t) (uN t) s (aA E x t 1 (⟨t.text,k1⟩::env) s1);obtain⟨B1,B2⟩:=da hE (s:=s1) (env:=⟨t.text,k1⟩::env) (x:=x) (L:=L+tbulk a) hb' (by omega) (cv hx hb' (by omega)).1 ⟨by omega,by omega,pr (v:=uN t) A2.tg (by omega) p3,by omega,λc hc=>by
   rcases List.mem_cons.1 hc with rfl|hc
   ·exact q2
   ·exact(hy.env c hc).mono (by omega),λk g hg=>(hy.sg k g hg).mono (by omega)⟩
  refine⟨run false _ _ (ba 0 _ _ _ _ _ _ (⟨λh'=>(by cases h'),λ_=>⟨λh'=>absurd h' (by omega),λ_=>⟨λh'=>absurd h' (by omega),λ_=>⟨λh'=>absurd h' (by omega),λ_=>⟨λh'=>absurd h' (by omega),λ_=>⟨λ_=>⟨_,_,A1,_,_,B1,rfl,rfl⟩,λh'=>absurd h h'⟩⟩⟩⟩⟩⟩)) (by omega) (by omega) (by constructor<;>intro h'<;>first|(cases h';done)|omega),B2.k.mono (by omega),by rw[B2.tg,A2.tg,List.drop_drop,hU],by have :=B2.fa;omega⟩
 by_cases h:t.kind=21
 ·have e:bl E x t env s=sb E x t env (aA E x t 0 env s):=by simp[bl,h]
  obtain⟨c1,c2⟩:=Kg hE hb hx h hy;rw[e];exact⟨run false _ _ (ba 0 _ _ _ _ _ _ (⟨λh'=>(by cases h'),λ_=>⟨λh'=>absurd h' (by omega),λ_=>⟨λh'=>absurd h' (by omega),λ_=>⟨λh'=>absurd h' (by omega),λ_=>⟨λh'=>absurd h' (by omega),λ_=>⟨λh'=>absurd h' (by omega),λ_=>⟨λ_=>⟨_,_,c1,rfl,rfl⟩,λh'=>absurd h h'⟩⟩⟩⟩⟩⟩⟩)) (by omega) (by omega) (by constructor<;>intro h'<;>first|(cases h';done)|omega),c2⟩
 by_cases h:t.kind=22
 ·have e:bl E x t env s=aA E x t 0 env s:=by simp[bl,h]
  obtain⟨a,ek⟩:=wA ((nZ hx).1 h);have ha:t.kids[0]?=some a:=by rw[ek];rfl
  rw[ek]at hB;simp only[kbulk]at hB;have hU:uN t=uN a:=by rw[fZ,ek,h];simp[uNs]
  obtain⟨A1,A2⟩:=da hE (s:=s) (env:=env) (x:=x) (L:=L) ha (by omega) (cv hx ha (by omega)).1 (hy.to (by omega) (by omega) (by omega));rw[e];exact⟨run false _ _ (ba 0 _ _ _ _ _ _ (⟨λh'=>(by cases h'),λ_=>⟨λh'=>absurd h' (by omega),λ_=>⟨λh'=>absurd h' (by omega),λ_=>⟨λh'=>absurd h' (by omega),λ_=>⟨λh'=>absurd h' (by omega),λ_=>⟨λh'=>absurd h' (by omega),λ_=>⟨λh'=>absurd h' (by omega),λ_=>⟨λ_=>⟨_,_,A1,rfl,rfl⟩,λh'=>absurd h h'⟩⟩⟩⟩⟩⟩⟩⟩)) (by omega) (by omega) (by constructor<;>intro h'<;>first|(cases h';done)|omega),A2.k.mono (by omega),by rw[A2.tg,hU],by have :=A2.fa;omega⟩
 ·have e:bl E x t env s=(⟨0,0⟩,s):=by
   have :t.kind=15:=by omega
   simp[bl,this]
  refine⟨?_,drp _ (qu _) e (leafU (by omega) (by omega))⟩;rw[e];exact run false _ _ (ba 0 _ _ _ _ _ _ (⟨λh'=>(by cases h'),λ_=>⟨λh'=>absurd h' (by omega),λ_=>⟨λh'=>absurd h' (by omega),λ_=>⟨λh'=>absurd h' (by omega),λ_=>⟨λh'=>absurd h' (by omega),λ_=>⟨λh'=>absurd h' (by omega),λ_=>⟨λh'=>absurd h' (by omega),λ_=>⟨λh'=>absurd h' (by omega),λ_=>⟨rfl,rfl⟩⟩⟩⟩⟩⟩⟩⟩⟩)) (by omega) (by omega) (by constructor<;>intro h'<;>first|(cases h';done)|omega)
theorem si:∀n,lJ (bj n) n
 |0=>λt hb=>by have :=bN t;omega
 |n+1=>GN (si n)
set_option maxHeartbeats 4000000
def iB(G q0:CKr):Prop:=bC [] prog 25 [.ptr 0 0] ⟨5,(CKr.y G 3)⟩ (CKr.v q0)
def dg(m:Nat)(p1:Tree)(p2:ak)(b:Nat)(a:CKr)(d:Nat)(q0:CKr):Prop:=∀(K:Ctx) (G:Nat),az K [2,1,0]→m≤G→qLG K f55 (CKr.v q0) (xH (ai f55)) [.loop (xH (ai f55)) G,.blk 0,.seq (xE (ai f55))] 72 (mkF 72 0 [(0,.ptr 0 0),(4,.box (am p1) 0),(5,.box (ak.c p2) 0),(6,qi ((p1.kids.length:Int)-2)),(18,.row 4 (kidsV (p1.kids.take b))),(19,qi (((p1.kids.take b).length:Nat):Int)),(20,qi (d:Int))]) ⟨5,(CKr.y a 3)⟩
def cu(m:Nat)(p1:Tree)(p2:ak)(a:CKr)(b:List au)(d:Int)(q0:CKr):Prop:=∀(K:Ctx) (G:Nat),az K [2,1,0]→m≤G→qLG K f55 (CKr.v q0) (xH (xE (ai f55))) [.loop (xH (xE (ai f55))) G,.blk 2,.seq (xF (xA (ai f55)))] 72 (mkF 72 0 [(0,.ptr 0 0),(4,.box (am p1) 0),(5,.box (ak.c p2) 0),(6,qi ((p1.kids.length:Int)-2)),(9,.lk (List.map au.c b)),(10,qi d)]) ⟨5,(CKr.y a 3)⟩
theorem qE(m:Nat)(p0:CKr)(p1:Tree)(p2:ak)(q0:CKr)(h:∃a,((p1.kids.length:Int)-2)=((a:Nat):Int)∧a≤p1.kids.length∧dg m p1 p2 a p0 0 q0):fB p0 p1 p2 q0:=by
 refine qA 72 [2,1,0] func55 λK hK=>?_;refine gR 3 rfl<|gFP 5 rfl rfl rfl rfl<|gR 1 rfl<|gFP 6 rfl rfl rfl rfl<|gR 7 rfl<|gV 13 (qi (p1.kids.length:Int)) rfl (aI (aD _)) rfl<|gLB 12 rfl (aD _) λc=>gR 1 rfl<|gV 14 (qi ((p1.kids.length:Int)-2)) rfl (al (by have :=c;omega) rfl) rfl<|gR 9 rfl ?_;obtain⟨a,b,h⟩:=h;refine gV 17 (qi ((a:Nat):Int)) rfl (aK b) rfl ?_;obtain⟨hb',h⟩:=h;exact gY (IY (aD p1.kids) ah rfl rfl xy (xe rfl) (Nat.zero_le _) hb' (((MO _ _ _).trans (congrArg _ (uF _ _))))) rfl rfl<|gR 1 rfl<|gV 19 (qi (((p1.kids.take a).length:Nat):Int)) rfl (aI (aD _)) rfl<|gLB 18 rfl (aD _) λd=>gR 4 rfl<|go_loop m<|qW hK h [0,1,2,3,4]
theorem kK(m:Nat)(p1:Tree)(p2:ak)(g:Nat)(i:CKr)(a:Nat)(q0:CKr)(h:((a<((p1.kids.take g).length))→∃f,(p1.kids.take g)[a]?=some f∧∃b,cF i (a:Int) b∧∃c,df b f 0 c∧∃d,aU c d∧a+1≤9223372036854775807∧dg m p1 p2 g d (a+1) q0)∧((¬a<((p1.kids.take g).length))→∃e,df i p1 ((p1.kids.length:Int)-2) e∧InI (((p1.kids.length:Int)-2)-1)∧cu m p1 p2 e [] (((p1.kids.length:Int)-2)-1) q0)):dg (m+1) p1 p2 g i a q0:=by
 refine qj λK j1 hK q=>?_;refine gR 6 rfl<|qXh 21 rfl rfl rfl h cr co ?_ ?_<;>intro hd h;refine gR 8 rfl ?_;obtain⟨f,j,h⟩:=h;refine gY (aG (aq j) ah rfl rfl rfl rfl) rfl rfl<|gR 10 rfl ?_;obtain⟨b,k,h⟩:=h;refine qC k [0,1,2,3,4] ?_;refine qHX ⟨11,(CKr.z b [(5,.var 29 (am f))] 9)⟩<|gR 6 rfl ?_;obtain⟨c,l,h⟩:=h;refine qC l [0,1,2,9,10] ?_;refine qHX ⟨16,(CKr.z c [(5,.var 29 (am f))] 14)⟩<|gR 4 rfl ?_;obtain⟨d,n,h⟩:=h;refine qC n [0,1,2,14,15] ?_;refine qHX ⟨21,(CKr.z d [(5,.var 29 (am f))] 19)⟩<|gR 4 rfl ?_;obtain⟨hb,h⟩:=h;exact gR 1 rfl<|gV 33 (qi ((a+1:Nat):Int)) rfl (al (by omega) (by omega)) rfl<|gR 2 rfl<|go_xloop<|qW hK h [0,1,2,19,20];refine gR 3 rfl<|go_xloopE<|gR 7 rfl ?_;obtain⟨e,p,h⟩:=h;refine qC p [0,1,2,3,4] ?_;refine qHX ⟨10,(CKr.y e 8)⟩<|gR 11 rfl ?_;obtain⟨hb,h⟩:=h;exact gR 1 rfl<|gV 39 (qi (((p1.kids.length:Int)-2)-1)) rfl (al hb rfl) rfl<|gR 4 rfl<|go_loop m<|qJ hK (h K _ hK (by omega)) [0,1,2,8,9] ⟨⟨_,rfl,.rfl⟩,⟨_,rfl,.rfl⟩,⟨_,rfl,.rfl⟩,⟨_,rfl,.rfl⟩,⟨_,rfl,lkN⟩,⟨_,rfl,.rfl⟩,trivial⟩
theorem kG(m:Nat)(p1:Tree)(p2:ak)(i:CKr)(j:List au)(b:Int)(q0:CKr)(h:((0≤b)→∃d,b=((d:Nat):Int)∧∃k,p1.kids[d]?=some k∧∃e,b=((e:Nat):Int)∧∃l,p2.params[e]?=some l∧InI (b-1)∧cu m p1 p2 i (au.mk k.text l::j) (b-1) q0)∧((¬0≤b)→InI (((p1.kids.length:Int)-2)+1)∧∃n a,bi i p1 (((p1.kids.length:Int)-2)+1) j n a∧∃g,bY n p2.result g∧((g=true)→InI (((p1.kids.length:Int)-2)+1)∧∃c,aE a 4 [(((p1.kids.length:Int)-2)+1)] c∧c=q0)∧((g=false)→a=q0))):cu (m+1) p1 p2 i j b q0:=by
 refine qj λK O G y=>?_;refine gR 7 rfl<|qXd 41 rfl rfl rfl h ?_ ?_<;>intro J h;refine gR 5 rfl<|qDs [] 15 15<|qDr (qR 0 3 2 []) rfl rfl ?_;obtain⟨d,r,h⟩:=h;refine gV 46 (qi ((d:Nat):Int)) rfl (aK r) rfl ?_;obtain⟨k,p,h⟩:=h;refine gYd 3 rfl (by kernel_rfl) (aG (aq p) ah rfl rfl rfl rfl) rfl rfl<|qDr (qR 4 5 2 []) rfl rfl ?_;obtain⟨e,s,h⟩:=h;refine gV 52 (qi ((e:Nat):Int)) rfl (aK s) rfl ?_;obtain⟨l,q,h⟩:=h;refine gYd 9 rfl (by kernel_rfl) (aG (aw (f:=aa.w) q) ah rfl rfl rfl rfl) rfl rfl<|qDr ((10,2)::(qR 11 4 0 [])) rfl rfl<|qDe<|gR 4 rfl ?_;obtain⟨hb,h⟩:=h;exact gR 1 rfl<|gV 43 (qi (b-1)) rfl (al hb rfl) rfl<|gR 2 rfl<|go_xloop<|gFP 5 rfl rfl rfl rfl<|qJ G (h K _ G (by omega)) [0,1,2,3,4] ⟨⟨_,rfl,.rfl⟩,⟨_,rfl,.rfl⟩,⟨_,rfl,.rfl⟩,⟨_,rfl,.rfl⟩,⟨_,rfl,(lkC rfl)⟩,⟨_,rfl,.rfl⟩,trivial⟩;refine gR 3 rfl<|go_xloopE<|gR 3 rfl<|qDs [] 9 9<|qDr (qR 0 3 2 []) rfl rfl ?_;obtain⟨hb,h⟩:=h;refine qDr [(3,2)] rfl rfl<|gV 61 (qi (((p1.kids.length:Int)-2)+1)) rfl (al hb rfl) rfl<|qDr [(4,2),(6,2),(7,2)] rfl rfl ?_;obtain⟨n,a,t,h⟩:=h;refine qDC 5 t [0,1,2,3,4] rfl ?_;refine qHX ⟨11,(CKr.y a 8)⟩ ?_;obtain⟨g,v,h⟩:=h;refine eU 8 v (by kernel_rfl) rfl (by kernel_rfl) rfl rfl .rfl rfl rfl ?_;refine qDe<|gR 1 rfl<|qXi 66 rfl rfl rfl h ?_ ?_<;>intro J h;refine gR 4 rfl ?_;obtain⟨hb,h⟩:=h;refine gR 1 rfl<|gV 69 (qi (((p1.kids.length:Int)-2)+1)) rfl (al hb rfl) rfl<|gR 1 rfl<|gFR 11 rfl rfl rfl rfl ?_;obtain⟨c,x,h⟩:=h;refine qC x [0,1,2,8,9] ?_;refine qHX ⟨17,(CKr.y c 15)⟩<|gR 1 rfl ?_;subst h;exact gE G [] [] [0,1,2,15,16] [];refine gR 2 rfl ?_;subst h;exact gE G [] [] [0,1,2,8,9] []
def fh(m:Nat)(G a:CKr)(b:Nat)(q0:CKr):Prop:=∀(K:Ctx) (J:Nat),az K [2,1,0]→m≤J→qLG K f25 (CKr.v q0) (xM (ai f25)) [.loop (xM (ai f25)) J,.blk 0] 61 (mkF 61 0 [(0,.ptr 0 0),(9,.row 4 (kidsV G.p)),(10,qi (G.p.length:Int)),(11,qi (b:Int))]) ⟨5,(CKr.y a 3)⟩
def ch(m:Nat)(G:CKr)(b:Tree)(a:CKr)(c d e:Nat)(q0:CKr):Prop:=∀(K:Ctx) (J O:Nat),az K [2,1,0]→m≤J→m≤O→qLG K f25 (CKr.v q0) (xB (xE (xK (xA (xM (ai f25)))))) [.loop (xB (xE (xK (xA (xM (ai f25)))))) J,.blk 2,.blk 1,.seq (xE (xM (ai f25))),.loop (xM (ai f25)) O,.blk 0] 61 (mkF 61 0 [(0,.ptr 0 0),(2,qi (d:Int)),(9,.row 4 (kidsV G.p)),(10,qi (G.p.length:Int)),(11,qi (e:Int)),(21,.row 4 (kidsV b.kids)),(22,qi (b.kids.length:Int)),(23,qi (c:Int))]) ⟨5,(CKr.y a 3)⟩
def kh(m:Nat)(G:CKr)(b:Tree)(a:CKr)(c d e:Nat)(q0:CKr):Prop:=∀(K:Ctx) (J O:Nat),az K [2,1,0]→m≤J→m≤O→Go prog K (bodyPost prog f25 (SP K (CKr.v q0))) (.ex .normal) [.seq (xE (xK (xA (xB (xE (xK (xA (xM (ai f25))))))))),.blk 3,.seq (xE (xB (xE (xK (xA (xM (ai f25))))))),.loop (xB (xE (xK (xA (xM (ai f25)))))) J,.blk 2,.blk 1,.seq (xE (xM (ai f25))),.loop (xM (ai f25)) O,.blk 0] 61 (mkF 61 0 [(0,.ptr 0 0),(2,qi (c:Int)),(9,.row 4 (kidsV G.p)),(10,qi (G.p.length:Int)),(11,qi (d:Int)),(21,.row 4 (kidsV b.kids)),(22,qi (b.kids.length:Int)),(23,qi (e:Int))]) ⟨5,(CKr.y a 3)⟩
theorem uh(m:Nat)(p0 q0:CKr)(h:fh m p0 p0 0 q0):iB p0 q0:=by
 refine qA 61 [2,1,0] func25 λK hK=>?_;exact gR 7 rfl<|gV 10 (qi (p0.p.length:Int)) rfl (aI (aD _)) rfl<|gLB 9 rfl (aD _) λa=>gR 4 rfl<|go_loop m<|qW hK h [0,1,2,3,4]
theorem nt(m:Nat)(p0 c:CKr)(a:Nat)(q0:CKr)(h:((a<p0.p.length)→∃b,p0.p[a]?=some b∧ch m p0 b ({c with module:=(a:Int)}) 0 a a q0)∧((¬a<p0.p.length)→c=q0)):fh (m+1) p0 c a q0:=by
 refine qj λK j1 hK f=>?_;refine gR 6 rfl<|qXh 12 rfl rfl rfl h cr co ?_ ?_<;>intro hd h;refine gR 8 rfl ?_;obtain⟨b,d,h⟩:=h;exact gY (aG (aq d) ah rfl rfl rfl rfl) rfl rfl<|gR 20 rfl<|gV 22 (qi (b.kids.length:Int)) rfl (aI (aD _)) rfl<|gLB 21 rfl (aD _) λe=>gR 4 rfl<|go_loop m<|qJ hK (h K _ _ hK (by omega) (by omega)) [0,1,2,3,4];refine gR 3 rfl<|go_xloopE<|gR 1 rfl ?_;subst h;exact gE hK [] [] [0,1,2,3,4] []
theorem jV(m:Nat)(J:CKr)(r:Tree)(δ:CKr)(a g s:Nat)(q0:CKr)(h:((a<r.kids.length)→∃d,r.kids[a]?=some d∧∃b,cF δ (a:Int) b∧((d.kind=2)→((aC ((g:Int),(a:Int)) b.signatures=none)→∃e,fB b d (ak.mk [] (aa.mk 0 0)) e∧kh m J r e g s a q0)∧(∀(z:ak),aC ((g:Int),(a:Int)) b.signatures=some z→∃f,fB b d z f∧kh m J r f g s a q0))∧((d.kind≠2)→∃β,kW b.p (g:Int) (a:Int) β∧((β=true)→∃t,aE b 5 [] t∧∃x,df t d 0 x∧∃y,aU x y∧a+1≤9223372036854775807∧ch m J r y (a+1) g s q0)∧((β=false)→∃n,df b d 0 n∧∃q,aU n q∧a+1≤9223372036854775807∧ch m J r q (a+1) g s q0)))∧((¬a<r.kids.length)→s+1≤9223372036854775807∧fh m J δ (s+1) q0)):ch (m+1) J r δ a g s q0:=by
 intro K O U G χ ψ;obtain⟨O,rfl⟩:∃j,O=j+1:=⟨O-1,by omega⟩;obtain⟨U,rfl⟩:∃j,U=j+1:=⟨U-1,by omega⟩;refine gR 6 rfl<|qXh 24 rfl rfl rfl h cr co ?_ ?_<;>intro Z h;refine gR 8 rfl ?_;obtain⟨d,ε,h⟩:=h;refine gY (aG (aq ε) ah rfl rfl rfl rfl) rfl rfl<|gR 10 rfl ?_;obtain⟨b,ζ,h⟩:=h;refine qC ζ [0,1,2,3,4] ?_;refine qHX ⟨11,(CKr.z b [(5,.var 29 (am d))] 9)⟩<|gR 10 rfl<|qXe 33 rfl rfl rfl h ?_ ?_<;>intro Z h;refine gR 1 rfl<|qDs [] 11 11<|qDr ((0,2)::(qR 2 3 2 (qR 6 3 2 []))) rfl rfl ?_;apply bH (i:=1) (j:=5) (by kernel_rfl) rfl rfl rfl rfl;exact(bg ah rfl rfl);exact(bg ah rfl rfl);refine qDr [(5,0)] rfl rfl ?_;rcases γ:aC ((g:Int),(a:Int)) b.signatures with _|z
 replace h:=h.1 γ;refine cb (v:=some (.agg [.nils,qi 0,qi 0])) 9 (.nop) rfl (by kernel_rfl) (sp dj (encV:=ak.w) (k:=((g:Int),(a:Int))) (l:=b.signatures) (zv:=.agg [.nils,qi 0,qi 0]) γ underlying56 zeroValue97 (by kernel_rfl) rfl rfl rfl rfl) trivial rfl (by kernel_rfl) rfl rfl ?_;obtain⟨e,η,h⟩:=h;refine qDC 10 η [0,1,2,9,10] rfl (hs:=(.cons .rfl (.cons .rfl (.cons (.agg (.cons (.nil 2) (.cons .rfl (.cons .rfl .nil)))) .nil)))) ?_;exact qHX ⟨16,(CKr.z e [(5,.var 29 (am d))] 14)⟩<|qDe<|qJ G (h K _ _ G (by omega) (by omega)) [0,1,2,14,15];replace h:=h.2 z γ;refine cb (v:=some (.agg (ak.c z))) 9 (.nop) rfl (by kernel_rfl) (sx dj (encV:=ak.w) (k:=((g:Int),(a:Int))) (l:=b.signatures) (zv:=.agg [.nils,qi 0,qi 0]) γ underlying56 zeroValue97 (by kernel_rfl) rfl rfl rfl rfl) trivial rfl (by kernel_rfl) rfl rfl ?_;obtain⟨f,θ,h⟩:=h;refine qDC 10 θ [0,1,2,9,10] rfl ?_;exact qHX ⟨16,(CKr.z f [(5,.var 29 (am d))] 14)⟩<|qDe<|qJ G (h K _ _ G (by omega) (by omega)) [0,1,2,14,15];rcases α:aC ((g:Int),(a:Int)) b.signatures with _|z
 replace h:=h.1 α;apply bH (i:=1) (j:=9) (by kernel_rfl) rfl rfl rfl rfl;exact(bg ah rfl rfl);exact(qe (.nop) (sp dj (encV:=ak.w) (k:=((g:Int),(a:Int))) (l:=b.signatures) (zv:=.agg [.nils,qi 0,qi 0]) α underlying56 zeroValue97 (by kernel_rfl) rfl rfl rfl rfl) trivial (by kernel_rfl));refine cb 9 (.nop) rfl (by kernel_rfl) (sp dj (encV:=ak.w) (k:=((g:Int),(a:Int))) (l:=b.signatures) (zv:=.agg [.nils,qi 0,qi 0]) α underlying56 zeroValue97 (by kernel_rfl) rfl rfl rfl rfl) trivial rfl (by kernel_rfl) rfl rfl ?_;obtain⟨e,ι,h⟩:=h;refine qDC 10 ι [0,1,2,9,10] rfl (hs:=(.cons .rfl (.cons .rfl (.cons (.agg (.cons (.nil 2) (.cons .rfl (.cons .rfl .nil)))) .nil)))) ?_;exact qHX ⟨16,(CKr.z e [(5,.var 29 (am d))] 14)⟩<|qDe<|qJ G (h K _ _ G (by omega) (by omega)) [0,1,2,14,15];refine qDr [(1,0)] rfl rfl ?_;obtain⟨e,κ,h⟩:=h;refine qDC 10 κ [0,1,2,9,10] rfl (hs:=(.cons .rfl (.cons .rfl (.cons (.agg (.cons (.nil 2) (.cons .rfl (.cons .rfl .nil)))) .nil)))) ?_;exact qHX ⟨16,(CKr.z e [(5,.var 29 (am d))] 14)⟩<|qDe<|qJ G (h K _ _ G (by omega) (by omega)) [0,1,2,14,15];replace h:=h.2 z α;apply bH (i:=1) (j:=9) (by kernel_rfl) rfl rfl rfl rfl;exact(bg ah rfl rfl);exact(qe (.nop) (sx dj (encV:=ak.w) (k:=((g:Int),(a:Int))) (l:=b.signatures) (zv:=.agg [.nils,qi 0,qi 0]) α underlying56 zeroValue97 (by kernel_rfl) rfl rfl rfl rfl) trivial (by kernel_rfl));refine cb 9 (.nop) rfl (by kernel_rfl) (sx dj (encV:=ak.w) (k:=((g:Int),(a:Int))) (l:=b.signatures) (zv:=.agg [.nils,qi 0,qi 0]) α underlying56 zeroValue97 (by kernel_rfl) rfl rfl rfl rfl) trivial rfl (by kernel_rfl) rfl rfl ?_;obtain⟨f,μ,h⟩:=h;refine qDC 10 μ [0,1,2,9,10] rfl ?_;exact qHX ⟨16,(CKr.z f [(5,.var 29 (am d))] 14)⟩<|qDe<|qJ G (h K _ _ G (by omega) (by omega)) [0,1,2,14,15];refine qDr [(1,0)] rfl rfl ?_;obtain⟨f,ν,h⟩:=h;refine qDC 10 ν [0,1,2,9,10] rfl ?_;exact qHX ⟨16,(CKr.z f [(5,.var 29 (am d))] 14)⟩<|qDe<|qJ G (h K _ _ G (by omega) (by omega)) [0,1,2,14,15];refine gR 10 rfl ?_;obtain⟨β,ξ,h⟩:=h;refine qC0 ξ rfl<|gR 2 rfl<|qXi 51 rfl rfl rfl h ?_ ?_<;>intro Z h;refine gR 3 rfl ?_;obtain⟨t,ο,h⟩:=h;refine qC ο [0,1,2,9,10] (hs:=(.cons .rfl (.cons .rfl (.cons (.nil 1) .nil)))) ?_;refine qHX ⟨16,(CKr.z t [(5,.var 29 (am d))] 14)⟩<|gR 5 rfl ?_;obtain⟨x,π,h⟩:=h;refine qC π [0,1,2,14,15] ?_;refine qHX ⟨21,(CKr.z x [(5,.var 29 (am d))] 19)⟩<|gR 4 rfl ?_;obtain⟨y,τ,h⟩:=h;refine qC τ [0,1,2,19,20] ?_;refine qHX ⟨26,(CKr.z y [(5,.var 29 (am d))] 24)⟩<|gR 4 rfl ?_;obtain⟨hb,h⟩:=h;exact gR 1 rfl<|gV 59 (qi ((a+1:Nat):Int)) rfl (al (by omega) (by omega)) rfl<|gR 2 rfl<|go_xloop<|qJ G (h K _ _ G (by omega) (by omega)) [0,1,2,24,25];refine gR 6 rfl ?_;obtain⟨n,υ,h⟩:=h;refine qC υ [0,1,2,9,10] ?_;refine qHX ⟨16,(CKr.z n [(5,.var 29 (am d))] 14)⟩<|gR 4 rfl ?_;obtain⟨q,φ,h⟩:=h;refine qC φ [0,1,2,14,15] ?_;refine qHX ⟨21,(CKr.z q [(5,.var 29 (am d))] 19)⟩<|gR 4 rfl ?_;obtain⟨hb,h⟩:=h;exact gR 1 rfl<|gV 59 (qi ((a+1:Nat):Int)) rfl (al (by omega) (by omega)) rfl<|gR 2 rfl<|go_xloop<|qJ G (h K _ _ G (by omega) (by omega)) [0,1,2,19,20];refine gR 3 rfl<|go_xloopE<|gR 4 rfl ?_;obtain⟨hb,h⟩:=h;exact gR 1 rfl<|gV 60 (qi ((s+1:Nat):Int)) rfl (al (by omega) (by omega)) rfl<|gR 2 rfl<|go_xloop<|qW G h [0,1,2,3,4]
theorem tw(m:Nat)(O:CKr)(c:Tree)(d:CKr)(e f b:Nat)(q0:CKr)(h:∃a,aU d a∧b+1≤9223372036854775807∧ch m O c a (b+1) e f q0):kh (m+1) O c d e f b q0:=by
 intro K G J U i k;obtain⟨G,rfl⟩:∃j,G=j+1:=⟨G-1,by omega⟩;obtain⟨J,rfl⟩:∃j,J=j+1:=⟨J-1,by omega⟩;refine gR 3 rfl ?_;obtain⟨a,g,h⟩:=h;refine qC g [0,1,2,3,4] ?_;refine qHX ⟨10,(CKr.y a 8)⟩<|gR 4 rfl ?_;obtain⟨hb,h⟩:=h;exact gR 1 rfl<|gV 59 (qi ((b+1:Nat):Int)) rfl (al (by omega) (by omega)) rfl<|gR 2 rfl<|go_xloop<|qJ U (h K _ _ U (by omega) (by omega)) [0,1,2,8,9]
mutual
def leafK:Tree→Tree
 |.node k s ls ks=>if k=8 then leafH (.node k s ls ks) ks else .node k s ls ks
def leafH(d:Tree):List Tree→Tree
 |[]=>d
 |t::_=>leafK t
end
mutual
def lisK:Tree→Nat
 |.node k s ls ks=>if k=8 then lisH ks+1 else 0
def lisH:List Tree→Nat
 |[]=>0
 |t::_=>lisK t
end
def bF:Nat→Tree→Tree
 |0,t=>t
 |n+1,t=>.node 8 [] [] [bF n t]
mutual
def bareK:Tree→Tree
 |.node k s _ ks=>.node k s [] (baresK ks)
def baresK:List Tree→List Tree
 |[]=>[]
 |t::r=>bareK t::baresK r
end
theorem oa{r:List Tree}(G:t.kind=8)(J:t.kids=u::r):leafK t=leafK u∧lisK t=lisK u+1:=by
 cases t;simp only[Tree.kind,Tree.kids]at G J;subst G J;constructor
 ·rw[leafK,if_pos rfl,leafH]
 ·rw[lisK,if_pos rfl,lisH]
theorem iQ(h:t.kind≠8):leafK t=t∧lisK t=0:=by
 cases t;simp only[Tree.kind]at h;constructor
 ·rw[leafK,if_neg h]
 ·rw[lisK,if_neg h]
theorem yi(t:Tree):bareK t=.node t.kind t.text [] (baresK t.kids):=by cases t;simp only[bareK];rfl
def tyK(t:Tree):Prop:=shapeK t=true∧fX t.kind=true
theorem kp(h:tyK t):(t.kind=8∧t.text=[]∧∃u,t.kids=[u]∧tyK u)∨(t.kind≠8∧t.kids=[]∧(t.kind≠9→t.text=[])):=by
 obtain⟨hs,hk⟩:=h;rw[bV]at hs;simp only[Bool.and_eq_true,decide_eq_true_eq]at hs;have hk':5≤t.kind∧t.kind≤9:=by simpa[fX]using hk
 by_cases O:t.kind=8
 ·refine .inl ⟨O,?_,?_⟩
  ·have :=hs.1.2;rw[O]at this;simpa[mR]using this
  ·have J:=hs.1.1;have e:se t.kind t.kids.length=f0 t.kids.length 1 2 0 1:=by rw[O];rfl
   rw[e]at J;have hn:t.kids.length=1:=by
    unfold f0 at J;split at J
    ·omega
    ·split at J
     ·omega
     ·omega
   obtain⟨u,U⟩:∃u,t.kids=[u]:=by
    match hkk:t.kids,hn with
    |[u],_=>exact⟨u,rfl⟩
   refine⟨u,U,?_⟩;have G:=hs.2;rw[U]at G;simp only[shapeKs,Bool.and_eq_true]at G;refine⟨G.1.2,?_⟩;have :=G.1.1;rw[O]at this;simpa[jL]using this
 ·refine .inr ⟨O,?_,λh9=>?_⟩
  ·have J:=hs.1.1;have e:se t.kind t.kids.length=f0 t.kids.length 0 1 0 0:=by
    have :t.kind=5∨t.kind=6∨t.kind=7∨t.kind=9:=by omega
    rcases this with e|e|e|e<;>rw[e]<;>rfl
   rw[e]at J;have :t.kids.length=0:=by
    unfold f0 at J;split at J
    ·omega
    ·omega
   exact List.length_eq_zero_iff.1 this
  ·have :t.kind=5∨t.kind=6∨t.kind=7:=by omega
   have Z:=hs.1.2;rcases this with e|e|e<;>(rw[e]at Z;simpa[mR]using Z)
theorem kw:∀t,tyK t→tyK (leafK t)∧(leafK t).kind≠8∧bareK t=bF (lisK t) (.node (leafK t).kind (leafK t).text [] []):=eY λt ih h=>by
 rcases kp h with⟨G,hx,u,J,O⟩|⟨G,hk,_⟩
 ·obtain⟨U,Z⟩:=oa G J;obtain⟨g1,g2,g3⟩:=ih 0 u (by rw[J];rfl) O;rw[U,Z];refine⟨g1,g2,?_⟩;rw[yi,G,hx,J,bF];simp only[baresK,g3]
 ·obtain⟨U,Z⟩:=iQ G;rw[U,Z];refine⟨h,G,?_⟩;rw[yi,hk,bF,baresK]
theorem jJ:∀t,tbulk (leafK t)≤tbulk t∧lisK t≤tbulk t:=eY λt ih=>by
 by_cases G:t.kind=8
 ·cases J:t.kids with
  |nil=>
   have hp:=vV t;cases t;simp only[Tree.kind,Tree.kids]at G J;subst G J;rw[leafK,if_pos rfl,leafH,lisK,if_pos rfl,lisH];exact⟨Nat.le_refl _,hp⟩
  |cons u r=>
   obtain⟨O,U⟩:=oa G J;have Z:t.kids[0]?=some u:=by rw[J];rfl
   obtain⟨g1,g2⟩:=ih 0 u Z;have :=ax Z;rw[O,U];omega
 ·obtain⟨O,U⟩:=iQ G;rw[O,U];exact⟨Nat.le_refl _,Nat.zero_le _⟩
variable{d:Nat}
theorem nQ(ht:t.kind=1)(hs:shapeK t=true)(J:t.kids[d]?=some u):(u.kind=2∧cC u.text=1)∨(u.kind=3∧cC u.text=2):=by
 rw[bV]at hs;simp only[Bool.and_eq_true]at hs;obtain⟨h1,h2⟩:=dx hs.2 J;rw[ht]at h1;simp[jL]at h1;rw[bV]at h2;simp only[Bool.and_eq_true]at h2;have G:=h2.1.2;rcases h1 with e|e
 ·rw[e]at G;simp[mR]at G;exact .inl ⟨e,by omega⟩
 ·rw[e]at G;simp[mR]at G;exact .inr ⟨e,by omega⟩
theorem Fa{w:List UInt8}(h:cC w=k)(G:k=3∨k=4):dh w 0=((spanN aZ w:Nat):Int):=by
 obtain⟨h1,h2,_⟩:=Ge h G;have :=Iu w 0 h1 h2;simpa using this
theorem oF(hp:aR p=true)(h9:u.kind=9)(hu:shapeK u=true)(h:(aT p m u.text).2.2=true):∃(i d:Nat) (t a b:Tree),(aT p m u.text).1=(i:Int)∧(aT p m u.text).2.1=(d:Int)∧p[i]?=some t∧t.kids[d]?=some a∧a.kind=3∧a.kids=[b]∧tyK b:=by
 have O:cC u.text=2∨cC u.text=4:=by
  rw[bV,h9]at hu;simp only[Bool.and_eq_true]at hu;have :=hu.1.2;simp only[mR]at this;simp at this;omega
 have fin:∀(i d:Nat) (t a:Tree),p[i]?=some t→t.kids[d]?=some a→¬a.kind=2→a.kind=3∧∃b,a.kids=[b]∧tyK b:=λi d t a ht ha hn=>by
  obtain⟨t1,J⟩:=dm hp ht;rcases nQ t1 J ha with⟨k2,_⟩|⟨k3,_⟩
  ·exact absurd k2 hn
  ·refine⟨k3,?_⟩;rw[bV]at J;simp only[Bool.and_eq_true]at J;obtain⟨_,g2⟩:=dx J.2 ha;rw[bV,k3]at g2;simp only[Bool.and_eq_true,decide_eq_true_eq]at g2;have hl:=g2.1.1;have e:se 3 a.kids.length=f0 a.kids.length 1 3 0 1:=rfl;rw[e]at hl;have hn:a.kids.length=1:=by
    unfold f0 at hl;split at hl
    ·omega
    ·split at hl
     ·omega
     ·omega
   match hkk:a.kids,hn with
   |[b],_=>
    have G:=g2.2;rw[hkk]at G;simp only[shapeKs,Bool.and_eq_true]at G;exact⟨b,rfl,G.1.2,by have :=G.1.1;simpa[jL]using this⟩
 unfold aT at h⊢;rcases O with O|O
 ·have hd:dh u.text 0=-1:=ya _ _ (AW O (.inr rfl)).1;rw[if_neg (by omega)]at h⊢;obtain⟨i,d,t,a,_,a1,a2,U,Z,a5,_⟩:=tZ h;obtain⟨t1,J⟩:=dm hp U;obtain⟨f1,b,f2,f3⟩:=fin i d t a U Z λk2=>by
   rcases nQ t1 J Z with⟨_,k⟩|⟨k,_⟩
   ·rw[a5,O]at k;cases k
   ·omega
  exact⟨i,d,t,a,b,a1,a2,U,Z,f1,f2,f3⟩
 ·have hd:=Fa O (.inr rfl);rw[if_pos (by omega)]at h⊢;obtain⟨i,d,t,a,_,a1,a2,U,Z,a5,_⟩:=tZ h;obtain⟨t1,J⟩:=dm hp U;obtain⟨f1,b,f2,f3⟩:=fin i d t a U Z λk2=>by
   rcases nQ t1 J Z with⟨_,k⟩|⟨k,_⟩
   ·have g:=(AW k (.inl rfl)).2.1 rfl;have g3:=(Ge O (.inr rfl)).2.2;rw[a5,hd,Int.toNat_natCast]at g;have e:(u.text.drop (spanN aZ u.text+1)).getD 0 0=u.text.getD (spanN aZ u.text+1) 0:=by
     simp[List.getD_eq_getElem?_getD,List.getElem?_drop]
    rw[e]at g;have :=g3.2 g;cases this
   ·omega
  exact⟨i,d,t,a,b,a1,a2,U,Z,f1,f2,f3⟩
def dD:Nat→Cx→Tree→Sv→Sv
 |0,_,_,s=>s
 |n+1,x,u,s=>if u.kind=9 then(if(s.tg.headD noT).Free then faP x 1 [] (bx s)else bx s)else if u.kind=8 then dD n (x.go ((0:Nat):Int)) (bz u 0) s else s
abbrev ckT(x:Cx)(s:Sv)(t:Tree)(i:Int)(s':Sv):Prop:=df (mkC x s) t i (mkC x s')
structure Sst (B u:Nat) (s s':Sv):Prop where
 tg:s'.tg=s.tg.drop u
 fa:s'.fa.length≤s.fa.length+4*B
theorem zh:∀(n:Nat) (u:Tree),tbulk u≤n→tyK u→∀(t:Tree) (i:Nat) (x:Cx) (s:Sv),t.kids[i]?=some u→x.pa.length+tbulk u+1≤100000000→s.fa.length+1≤900000000→uN u≤s.tg.length→ckT x s t i (dD n (x.go i) u s)∧Sst (tbulk u) (uN u) s (dD n (x.go i) u s)
 |0,u,hb,_,_,_,_,_,_,_,_,_=>by have :=bN u;omega
 | n +1,u,hb,hu,t,i,x,s,ht,h1,h2,h3=>by
  have hbu:=bp u;have hlen:x.pa.length+1≤1000000000:=by omega
  rcases kp hu with⟨h8,_,v,hv,hvt⟩|⟨h8,hk,_⟩
  ·rw[hv]at hbu;simp only[kbulk]at hbu;have hU:uN u=uN v:=by rw[fZ,hv,h8];simp[uNs]
   have hv0:u.kids[0]?=some v:=by rw[hv];rfl
   have e:dD (n+1) (x.go i) u s=dD n ((x.go i).go ((0:Nat):Int)) v s:=by simp[dD,h8,dl hv0]
   obtain⟨a1,a2⟩:=zh n v (by omega) hvt u 0 (x.go i) s hv0 (by simp[Cx.go];omega) h2 (by omega);rw[e];refine⟨hV 0 _ _ _ _ (⟨_,kz (x:=x) (s:=s) (i:Int) hlen,i,rfl,u,ht,λh=>absurd h (by omega),λ_=>⟨λ_=>⟨_,a1,_,jx (x:=x) (i:Int),rfl⟩,λh=>absurd h8 h⟩⟩),?_⟩;exact⟨by rw[a2.tg,hU],by have :=a2.fa;omega⟩
  ·by_cases h9:u.kind=9
   ·have hU:uN u=1:=by rw[fZ,hk,h9];simp[uNs]
    have huse:=Ks (x:=x.go i) (s:=s) (by omega);have e:dD (n+1) (x.go i) u s=if(s.tg.headD noT).Free then faP (x.go i) 1 [] (bx s)else bx s:=by simp[dD,h9]
    rw[e];by_cases hf:(s.tg.headD noT).Free=true
    ·rw[if_pos hf];refine⟨hV 0 _ _ _ _ (⟨_,kz (x:=x) (s:=s) (i:Int) hlen,i,rfl,u,ht,λ_=>⟨_,_,huse,λ_=>⟨_,eB (x:=x.go i) (s:=bx s) 1 [] (by simp[Cx.go];omega) (by simp[bx];omega),_,jx (x:=x) (s:=faP (x.go i) 1 [] (bx s)) (i:Int),rfl⟩,λh=>absurd hf (by rw[h];decide)⟩,λh=>absurd h9 h⟩),?_⟩;exact⟨by rw[hU];rfl,by rw[eJ];simp[bx];omega⟩
    ·rw[if_neg hf];refine⟨hV 0 _ _ _ _ (⟨_,kz (x:=x) (s:=s) (i:Int) hlen,i,rfl,u,ht,λ_=>⟨_,_,huse,λh=>absurd h hf,λ_=>⟨_,jx (x:=x) (s:=bx s) (i:Int),rfl⟩⟩,λh=>absurd h9 h⟩),?_⟩;exact⟨by rw[hU];rfl,by simp[bx]⟩
   ·have hU:uN u=0:=by rw[fZ,hk,if_neg];simp[uNs];have :=hu.2;simp[fX]at this;omega
    have e:dD (n+1) (x.go i) u s=s:=by simp[dD,h9,h8]
    rw[e];exact⟨hV 0 _ _ _ _ (⟨_,kz (x:=x) (s:=s) (i:Int) hlen,i,rfl,u,ht,λh=>absurd h h9,λ_=>⟨λh=>absurd h h8,λ_=>⟨_,jx (x:=x) (s:=s) (i:Int),rfl⟩⟩⟩),by rw[hU];rfl,by omega⟩
def iz(x:Cx):List Tree→Nat→Sv→Sv
 |[],_,s=>s
 |k::r,i,s=>iz x r (i+1) (dD (tbulk (bz k 0)) ((x.go i).go ((0:Nat):Int)) (bz k 0) s)
def cx:List Tree→List Kn→Env
 |k::r,q::l=>⟨k.text,q⟩::cx r l
 |_,_=>[]
def funQ(x:Cx)(i:Nat)(r:Kn):Kn×Sv→Sv
 |(k,s)=>if aS k r then faP x 4 [(i:Int)] s else s
def funS(x:Cx)(f:Tree)(g:ak)(s:Sv):Sv:=
 funQ x (f.kids.length-1) g.result (aA (bj (tbulk f)) x f (f.kids.length-1) (cx (f.kids.take (f.kids.length-2)) g.params) (dD (tbulk f) (x.go ((f.kids.length-2:Nat):Int)) (bz f (f.kids.length-2)) (iz x (f.kids.take (f.kids.length-2)) 0 s)))
abbrev ckU(x:Cx)(s:Sv)(f:Tree)(g:ak)(s':Sv):Prop:=fB (mkC x s) f g (mkC x s')
variable{f:Tree}
theorem mw(hs:shapeK f=true)(h2:f.kind=2):2≤f.kids.length∧(∀(i:Nat) (u:Tree),f.kids[i]?=some u→i+2<f.kids.length→∃v,u.kind=4∧u.kids=[v]∧tyK v)∧(∀u,f.kids[f.kids.length-2]?=some u→tyK u)∧(∀u,f.kids[f.kids.length-1]?=some u→exT u):=by
 rw[bV]at hs;simp only[Bool.and_eq_true,decide_eq_true_eq]at hs;have hl:=hs.1.1;rw[h2]at hl;have h1:=(pW (show 0≤f0 f.kids.length 2 6 2 (-1)from hl)).1;refine⟨by omega,λi u O hi=>?_,λu O=>?_,λu O=>?_⟩
 ·obtain⟨G,J⟩:=dx hs.2 O;rw[h2]at G;simp only[jL]at G;rw[if_neg (by omega),if_pos trivial,if_neg (by omega),if_neg (by omega)]at G;have Z:u.kind=4:=by simpa using G
  rw[bV]at J;simp only[Bool.and_eq_true,decide_eq_true_eq]at J;have U:=J.1.1;rw[Z]at U;have :=pW (show 0≤f0 u.kids.length 1 2 0 1 from U);obtain⟨v,ev⟩:=wA (t:=u) (by omega);have hv:u.kids[0]?=some v:=by rw[ev];rfl
  obtain⟨g3,g4⟩:=dx J.2 hv;rw[Z]at g3;exact⟨v,Z,ev,g4,by simpa[jL]using g3⟩
 ·obtain⟨G,J⟩:=dx hs.2 O;rw[h2]at G;simp only[jL]at G;rw[if_neg (by omega),if_pos trivial,if_neg (by omega),if_pos (by omega)]at G;exact⟨J,G⟩
 ·obtain⟨G,J⟩:=dx hs.2 O;rw[h2]at G;simp only[jL]at G;rw[if_neg (by omega),if_pos trivial,if_pos (by omega)]at G;exact⟨J,G⟩
theorem Hs{f:Tree}{g:ak}{x:Cx}{n:Nat}(hn:n≤f.kids.length)(hf:∀(i:Nat) (u:Tree),(f.kids.take n)[i]?=some u→∃v,u.kind=4∧u.kids=[v]∧tyK v)(hl:f.kids.length≤100000000):∀(k i:Nat) (s:Sv),k+i=n→x.pa.length+kbulk ((f.kids.take n).drop i)+2≤100000000→s.fa.length+4*kbulk ((f.kids.take n).drop i)+1≤900000000→uNs ((f.kids.take n).drop i)≤s.tg.length→
  Sst (kbulk ((f.kids.take n).drop i)) (uNs ((f.kids.take n).drop i)) s (iz x ((f.kids.take n).drop i) i s)∧∀(m:Nat) (s':Sv),(∀s1,s1=iz x ((f.kids.take n).drop i) i s→dg m f g n (mkC x s1) n (mkC x s'))→∃m',dg m' f g n (mkC x s) i (mkC x s')
 |0,i,s,hk,_,_,_=>by
  have hd:(f.kids.take n).drop i=[]:=List.drop_of_length_le (by simp;omega);have hi:i=n:=by omega
  subst hi;rw[hd];exact⟨⟨by simp[iz,uNs],by simp[iz]⟩,λm s' h=>⟨m,h _ rfl⟩⟩
 | k+1,i,s,hk,h1,h2,h3=>by
  have hlt:i<(f.kids.take n).length:=by simp;omega
  obtain⟨u,hu⟩:∃u,(f.kids.take n)[i]?=some u:=⟨_,List.getElem?_eq_getElem hlt⟩;obtain⟨v,hv4,hv,hvt⟩:=hf i u hu;have hd:=aJ hu;have hbu:=bp u;rw[hv]at hbu;rw[hd]at h1 h2 h3⊢;simp only[kbulk,uNs]at h1 h2 h3 hbu⊢;have hv0:u.kids[0]?=some v:=by rw[hv];rfl
  have hU:uN u=uN v:=by rw[fZ,hv,hv4];simp[uNs]
  obtain⟨a1,a2⟩:=zh (tbulk v) v (Nat.le_refl _) hvt u 0 (x.go i) s hv0 (by simp[Cx.go];omega) (by omega) (by omega);have e:iz x (u::(f.kids.take n).drop (i+1)) i s=iz x ((f.kids.take n).drop (i+1)) (i+1) (dD (tbulk v) ((x.go i).go ((0:Nat):Int)) v s):=by
   rw[iz,dl hv0]
  rw[e];generalize dD (tbulk v) ((x.go i).go ((0:Nat):Int)) v s=s1 at a1 a2;have q1:=a2.fa;have q2:=a2.tg;obtain⟨b1,b2⟩:=Hs (g:=g) (x:=x) hn hf hl k (i+1) s1 (by omega) (by omega) (by omega) (by rw[q2,List.length_drop];omega);refine⟨⟨by rw[b1.tg,q2,List.drop_drop,hU],by have :=b1.fa;omega⟩,λm s' h=>?_⟩;obtain⟨m',hm⟩:=b2 m s' h;exact⟨m'+1,kK m' _ _ _ _ _ _ (⟨λ_=>⟨u,hu,_,kz (x:=x) (s:=s) (i:Int) (by omega),_,a1,_,jx (x:=x) (s:=s1) (i:Int),by omega,hm⟩,λh=>absurd hlt h⟩)⟩
theorem KE{f:Tree}{g:ak}{x:Cx}{s s':Sv}{n:Nat}(U:n+2=f.kids.length)(Z:n≤g.params.length)(hl:f.kids.length≤100000000){m0:Nat}(fin:cu m0 f g (mkC x s) (cx (f.kids.take n) g.params) (-1) (mkC x s')):∀k,k≤n→cu (m0+k) f g (mkC x s) (cx ((f.kids.take n).drop k) (g.params.drop k)) ((k:Int)-1) (mkC x s')
 |0,_=>by simpa using fin
 |k+1,hk=>by
  have ih:=KE U Z hl fin k (by omega);obtain⟨u,J⟩:∃u,f.kids[k]?=some u:=⟨_,List.getElem?_eq_getElem (by omega)⟩;obtain⟨q,O⟩:∃q,g.params[k]?=some q:=⟨_,List.getElem?_eq_getElem (by omega)⟩;have G:(f.kids.take n)[k]?=some u:=by rw[List.getElem?_take,if_pos (by omega)];exact J
  rw[aJ G,aJ O]at ih;have e:(((k+1:Nat):Int)-1)=(k:Int):=by omega
  rw[e];exact kG (m0+k) _ _ _ _ _ _ (⟨λ_=>⟨k,rfl,u,J,k,rfl,q,O,⟨by omega,by omega⟩,ih⟩,λh=>absurd (by omega) h⟩)
theorem Fx{g:ak}(hs:shapeK f=true)(h2:f.kind=2)(hg:f.kids.length=g.params.length+2)(hp:x.pa.length+tbulk f+2≤100000000)(hf:s.fa.length+4*tbulk f+1≤900000000)(ht:uN f≤s.tg.length)(hL:L+tbulk f≤900000000)(hgp:∀q∈g.params,KOk L q)(hsg:∀k q,aC k x.sg=some q→KOk L q.result):
  ckU x s f g (funS x f g s)∧Sst (tbulk f) (uN f) s (funS x f g s):=by
 obtain⟨s1,s2,s3,s4⟩:=mw hs h2;have hkl:=bN f;have hB:=bp f;obtain⟨n,hn⟩:∃n,n+2=f.kids.length:=⟨f.kids.length-2,by omega⟩;obtain⟨r,hr⟩:∃r,f.kids[n]?=some r:=⟨_,List.getElem?_eq_getElem (by omega)⟩;obtain⟨b,hb⟩:∃b,f.kids[n+1]?=some b:=⟨_,List.getElem?_eq_getElem (by omega)⟩;have hrt:=s3 r (by rw[show f.kids.length-2=n by omega];exact hr);have hbx:=s4 b (by rw[show f.kids.length-1=n+1 by omega];exact hb);have hsplit:f.kids=f.kids.take n++[r,b]:=by
  have e1:f.kids.drop n=[r,b]:=by
   rw[aJ hr,aJ hb,List.drop_of_length_le (by omega)]
  rw[←e1,List.take_append_drop]
 have hKB:kbulk f.kids=kbulk (f.kids.take n)+tbulk r+tbulk b:=by
  have :∀a c:List Tree,kbulk (a++c)=kbulk a+kbulk c:=λa c=>by induction a with
   |nil=>simp[kbulk]
   |cons y l ih=>simp only[List.cons_append,kbulk,ih];omega
  conv=>lhs;rw[hsplit,this]
  simp[kbulk];omega
 have hUU:uN f=uNs (f.kids.take n)+uN r+uN b:=by
  have :∀a c:List Tree,uNs (a++c)=uNs a+uNs c:=λa c=>by induction a with
   |nil=>simp[uNs]
   |cons y l ih=>simp only[List.cons_append,uNs,ih];omega
  rw[fZ,h2]
  conv=>lhs;rw[hsplit,this]
  simp[uNs];omega
 have hpar:∀(i:Nat) (u:Tree),(f.kids.take n)[i]?=some u→∃v,u.kind=4∧u.kids=[v]∧tyK v:=λi u hu=>by
  rw[List.getElem?_take]at hu;split at hu
  ·exact s2 i u hu (by omega)
  ·cases hu
 obtain⟨A1,A2⟩:=Hs (f:=f) (g:=g) (x:=x) (n:=n) (by omega) hpar (by omega) n 0 s (by omega) (by simp;omega) (by simp;omega) (by simp;omega);simp only[List.drop_zero]at A1 A2;obtain⟨sA,hsA⟩:∃sA,sA=iz x (f.kids.take n) 0 s:=⟨_,rfl⟩;rw[←hsA]at A1;have qA:=A1.fa;have qT:=A1.tg;obtain⟨B1,B2⟩:=zh (tbulk f) r (by omega) hrt f n x sA hr (by omega) (by omega) (by rw[qT,List.length_drop];omega);obtain⟨sB,hsB⟩:∃sB,sB=dD (tbulk f) (x.go (n:Int)) r sA:=⟨_,rfl⟩;rw[←hsB]at B1 B2;have rA:=B2.fa;have rT:=B2.tg;obtain⟨C1,C2⟩:=da (si (tbulk f)) (x:=x) (env:=cx (f.kids.take n) g.params) (s:=sB) (L:=L) hb (by omega) hbx ⟨by omega,by omega,by rw[rT,qT,List.drop_drop,List.length_drop];omega,by omega,λc hc=>by
  have :∀(ks:List Tree) (ps:List Kn),(∀q∈ps,KOk L q)→∀c∈cx ks ps,KOk L c.typ:=λks=>by
   induction ks with
   |nil=>intro ps _ c hc;simp[cx]at hc
   | cons k r ih=>
    intro ps hps c hc;cases ps with
    |nil=>simp[cx]at hc
    |cons q l=>
     simp only[cx,List.mem_cons]at hc;rcases hc with rfl|hc
     ·exact hps q List.mem_cons_self
     ·exact ih l (λq hq=>hps q (List.mem_cons_of_mem _ hq)) c hc
  exact this _ _ hgp c hc,hsg⟩
 have e0:funS x f g s=funQ x (n+1) g.result (aA (bj (tbulk f)) x f (n+1) (cx (f.kids.take n) g.params) sB):=by
  unfold funS;rw[show f.kids.length-1=n+1 by omega,show f.kids.length-2=n by omega,dl hr,←hsA,←hsB]
 rw[e0];generalize aA (bj (tbulk f)) x f (n+1) (cx (f.kids.take n) g.params) sB=w at C1 C2⊢;obtain⟨k,sC⟩:=w;have cA:=C2.fa;have cT:=C2.tg;simp only at cA cT;have ei:(((f.kids.length:Nat):Int)-2+1)=((n+1:Nat):Int):=by omega
 have fin:∀s',s'=funQ x (n+1) g.result (k,sC)→cu 1 f g (mkC x sB) (cx (f.kids.take n) g.params) (-1) (mkC x s'):=λs' hs'=>by
  refine kG 0 _ _ _ _ _ _ (⟨λh=>absurd h (by omega),λ_=>⟨⟨by omega,by omega⟩,_,_,by rw[ei];exact C1,_,jO k g.result,λh=>⟨⟨by omega,by omega⟩,?_⟩,λh=>?_⟩⟩)
  ·have :s'=faP x 4 [((n+1:Nat):Int)] sC:=by rw[hs'];unfold funQ;simp only[if_pos h]
   subst this;exact⟨_,by rw[ei];exact eB (x:=x) (s:=sC) 4 [((n+1:Nat):Int)] (by simp;omega) (by omega),rfl⟩
  ·have :s'=sC:=by rw[hs'];unfold funQ;simp only[h];simp
   subst this;exact rfl
 have st:Sst (tbulk f) (uN f) s (funQ x (n+1) g.result (k,sC)):=by
  have :(funQ x (n+1) g.result (k,sC)).tg=sC.tg∧(funQ x (n+1) g.result (k,sC)).fa.length≤sC.fa.length+1:=by
   unfold funQ;simp only[];split
   ·exact⟨rfl,by rw[eJ];omega⟩
   ·exact⟨rfl,by omega⟩
  exact⟨by rw[this.1,cT,rT,qT,List.drop_drop,List.drop_drop,hUU,Nat.add_assoc],by have :=this.2;omega⟩
 refine⟨?_,st⟩;obtain⟨m',hm⟩:=A2 (1+n+1) (funQ x (n+1) g.result (k,sC)) λs1 hs1=>by
  rw[←hsA]at hs1;subst hs1;refine kK (1+n) _ _ _ _ _ _ (⟨λh=>absurd h (by rw[List.length_take];omega),λ_=>⟨_,by rw[show((f.kids.length:Nat):Int)-2=(n:Int) by omega];exact B1,⟨by omega,by omega⟩,?_⟩⟩);have :=KE (x:=x) (s:=sB) (g:=g) hn (by omega) (by omega) (fin _ rfl) n (Nat.le_refl _);rw[List.drop_of_length_le (by simp;omega)]at this;rw[show((f.kids.length:Nat):Int)-2-1=(n:Int)-1 by omega];simpa[cx]using this
 exact qE m' _ _ _ _ (⟨n,by omega,by omega,hm⟩)
def tR(G J:Tree):Prop:=qS 51 [.agg (am G)] (.agg (am J))
def mv(G:Tree)(p1:List Int)(J:Tree)(O:Bool):Prop:=qS 23 [.agg (am G),.row 1 (List.map (V.int .i64) p1)] (.tup [.agg (am J),.bool O])
theorem Fu(m:Nat)(O:Tree)(p1:List Int)(G:Tree)(J:Bool)(h:∃c b,tI O p1 c b∧((b=false)→(Tree.node 0 [] [] [])=G∧false=J)∧((b=true)→∃a,tR c a∧a=G∧true=J)):mv O p1 G J:=by
 refine⟨rfl,rfl,?_⟩;refine qA 19 [] func23 λK U=>?_;refine gR 3 rfl<|gFP 0 rfl rfl rfl rfl<|gR 8 rfl ?_;obtain⟨c,b,d,h⟩:=h;refine qC0 d rfl<|gR 15 rfl<|qBh 15 rfl rfl rfl h bt br ?_ ?_<;>intro h;refine gR 10 rfl ?_;obtain⟨rfl,rfl⟩:=h;exact go_sub (F':=(mkF 19 0 [(4,.ptr 0 0),(5,.bool false)])) (H':=⟨1,[(0,vC ((Tree.node 0 [] [] []).kind) ((Tree.node 0 [] [] []).text) ((Tree.node 0 [] [] []).leads) ((Tree.node 0 [] [] []).kids))]⟩) [1] [] rfl U pq2 ⟨⟨_,rfl,rfl,(.cons .rfl (.cons .rfl (.cons (.nil 1) (.cons (.nil 4) .nil))))⟩,trivial⟩ rfl<|qN [.cell 4 29,.tmp 5];refine gR 6 rfl ?_;obtain⟨a,e,h⟩:=h;refine qC0 e rfl<|gR 5 rfl ?_;obtain⟨rfl,rfl⟩:=h;exact go_sub (F':=(mkF 19 0 [(4,.ptr 0 0),(5,.bool true)])) (H':=⟨1,[(0,vC a.kind a.text a.leads a.kids)]⟩) [1] [] rfl U pq2 (pqo1 rfl rfl) rfl<|qN [.cell 4 29,.tmp 5]
def fR(J:List Tree)(O:List ac):Prop:=bC [] prog 14 [.row 4 (kidsV J)] ⟨0,[]⟩ (λu G=>u=.sl 0∧G=⟨1,[(0,.row 47 3 (List.map ac.w O))]⟩)
def iN(G:List Tree)(p1:bw)(J:Tree)(O:Int):Prop:=qS 10 [.row 4 (kidsV G),.agg (bw.c p1)] (.tup [.agg (am J),qi O])
theorem rM(m:Nat)(G:List Tree)(J:List ac)(h:∃c,li G c∧((c=false)→([]:List ac)=J)∧((c=true)→∃b,jn G b∧∃a,iB b a∧∃d,ec a.faults d∧d=J)):fR G J:=by
 refine qA 20 [] func14 λK O=>?_;refine gR 9 rfl ?_;obtain⟨c,e,h⟩:=h;refine qC0 e rfl<|gR 3 rfl<|qBh 6 rfl rfl rfl h bt br ?_ ?_<;>intro h;refine gR 8 rfl<|gNS 2 47 3 rfl rfl rfl rfl ?_;subst h;exact gE O [] [(2,.sl 0)] [0] [.tmp 2];refine gR 6 rfl ?_;obtain⟨b,f,h⟩:=h;refine qC f [] ?_;refine qHX ⟨5,(CKr.y b 3)⟩<|gR 6 rfl ?_;obtain⟨a,g,h⟩:=h;refine qC g [0,1,2,3,4] ?_;refine qHX ⟨10,(CKr.y a 8)⟩<|gR 8 rfl ?_;obtain⟨d,i,h⟩:=h;refine qC i [9] ?_;refine qHX ⟨11,[(9,.row 47 3 (List.map ac.w d)),(8,CKr.path_o a),(2,CKr.signatures_o a),(1,CKr.names_o a),(0,CKr.o a 1 2 8 9)]⟩<|gR 12 rfl ?_;subst h;exact gE O [] [(2,.sl 0)] [9] [.tmp 2]
def vL(m:Nat)(G:List Tree)(p1:bw)(a:Tree)(b:Bool)(J:Tree)(O:Int):Prop:=∀(K:Ctx),az K []→Go prog K (bodyPost prog f10 (SP K (λu _=>u=.tup [.agg (am J),qi O]))) (.ex .normal) [.seq (xE (ai f10))] 88 (mkF 88 0 [(0,.row 4 (kidsV G)),(3,.box (bw.c p1) 0),(4,.ptr 0 0),(6,.ptr 1 0),(7,.bool b)]) ⟨2,[(1,.var 29 (am a)),(0,vE 0 [])]⟩
def oP(m:Nat)(a:CKr)(b:Int)(c:List Tree)(d:Nat)(J:Tree)(O:Int):Prop:=∀(K:Ctx) (G:Nat),az K []→m≤G→qLG K f10 (λu _=>u=.tup [.agg (am J),qi O]) (xD (xF (xA (xE (ai f10))))) [.loop (xD (xF (xA (xE (ai f10))))) G,.blk 0,.seq (xF (xF (xA (ai f10))))] 88 (mkF 88 0 [(4,.ptr 0 0),(9,.ptr 1 0),(80,qi a.result_lists),(81,qi (d:Int))]) ⟨3,[(2,.row 29 4 (kidsV c)),(1,.var 29 [qi b,.str [],.nils,.sl 2]),(0,vE 0 [])]⟩
theorem jc(m:Nat)(G:List Tree)(p1:bw)(O:Tree)(U:Int)(h:∃a,li G a∧((a=false)→(Tree.node 0 [] [] [])=O∧5=U)∧((a=true)→((p1.Module<0)→(Tree.node 0 [] [] [])=O∧5=U)∧((¬p1.Module<0)→(((G.length:Int)≤p1.Module)→(Tree.node 0 [] [] [])=O∧5=U)∧((¬(G.length:Int)≤p1.Module)→∃b,p1.Module=((b:Nat):Int)∧∃c,G[b]?=some c∧∃d e,mv c p1.Path d e∧vL m G p1 d e O U)))):iN G p1 O U:=by
 refine⟨rfl,rfl,?_⟩;refine qA 88 [] func10 λK J=>?_;refine gR 3 rfl<|gFP 0 rfl rfl rfl rfl<|gR 8 rfl ?_;obtain⟨a,l,h⟩:=h;refine qC0 l rfl<|gR 2 rfl<|qBhZ 13 12 rfl rfl rfl rfl h bt br ?_ ?_<;>intro h;refine gR 23 rfl ?_;obtain⟨rfl,rfl⟩:=h;exact go_sub (F':=(mkF 88 0 [(4,.ptr 0 0),(5,qi 5)])) (H':=⟨1,[(0,vC ((Tree.node 0 [] [] []).kind) ((Tree.node 0 [] [] []).text) ((Tree.node 0 [] [] []).leads) ((Tree.node 0 [] [] []).kids))]⟩) [1] [] rfl J pq2 ⟨⟨_,rfl,rfl,(.cons .rfl (.cons .rfl (.cons (.nil 1) (.cons (.nil 4) .nil))))⟩,trivial⟩ rfl<|qN [.cell 4 29,.tmp 5];refine gR 5 rfl<|qBdZ 18 17 rfl rfl rfl rfl h ?_ ?_<;>intro h;refine gR 18 rfl ?_;obtain⟨rfl,rfl⟩:=h;exact go_sub (F':=(mkF 88 0 [(4,.ptr 0 0),(5,qi 5)])) (H':=⟨1,[(0,vC ((Tree.node 0 [] [] []).kind) ((Tree.node 0 [] [] []).text) ((Tree.node 0 [] [] []).leads) ((Tree.node 0 [] [] []).kids))]⟩) [1] [] rfl J pq2 ⟨⟨_,rfl,rfl,(.cons .rfl (.cons .rfl (.cons (.nil 1) (.cons (.nil 4) .nil))))⟩,trivial⟩ rfl<|qN [.cell 4 29,.tmp 5];refine gR 4 rfl<|gV 22 (qi (G.length:Int)) rfl (aI (aD _)) rfl<|gLB 21 rfl (aD _) λn=>gR 4 rfl<|qBd 24 rfl rfl rfl h ?_ ?_<;>intro h;refine gR 10 rfl ?_;obtain⟨rfl,rfl⟩:=h;exact go_sub (F':=(mkF 88 0 [(4,.ptr 0 0),(5,qi 5)])) (H':=⟨1,[(0,vC ((Tree.node 0 [] [] []).kind) ((Tree.node 0 [] [] []).text) ((Tree.node 0 [] [] []).leads) ((Tree.node 0 [] [] []).kids))]⟩) [1] [] rfl J pq2 ⟨⟨_,rfl,rfl,(.cons .rfl (.cons .rfl (.cons (.nil 1) (.cons (.nil 4) .nil))))⟩,trivial⟩ rfl<|qN [.cell 4 29,.tmp 5];refine gR 4 rfl<|qDs [] 12 14<|qDr (qR 0 3 2 []) rfl rfl ?_;obtain⟨b,k,h⟩:=h;refine gV 29 (qi ((b:Nat):Int)) rfl (aK k) rfl ?_;obtain⟨c,f,h⟩:=h;refine gYd 3 rfl (by kernel_rfl) (aG (aq f) ah rfl rfl rfl rfl) rfl rfl<|qDr (qR 4 3 2 []) rfl rfl ?_;obtain⟨d,e,g,h⟩:=h;apply bH (i:=7) (j:=11) (by kernel_rfl) rfl rfl rfl rfl;exact(cg (L':=[]) (by kernel_rfl) rfl rfl (pS g .rfl [] rfl) (.inl rfl));exact(bg ah rfl rfl);exact qDr (qR 8 3 2 [(11,0),(12,1),(13,1)]) rfl rfl<|qDe<|qJ J (h K J) [1,2];refine eU 7 g (by kernel_rfl) rfl (by kernel_rfl) rfl rfl .rfl rfl rfl ?_;exact qDr [(8,0),(9,2),(10,2),(12,1),(13,1)] rfl rfl<|qDe<|qJ J (h K J) [1,2]
theorem nH(m:Nat)(p0:List Tree)(p1:bw)(b:Tree)(d:Bool)(r0:Tree)(r1:Int)(h:((d=false)→(Tree.node 0 [] [] [])=r0∧5=r1)∧((d=true)→((b.kind<10)→(Tree.node 0 [] [] [])=r0∧5=r1)∧((¬b.kind<10)→((22<b.kind)→(Tree.node 0 [] [] [])=r0∧5=r1)∧((¬22<b.kind)→((b.kind=17)→(Tree.node 0 [] [] [])=r0∧5=r1)∧((b.kind≠17)→∃c,jn p0 c∧∃a,iB ({c with wanted_Module:=p1.Module,wanted_Path:=p1.Path}) a∧((a.result_simple=0)→(Tree.node 0 [] [] [])=r0∧20=r1)∧((a.result_simple≠0)→oP m a a.result_simple ([]:List Tree) 0 r0 r1)))))):vL (m+1) p0 p1 b d r0 r1:=by
 intro K hK;refine gR 7 rfl<|qXhZ 39 38 rfl rfl rfl rfl h bt br ?_ ?_<;>intro hd h;refine gR 26 rfl ?_;obtain⟨rfl,rfl⟩:=h;exact go_sub (F':=(mkF 88 0 [(4,.ptr 0 0),(5,qi 5)])) (H':=⟨1,[(0,vC ((Tree.node 0 [] [] []).kind) ((Tree.node 0 [] [] []).text) ((Tree.node 0 [] [] []).leads) ((Tree.node 0 [] [] []).kids))]⟩) [0] [] rfl hK pq2 ⟨⟨_,rfl,rfl,(.cons .rfl (.cons .rfl (.cons (.nil 1) (.cons (.nil 4) .nil))))⟩,trivial⟩ rfl<|qN [.cell 4 29,.tmp 5];refine gR 5 rfl<|qXdZ 44 43 rfl rfl rfl rfl h ?_ ?_<;>intro hd h;refine gR 21 rfl ?_;obtain⟨rfl,rfl⟩:=h;exact go_sub (F':=(mkF 88 0 [(4,.ptr 0 0),(5,qi 5)])) (H':=⟨1,[(0,vC ((Tree.node 0 [] [] []).kind) ((Tree.node 0 [] [] []).text) ((Tree.node 0 [] [] []).leads) ((Tree.node 0 [] [] []).kids))]⟩) [0] [] rfl hK pq2 ⟨⟨_,rfl,rfl,(.cons .rfl (.cons .rfl (.cons (.nil 1) (.cons (.nil 4) .nil))))⟩,trivial⟩ rfl<|qN [.cell 4 29,.tmp 5];refine gR 5 rfl<|qXdZ 49 48 rfl rfl rfl rfl h ?_ ?_<;>intro hd h;refine gR 16 rfl ?_;obtain⟨rfl,rfl⟩:=h;exact go_sub (F':=(mkF 88 0 [(4,.ptr 0 0),(5,qi 5)])) (H':=⟨1,[(0,vC ((Tree.node 0 [] [] []).kind) ((Tree.node 0 [] [] []).text) ((Tree.node 0 [] [] []).leads) ((Tree.node 0 [] [] []).kids))]⟩) [0] [] rfl hK pq2 ⟨⟨_,rfl,rfl,(.cons .rfl (.cons .rfl (.cons (.nil 1) (.cons (.nil 4) .nil))))⟩,trivial⟩ rfl<|qN [.cell 4 29,.tmp 5];refine gR 6 rfl<|qXe 53 rfl rfl rfl h ?_ ?_<;>intro hd h;refine gR 10 rfl ?_;obtain⟨rfl,rfl⟩:=h;exact go_sub (F':=(mkF 88 0 [(4,.ptr 0 0),(5,qi 5)])) (H':=⟨1,[(0,vC ((Tree.node 0 [] [] []).kind) ((Tree.node 0 [] [] []).text) ((Tree.node 0 [] [] []).leads) ((Tree.node 0 [] [] []).kids))]⟩) [0] [] rfl hK pq2 ⟨⟨_,rfl,rfl,(.cons .rfl (.cons .rfl (.cons (.nil 1) (.cons (.nil 4) .nil))))⟩,trivial⟩ rfl<|qN [.cell 4 29,.tmp 5];refine gR 6 rfl ?_;obtain⟨c,e,h⟩:=h;refine qC e [] ?_;refine qHX ⟨7,[(6,CKr.faults_o c),(5,CKr.path_o c),(4,CKr.signatures_o c),(3,CKr.names_o c),(2,CKr.o c 3 4 5 6),(1,.var 29 (am b)),(0,vE 0 [])]⟩<|gR 15 rfl ?_;obtain⟨a,f,h⟩:=h;refine qC f [2,3,4,5,6] ?_;refine qHX ⟨12,[(11,CKr.faults_o a),(10,CKr.path_o a),(4,CKr.signatures_o a),(3,CKr.names_o a),(2,CKr.o a 3 4 10 11),(1,.var 29 (am b)),(0,vE 0 [])]⟩<|gR 13 rfl<|qXe 68 rfl rfl rfl h ?_ ?_<;>intro hd h;refine gR 10 rfl ?_;obtain⟨rfl,rfl⟩:=h;exact go_sub (F':=(mkF 88 0 [(4,.ptr 0 0),(5,qi 20)])) (H':=⟨1,[(0,vC ((Tree.node 0 [] [] []).kind) ((Tree.node 0 [] [] []).text) ((Tree.node 0 [] [] []).leads) ((Tree.node 0 [] [] []).kids))]⟩) [0] [] rfl hK pq2 ⟨⟨_,rfl,rfl,(.cons .rfl (.cons .rfl (.cons (.nil 1) (.cons (.nil 4) .nil))))⟩,trivial⟩ rfl<|qN [.cell 4 29,.tmp 5];exact gR 15 rfl<|go_sub (F':=(mkF 88 0 [(4,.ptr 0 0),(8,.ptr 1 0),(9,.ptr 2 0)])) (H':=⟨7,[(6,CKr.faults_o a),(5,CKr.path_o a),(4,CKr.signatures_o a),(3,CKr.names_o a),(2,vE a.result_simple []),(1,CKr.o a 3 4 5 6),(0,vE 0 [])]⟩) [0,2,12,3,4,10,11] [] rfl hK pq3 ⟨⟨_,rfl,rfl,rfl,(vG _ a.faults).symm⟩,⟨_,rfl,rfl,rfl,(vF _ a.path).symm⟩,⟨_,rfl,rfl,rfl,rfl,rfl⟩,⟨_,rfl,rfl,rfl,rfl,rfl⟩,(pqo3 rfl rfl rfl rfl rfl rfl)⟩ rfl<|gR 12 rfl<|go_loop m<|gNC 2 3 29 4 rfl rfl rfl rfl<|qW hK h [0,2,7]
theorem vh(m:Nat)(d:CKr)(a:Int)(b:List Tree)(c:Nat)(G:Tree)(J:Int)(h:(((c:Int)<d.result_lists)→c+1≤9223372036854775807∧oP m d 8 [(Tree.node a [] [] b)] (c+1) G J)∧((¬(c:Int)<d.result_lists)→(Tree.node a [] [] b)=G∧0=J)):oP (m+1) d a b c G J:=by
 refine qj λK U O e=>?_;refine gR 6 rfl<|qXd 82 rfl rfl rfl h ?_ ?_<;>intro Z h;refine gR 7 rfl<|gFR 2 rfl (qZ _) rfl rfl<|gS 83 (.agg [qi a,.str [],.row 1 [],.row 4 (kidsV b)]) rfl (.agg (.cons .rfl (.cons .rfl (.cons (.nil 1) (.cons .rfl .nil))))) rfl<|gR 1 rfl<|gHR 3 (kidsV [(Tree.node a [] [] b)]) rfl (xS (Tree.node a [] [] b)) rfl<|gR 6 rfl ?_;obtain⟨hb,h⟩:=h;exact gR 1 rfl<|gV 86 (qi ((c+1:Nat):Int)) rfl (al (by omega) (by omega)) rfl<|gR 2 rfl<|go_xloop<|qW O h [0,1,3];refine gR 3 rfl<|go_xloopE<|gR 10 rfl<|gFR 2 rfl (qZ _) rfl rfl ?_;obtain⟨rfl,rfl⟩:=h;exact go_sub (F':=(mkF 88 0 [(4,.ptr 0 0),(5,qi 0)])) (H':=⟨1,[(0,vC ((Tree.node a [] [] b).kind) ((Tree.node a [] [] b).text) ((Tree.node a [] [] b).leads) ((Tree.node a [] [] b).kids))]⟩) [0] [] rfl O pq2 ⟨⟨_,rfl,rfl,(.cons .rfl (.cons .rfl (.cons (.nil 1) (.cons .rfl .nil))))⟩,trivial⟩ rfl<|qN [.cell 4 29,.tmp 5]
def pQ:Tree:=.node 0 [] [] []
def oU(p:List Tree)(i d:Int):Tree:=match p[i.toNat]? with
 |none=>pQ
 |some t=>match t.kids[d.toNat]? with
  |none=>pQ
  |some a=>match a.kids with
   |[]=>pQ
   |b::_=>b
def dC(p:List Tree):Nat→List (Int×Int)→Nat→Int→Tree→Tree×Int
 |0,_,_,_,_=>(pQ,0)
 | f+1,seen,n,m,u=>
  if u.kind=9 then
   if(aT p m u.text).2.2=false then(pQ,7)
   else if((aT p m u.text).1,(aT p m u.text).2.1)∈seen then(pQ,19)
   else dC p f (((aT p m u.text).1,(aT p m u.text).2.1)::seen) (n+lisK (oU p (aT p m u.text).1 (aT p m u.text).2.1)) (aT p m u.text).1 (leafK (oU p (aT p m u.text).1 (aT p m u.text).2.1))
  else(bF n (.node u.kind [] [] []),0)
theorem Ac{α:Type}[BEq α][LawfulBEq α]:∀(l m:List α),l.Nodup→(∀x∈l,x∈m)→l.length≤m.length
 |[],m,_,_=>Nat.zero_le _
 | x::l,m,hn,hs=>by
  obtain⟨h1,h2⟩:=List.nodup_cons.1 hn;have hx:x∈m:=hs x (by simp);have ih:=Ac l (m.erase x) h2 λy hy=>by
   have hne:y≠x:=λe=>h1 (e▸hy);exact(List.mem_erase_of_ne hne).2 (hs y (by simp[hy]))
  rw[List.length_erase_of_mem hx]at ih;have :=List.length_pos_of_mem hx;simp only[List.length_cons];omega
def vy(i:Nat)(l:List Tree):List (Int×Int):=(List.range l.length).map λ(d:Nat)=>((i:Int),(d:Int))
def rm:Nat→List Tree→List (Int×Int)
 |_,[]=>[]
 |i,t::r=>vy i t.kids++rm (i+1) r
theorem Aa:∀(i:Nat) (p:List Tree),(rm i p).length≤kbulk p
 |_,[]=>Nat.le_refl _
 |i,t::r=>by
  have :=Aa (i+1) r;have :=bN t;simp only[rm,List.length_append,vy,List.length_map,List.length_range,kbulk];omega
theorem Ab:∀{j:Nat} {p:List Tree} {i d:Nat} {t a:Tree},p[i]?=some t→t.kids[d]?=some a→(((j+i:Nat):Int),(d:Int))∈rm j p
 |j,[],i,d,t,a,h,_=>by simp at h
 |j,u::r,0,d,t,a,h,G=>by
  simp only[List.getElem?_cons_zero,Option.some.injEq]at h;subst h;have :=(List.getElem?_eq_some_iff.1 G).1;simp only[rm,List.mem_append,vy,List.mem_map,List.mem_range];exact .inl ⟨d,this,rfl⟩
 |j,u::r,i+1,d,t,a,h,G=>by
  have :=Ab (j:=j+1) (p:=r) (i:=i) (by simpa using h) G;simp only[rm,List.mem_append];rw[show j+(i+1)=j+1+i by omega];exact .inr this
theorem pu{a b:Tree}(h1:p[i]?=some t)(h2:t.kids[d]?=some a)(G:a.kids=[b]):oU p i d=b:=by
 unfold oU;rw[Int.toNat_natCast,h1];simp only[Int.toNat_natCast,h2,G]
def mx(p:List Tree)(l:List (Int×Int)):Prop:=l.Nodup∧∀x∈l,x∈rm 0 p
theorem mq{l:List (Int×Int)}(h:mx p l):l.length≤kbulk p:=Nat.le_trans (Ac _ _ h.1 h.2) (Aa 0 p)
theorem Eo{p:List Tree}{M:Int}:∀{a:List (List Int×Tree)} {x:ar},x∈aO p M a↔∃q u,(q,u)∈a∧cP u=true∧x=tgK p M q u
 |[],x=>by simp[aO]
 | (q,u)::r,x=>by
  have ih:=Eo (p:=p) (M:=M) (a:=r) (x:=x);simp only[aO,List.mem_append,ih];constructor
  ·rintro(h|⟨q',u',h1,h2,h3⟩)
   ·split at h
    ·rename_i hu;rw[List.mem_singleton]at h;exact⟨q,u,by simp,hu,h⟩
    ·cases h
   ·exact⟨q',u',by simp[h1],h2,h3⟩
  ·rintro⟨q',u',h1,h2,h3⟩;rcases List.mem_cons.1 h1 with h1|h1
   ·cases h1;exact .inl (by rw[if_pos h2];simp[h3])
   ·exact .inr ⟨q',u',h1,h2,h3⟩
theorem yw{p:List Tree}:∀{i:Nat} {l:List Tree} {x:ar},x∈eP p i l↔∃j t q u,l[j]?=some t∧(q,u)∈nodK t []∧cP u=true∧x=tgK p ((i+j:Nat):Int) q u
 |i,[],x=>by simp[eP]
 | i,t::r,x=>by
  have ih:=yw (p:=p) (i:=i+1) (l:=r) (x:=x);simp only[eP,List.mem_append,ih,Eo];constructor
  ·rintro(⟨q,u,h1,h2,h3⟩|⟨j,t',q,u,h0,h1,h2,h3⟩)
   ·exact⟨0,t,q,u,rfl,h1,h2,h3⟩
   ·exact⟨j+1,t',q,u,by simpa using h0,h1,h2,by rw[h3];congr 2;omega⟩
  ·rintro⟨j,t',q,u,h0,h1,h2,h3⟩;cases j with
   |zero=>simp at h0;subst h0;exact .inl ⟨q,u,h1,h2,h3⟩
   |succ j=>exact .inr ⟨j,t',q,u,by simpa using h0,h1,h2,by rw[h3];congr 2;omega⟩
theorem Ag{u:Tree}{x:List Int×Tree}:∀{l:List Tree} {q:List Int} {i j:Nat},l[j]?=some u→x∈nodK u (q++[((i+j:Nat):Int)])→x∈nodKs l q i
 |[],q,i,j,h,_=>by simp at h
 |t::r,q,i,0,h,hx=>by
  simp only[List.getElem?_cons_zero,Option.some.injEq]at h;subst h;simp only[nodKs,List.mem_append];exact .inl (by simpa using hx)
 |t::r,q,i,j+1,h,hx=>by
  simp only[nodKs,List.mem_append];refine .inr (Ag (i:=i+1) (j:=j) (by simpa using h) ?_);rw[show i+1+j=i+(j+1) by omega];exact hx
theorem CQ:∀(r:List Int) {t u:Tree} {q:List Int},atK t r=some u→(q++r,u)∈nodK t q
 |[],t,u,q,h=>by
  simp only[atK,Option.some.injEq]at h;subst h;rw[dF];simp
 | z::r,t,u,q,h=>by
  simp only[atK]at h;split at h
  ·cases h
  ·rename_i hz;cases hu:t.kids[z.toNat]? with
   |none=>rw[hu]at h;cases h
   |some v=>
    rw[hu]at h;have :=CQ r (q:=q++[z]) h;rw[dF,List.mem_cons];refine .inr (Ag (j:=z.toNat) hu ?_);rw[Nat.zero_add,show((z.toNat:Nat):Int)=z by omega];simpa using this
theorem KP:∀t,tyK t→∃q,atK t q=some (leafK t):=eY λt ih h=>by
 rcases kp h with⟨G,_,u,J,O⟩|⟨G,_⟩
 ·obtain⟨U,_⟩:=oa G J;obtain⟨q,Z⟩:=ih 0 u (by rw[J];rfl) O;exact⟨0::q,by simp[atK,J,Z,U]⟩
 ·exact⟨[],by rw[(iQ G).1];rfl⟩
theorem HP:∀t,tyK t→∀q u,atK t q=some u→cP u=true→u=leafK t:=eY λt ih h q u hq hu=>by
 rcases kp h with⟨h8,_,v,hv,hty⟩|⟨h8,hk,_⟩
 ·obtain⟨e1,_⟩:=oa h8 hv;cases q with
  |nil=>
   simp only[atK,Option.some.injEq]at hq;subst hq;simp[cP,h8]at hu
  | cons z q=>
   simp only[atK,hv]at hq;split at hq
   ·cases hq
   ·cases hz:z.toNat with
    |zero=>
     rw[hz]at hq;simp only[List.getElem?_cons_zero]at hq;rw[e1];exact ih 0 v (by rw[hv];rfl) hty q u hq hu
    |succ n=>rw[hz]at hq;simp at hq
 ·rw[(iQ h8).1];cases q with
  |nil=>simp only[atK,Option.some.injEq]at hq;exact hq.symm
  |cons z q=>
   simp only[atK,hk]at hq;split at hq<;>simp at hq
def fC (p:List Tree) (a:Int×Int):Option (Int×Int):=if 0≤a.1∧0≤a.2 then match p[a.1.toNat]? with
    |none=>none
    | some t=>match t.kids[a.2.toNat]? with
      |none=>none
      |some x=>if x.kind=3∧(leafK (oU p a.1 a.2)).kind=9∧(aT p a.1 (leafK (oU p a.1 a.2)).text).2.2=true then some ((aT p a.1 (leafK (oU p a.1 a.2)).text).1,(aT p a.1 (leafK (oU p a.1 a.2)).text).2.1)else none
  else none
theorem xx{x:Tree}(h1:p[i]?=some t)(h2:t.kids[d]?=some x)(G:x.kind=3):fC p ((i:Int),(d:Int))=if(leafK (oU p i d)).kind=9∧(aT p i (leafK (oU p i d)).text).2.2=true then some ((aT p i (leafK (oU p i d)).text).1,(aT p i (leafK (oU p i d)).text).2.1)else none:=by
 unfold fC;rw[if_pos ⟨Int.natCast_nonneg i,Int.natCast_nonneg d⟩];simp only[Int.toNat_natCast,h1,h2,G,true_and]
theorem oK{x:Tree}(hp:aR p=true)(h1:p[i]?=some t)(h2:t.kids[d]?=some x)(h3:x.kind=3):∃b,x.kids=[b]∧tyK b:=by
 obtain⟨g1,U⟩:=dm hp h1;have G:shapeK x=true:=by
  rw[bV]at U;simp only[Bool.and_eq_true]at U;exact(dx U.2 h2).2
 rw[bV,h3]at G;simp only[Bool.and_eq_true,decide_eq_true_eq]at G;have O:=G.1.1;have e:se 3 x.kids.length=f0 x.kids.length 1 3 0 1:=rfl;rw[e]at O;have hn:x.kids.length=1:=by
  unfold f0 at O;split at O
  ·omega
  ·split at O
   ·omega
   ·omega
 match Z:x.kids,hn with
 |[b],_=>
  have J:=G.2;rw[Z]at J;simp only[shapeKs,Bool.and_eq_true]at J;exact⟨b,rfl,J.1.2,by have :=J.1.1;simpa[jL]using this⟩
def Kz(p:List Tree)(x:ar):Bool:=!x.Free&&(match p[x.Use.Module.toNat]? with|none=>false|some t=>match t.kids[(x.Use.Path.getD 0 0).toNat]? with|none=>false|some a=>a.kind==3)
def fJ(p:List Tree)(l:List ((Int×Int)×av))(x:ar):List ((Int×Int)×av):=
 if Kz p x=true then bI (x.Use.Module,x.Use.Path.getD 0 0) (av.mk x.Module x.Def) l else l
def fw(p:List Tree):List ((Int×Int)×av):=(bo p).foldl (fJ p) []
theorem HZ{x:ar}(hp:aR p=true)(h:x∈bo p):∃(i d:Nat) (t a u:Tree) (q:List Int),p[i]?=some t∧t.kids[d]?=some a∧x.Use.Module=(i:Int)∧x.Use.Path=(d:Int)::q∧atK a q=some u∧cP u=true∧x=tgK p (i:Int) ((d:Int)::q) u:=by
 unfold bo at h;rw[if_pos hp]at h;obtain⟨j,t,q,u,hj,hq,hu,rfl⟩:=yw.1 h;rw[Nat.zero_add];have hat:=nodK_at t t [] rfl _ hq;simp only at hat;obtain⟨hk,_⟩:=dm hp hj;cases q with
 |nil=>
  simp only[atK,Option.some.injEq]at hat;subst hat;simp[cP,hk]at hu
 | cons z q=>
  simp only[atK]at hat;split at hat
  ·cases hat
  ·rename_i hz;cases ha:t.kids[z.toNat]? with
   |none=>rw[ha]at hat;cases hat
   |some a=>
    rw[ha]at hat;have e:((z.toNat:Nat):Int)=z:=by omega
    exact⟨j,z.toNat,t,a,u,q,hj,ha,rfl,by rw[e];rfl,hat,hu,by rw[e]⟩
theorem tC{x:ar}{a:Tree}{q:List Int}(l:List ((Int×Int)×av))(h1:p[i]?=some t)(h2:t.kids[d]?=some a)(G:x.Use.Module=(i:Int))(J:x.Use.Path=(d:Int)::q):fJ p l x=if x.Free=false∧a.kind=3 then bI ((i:Int),(d:Int)) (av.mk x.Module x.Def) l else l:=by
 unfold fJ Kz;rw[G,J];simp only[List.getD_cons_zero,Int.toNat_natCast,h1,h2,beq_iff_eq,Bool.and_eq_true,Bool.not_eq_true']
theorem yP {p:List Tree} (hp:aR p=true):∀(T:List ar) (l:List ((Int×Int)×av)),(∀x∈T,x∈bo p)→(∀k v,aC k l=some v→fC p k=some (v.module,v.def_))→∀k v,aC k (T.foldl (fJ p) l)=some v→fC p k=some (v.module,v.def_)
 |[],l,_,hl,k,v,h=>hl k v h
 | x :: T,l,hT,hl,k,v,h=>by
  refine yP hp T (fJ p l x) (λy hy=>hT y (by simp[hy])) (λk v hkv=>?_) k v h;obtain⟨i,d,t,a,u,q,h1,h2,h3,h4,h5,h6,h7⟩:=HZ hp (hT x (by simp));rw[tC l h1 h2 h3 h4]at hkv;split at hkv
  ·rename_i hc;rw[iK]at hkv;split at hkv
   ·rename_i hk;simp only[Option.some.injEq]at hkv;subst hkv hk;obtain⟨b,hb,hty⟩:=oK hp h1 h2 hc.2;have hlf:u=leafK b:=by
     cases q with
     |nil=>
      simp only[atK,Option.some.injEq]at h5;subst h5;have :=hc.2;simp[cP,this]at h6
     | cons z q=>
      simp only[atK,hb]at h5;split at h5
      ·cases h5
      ·cases hz:z.toNat with
       |zero=>
        rw[hz]at h5;simp only[List.getElem?_cons_zero]at h5;exact HP b hty q u h5 h6
       |succ n=>rw[hz]at h5;simp at h5
    have hal:=pu h1 h2 hb;have hk9:(leafK b).kind=9:=by
     obtain⟨g1,g2,_⟩:=kw b hty;have :=g1.2;simp only[fX,Bool.and_eq_true,decide_eq_true_eq]at this;rw[hlf]at h6;simp only[cP,Bool.or_eq_true,beq_iff_eq]at h6;omega
    have hfr:=hc.1;rw[h7]at hfr⊢;simp only[tgK,Bool.not_eq_false']at hfr⊢;rw[xx h1 h2 hc.2,hal,←hlf,if_pos ⟨by rw[hlf];exact hk9,hfr⟩]
   ·exact hl k v hkv
  ·exact hl k v hkv
theorem Ar{p:List Tree}(k:Int×Int):∀(T:List ar) (l:List ((Int×Int)×av)),aC k l≠none→aC k (T.foldl (fJ p) l)≠none
 |[],l,h=>h
 | x::T,l,h=>by
  refine Ar k T (fJ p l x) ?_;unfold fJ;split
  ·rw[iK];split
   ·simp
   ·exact h
  ·exact h
theorem Dw{p:List Tree}{k:Int×Int}{x:ar}(hx:∀l,aC k (fJ p l x)≠none):∀(T:List ar) (l:List ((Int×Int)×av)),x∈T→aC k (T.foldl (fJ p) l)≠none
 |[],l,h=>by cases h
 |y::T,l,h=>by
  rcases List.mem_cons.1 h with rfl|h
  ·exact Ar k T _ (hx l)
  ·exact Dw hx T _ h
theorem zP {p:List Tree} (hp:aR p=true) (k:Int×Int):(aC k (fw p)).map (λv=>(v.module,v.def_))=fC p k:=by
 have hs:=yP hp (bo p) [] (λ_ h=>h) (λk v h=>by cases h) k;cases hm:aC k (fw p)with
 |some v=>rw[hs v hm];rfl
 | none =>
  rw[Option.map_none];cases hn:fC p k with
  |none=>rfl
  | some v=>
   exfalso;have hn':=hn;unfold fC at hn;split at hn
   ·rename_i h0;cases h1:p[k.1.toNat]? with
    |none=>rw[h1]at hn;cases hn
    | some t=>
     cases h2:t.kids[k.2.toNat]? with
     |none=>rw[h1]at hn;simp only[h2]at hn;cases hn
     | some a=>
      rw[h1]at hn;simp only[h2]at hn;split at hn
      ·rename_i hc;obtain⟨b,hb,hty⟩:=oK hp h1 h2 hc.1;have e1:((k.1.toNat:Nat):Int)=k.1:=by omega
       have e2:((k.2.toNat:Nat):Int)=k.2:=by omega
       have hal:=pu h1 h2 hb;rw[e1,e2]at hal;rw[hal]at hc;obtain⟨q,hq⟩:=KP b hty;have hat:atK t (k.2::0::q)=some (leafK b):=by
        simp[atK,h2,hb,hq,show¬k.2<0 by omega]
       have hx:tgK p k.1 (k.2::0::q) (leafK b)∈bo p:=by
        unfold bo;rw[if_pos hp];exact yw.2 ⟨k.1.toNat,t,_,_,h1,by simpa using CQ _ (q:=[]) hat,by simp[cP,hc.2.1],by rw[Nat.zero_add,e1]⟩
       refine Dw (k:=k) (λl=>?_) (bo p) [] hx hm;rw[tC (i:=k.1.toNat) (d:=k.2.toNat) (q:=0::q) l h1 h2 (by rw[e1];rfl) (by rw[e2];rfl),if_pos ⟨by simp[tgK,hc.2.2],hc.1⟩,iK,if_pos (by rw[e1,e2])];simp
      ·cases hn
   ·cases hn
def iA{α:Type}(f:α→Nat):List α→Nat
 |[]=>0
 |x::r=>f x+iA f r
theorem Be{α:Type}(f:α→Nat):∀a b:List α,iA f (a++b)=iA f a+iA f b
 |[],b=>by simp[iA]
 |x::a,b=>by simp only[List.cons_append,iA,Be f a b];omega
theorem zo{α:Type}[BEq α][LawfulBEq α](f:α→Nat){x:α}:∀{m:List α},x∈m→iA f m=f x+iA f (m.erase x)
 |[],h=>by cases h
 | y::m,h=>by
  rw[List.erase_cons];split
  ·rename_i e;rw[eq_of_beq e];rfl
  ·rename_i e;rcases List.mem_cons.1 h with rfl|h
   ·simp at e
   ·simp only[iA,zo f h];omega
theorem BO{α:Type}[BEq α][LawfulBEq α](f:α→Nat):∀(l m:List α),l.Nodup→(∀x∈l,x∈m)→iA f l≤iA f m
 |[],m,_,_=>Nat.zero_le _
 |x::l,m,G,hs=>by
  obtain⟨h1,h2⟩:=List.nodup_cons.1 G;rw[zo f (hs x (by simp)),iA];have :=BO f l (m.erase x) h2 λy hy=>(List.mem_erase_of_ne (λ(e:y=x)=>h1 (by rw[←e];exact hy))).2 (hs y (by simp[hy]));omega
def qB(p:List Tree)(k:Int×Int):Nat:=lisK (oU p k.1 k.2)
theorem Fv{P:List Tree}{j:Nat}(h:P[j]?=some t):iA (qB P) (vy j t.kids)≤kbulk t.kids:=by
 have go:∀(l:List Tree) (k:Nat),t.kids.drop k=l→iA (qB P) ((List.range' k l.length).map λ(d:Nat)=>((j:Int),(d:Int)))≤kbulk l:=λl=>by
  induction l with
  |nil=>intro k _;exact Nat.zero_le _
  | cons x r ih=>
   intro k hk;have hx:t.kids[k]?=some x:=by
    have :(t.kids.drop k)[0]?=some x:=by rw[hk];rfl
    simpa using this
   have hr:t.kids.drop (k+1)=r:=by
    have :(t.kids.drop k).drop 1=r:=by rw[hk];rfl
    simpa[List.drop_drop]using this
   have :=ih (k+1) hr;simp only[List.length_cons,List.range'_succ,List.map_cons,iA,kbulk];have e:qB P ((j:Int),(k:Int))≤tbulk x:=by
    unfold qB oU;simp only[Int.toNat_natCast,h,hx];cases hxk:x.kids with
    |nil=>
     have :lisK pQ=0:=by unfold pQ;rw[lisK,if_neg (by decide)]
     simp only[this];omega
    |cons b _=>
     simp only[];have :=(jJ b).2;have :=ax (t:=x) (i:=0) (u:=b) (by rw[hxk];rfl);omega
   omega
 have :=go t.kids 0 rfl;unfold vy;rw[List.range_eq_range'];exact this
theorem Dq(P:List Tree):∀(j:Nat) (r:List Tree),(∀i,P[j+i]?=r[i]?)→iA (qB P) (rm j r)≤kbulk r
 |j,[],_=>Nat.zero_le _
 |j,t::r,h=>by
  have G:P[j]?=some t:=by have :=h 0;simpa using this
  have :=Fv G;have :=Dq P (j+1) r λi=>by have :=h (i+1);rw[show j+1+i=j+(i+1) by omega];simpa using this
  have :=bp t;simp only[rm,Be,kbulk];omega
theorem yA{l:List (Int×Int)}(h:mx p l):iA (qB p) l≤kbulk p:=Nat.le_trans (BO _ _ _ h.1 h.2) (Dq p 0 p (λi=>by simp))
theorem yk(t:Tree):∀n,bF n (.node 8 [] [] [t])=.node 8 [] [] [bF n t]
 |0=>rfl
 |n+1=>by simp only[bF,yk t n]
theorem zA(ht:tyK t)(hb:tbulk t≤1000000000):nF t (leafK t) (lisK t):=by
 have loop:∀t,tyK t→∀i,i+tbulk t≤2000000000→mN (lisK t+1) t i (leafK t) ((i+lisK t:Nat):Int):=eY λt ih h i hi=>by
  rcases kp h with⟨G,_,u,hu,J⟩|⟨G,hk,_⟩
  ·obtain⟨O,U⟩:=oa G hu;have Z:t.kids[0]?=some u:=by rw[hu];rfl
   have :=ax Z;rw[O,U];refine tc _ _ _ _ _ ⟨λ_=>⟨u,Z,by omega,?_⟩,λh=>absurd G h⟩;rw[show i+(lisK u+1)=i+1+lisK u by omega];exact ih 0 u Z J (i+1) (by omega)
  ·obtain⟨O,U⟩:=iQ G;rw[O,U];exact tc _ _ _ _ _ ⟨λh=>absurd h G,λ_=>⟨rfl,rfl⟩⟩
 have :=loop t ht 0 (by omega);rw[Nat.zero_add]at this;exact zw _ _ _ _ this
theorem ld(p:List Tree)(hp:kbulk p≤1000000000):ma p (aR p):=by
 have hl:=ej p;have loop:∀m i,p.length-i≤m→kR (m+1) p i (aR (p.drop i)):=λm=>by
  induction m with
  |zero=>
   intro i hi;refine qO 0 _ _ _ ⟨λh=>by omega,λh=>?_⟩;rw[List.drop_of_length_le (by omega),aR]
  | succ m ihm=>
   intro i hi;refine qO (m+1) _ _ _ ⟨λh=>?_,λh=>?_⟩
   ·obtain⟨u,hu,_⟩|h':=di p i
    ·rw[aJ hu,aR];have :=aY hu;refine⟨u,hu,λh1=>by simp[h1],λh1=>⟨_,pC u (by omega),λh2=>by simp[h1,h2],λh2=>⟨by omega,?_⟩⟩⟩;simp only[h1,h2,beq_self_eq_true,Bool.true_and];exact ihm (i+1) (by omega)
    ·exact absurd h h'
   ·rw[List.drop_of_length_le (by omega),aR]
 exact xP _ _ _ (loop p.length 0 (by omega))
theorem AI(p:List Tree):(bo p).length≤kbulk p:=by
 unfold bo;split
 ·exact An p 0 p
 ·exact Nat.zero_le _
theorem Az(hp:aR p=true)(hb:kbulk p≤100000000):lS p (fw p):=by
 have hl:=AI p;have hu:∀x∈bo p,_:=λx hx=>HZ hp hx;obtain⟨T,hT⟩:∃T,T=bo p:=⟨_,rfl⟩;have loop:∀m i l,T.length-i≤m→gw (m+1) p T l i ((T.drop i).foldl (fJ p) l):=λm=>by
  induction m with
  |zero=>
   intro i l hi;refine qQ 0 _ _ _ _ _ ⟨λh=>by omega,λh=>?_⟩;rw[List.drop_of_length_le (by omega)];rfl
  | succ m ihm=>
   intro i l hi;refine qQ (m+1) _ _ _ _ _ ⟨λh=>?_,λh=>?_⟩
   ·obtain⟨x,hx,_⟩|h':=di T i
    ·rw[aJ hx,List.foldl_cons];obtain⟨j,d,t,a,u,q,h1,h2,h3,h4,h5,h6,h7⟩:=hu x (hT▸List.mem_of_getElem? hx);have hs:=tC l h1 h2 h3 h4;rw[←hT]at hl;refine⟨x,hx,(d:Int),by rw[h4];rfl,λhf=>⟨j,h3,t,h1,d,rfl,a,h2,λh3'=>⟨by omega,?_⟩,λh3'=>⟨by omega,?_⟩⟩,λhf=>⟨by omega,?_⟩⟩
     ·have :=ihm (i+1) (fJ p l x) (by omega);rw[hs,if_pos ⟨hf,h3'⟩]at this⊢;rw[h3];exact this
     ·have :=ihm (i+1) (fJ p l x) (by omega);rw[hs,if_neg (λhc=>h3' hc.2)]at this⊢;exact this
     ·have :=ihm (i+1) (fJ p l x) (by omega);rw[hs,if_neg (λhc=>by rw[hf]at hc;cases hc.1)]at this⊢;exact this
    ·exact absurd h h'
   ·rw[List.drop_of_length_le (by omega)];rfl
 refine xU (T.length+1) _ _ ⟨T,hT▸Ai p hb,?_⟩;have :=loop T.length 0 [] (by omega);rw[List.drop_zero,hT]at this;rw[hT];exact this
theorem Ih{w:List UInt8}(G:aR p=true)(J:0≤M)(h1:M<p.length)(hb:kbulk p≤100000000)(O:w.length≤1000000000):qx p M w (aT p M w).1 (aT p M w).2.1 (aT p M w).2.2:=
 rS_link_Lookup 0 _ _ _ _ _ _ ⟨_,zV p (by omega),λh=>(by rw[G]at h;cases h),λh=>⟨_,_,_,Bh J h1 (by omega) O,rfl,rfl,rfl⟩⟩
theorem Cb:∀(k:Nat) (z:Int) (ks:List Tree) (i:Nat),i+k≤1000000000→jC (k+1) z ks i ((i+k:Nat):Int) (bF k (.node z [] [] ks)) 0
 |0,z,ks,i,h=>sH 0 _ _ _ _ _ _ ⟨λh=>by omega,λ_=>⟨rfl,rfl⟩⟩
 |k+1,z,ks,i,h=>by
  have :=Cb k 8 [.node z [] [] ks] (i+1) (by omega);rw[yk,show i+1+k=i+(k+1) by omega]at this;exact sH (k+1) _ _ _ _ _ _ ⟨λ_=>⟨by omega,this⟩,λh=>by omega⟩
theorem yC{seen:List (Int×Int)}{l:List ((Int×Int)×Bool)}(h:∀k,aC k l=if k∈seen then some true else none)(a:Int×Int):∀k,aC k (bI a true l)=if k∈a::seen then some true else none:=λk=>by
 rw[iK,h k];by_cases e:k=a
 ·rw[if_pos e,if_pos (by simp[e])]
 ·rw[if_neg e];by_cases G:k∈seen
  ·rw[if_pos G,if_pos (by simp[G])]
  ·rw[if_neg G,if_neg (by simp[e,G])]
theorem lH{seen:List (Int×Int)}{a:Tree}(h:mx p seen)(h1:p[i]?=some t)(h2:t.kids[d]?=some a)(G:((i:Int),(d:Int))∉seen):mx p (((i:Int),(d:Int))::seen):=
 ⟨List.nodup_cons.2 ⟨G,h.1⟩,λx hx=>by
  rcases List.mem_cons.1 hx with rfl|hx
  ·have :=Ab (j:=0) h1 h2;simpa using this
  ·exact h.2 x hx⟩
theorem KA{p:List Tree}(hp:aR p=true)(hb:kbulk p≤10000000):∀(f:Nat) (seen:List (Int×Int)) (n:Nat) (M:Int) (u:Tree) (b:Bool) (a1 a2:Int) (l:List ((Int×Int)×Bool)),mx p seen→kbulk p+1≤f+seen.length→tyK u→u.kind≠8→n≤10000000+iA (qB p) seen→(∀k,aC k l=if k∈seen then some true else none)→(u.kind=9→b=(aT p M u.text).2.2∧(b=true→a1=(aT p M u.text).1∧a2=(aT p M u.text).2.1))→∃m,eu m p (fw p) u n b a1 a2 l (dC p f seen n M u).1 (dC p f seen n M u).2
 |0,seen,n,M,u,b,a1,a2,l,hs,hf,_,_,_,_,_=>by
  have :=mq hs;omega
 | f + 1,seen,n,M,u,b,a1,a2,l,hs,hf,hu,h8,hn,hl,hq=>by
  have hss:=yA hs;by_cases h9:u.kind=9
  ·obtain⟨q1,q2⟩:=hq h9;rw[dC,if_pos h9];by_cases hfd:(aT p M u.text).2.2=false
   ·rw[if_pos hfd];rw[hfd]at q1;exact⟨1,kS 0 _ _ _ _ _ _ _ _ _ _ ⟨λ_=>⟨λ_=>⟨rfl,rfl⟩,λh=>(by rw[q1]at h;cases h)⟩,λh=>absurd h9 h⟩⟩
   ·rw [if_neg hfd];have hfd':(aT p M u.text).2.2=true:=by simpa using hfd
    rw[hfd']at q1;obtain⟨e1,e2⟩:=q2 q1;subst q1;obtain⟨i,d,t,a,b',g1,g2,g3,g4,g5,g6,g7⟩:=oF hp h9 hu.1 hfd';rw[g1]at e1⊢;rw[g2]at e2⊢;subst e1 e2;by_cases hm:((i:Int),(d:Int))∈seen
    ·rw[if_pos hm];have hlk:=hl ((i:Int),(d:Int));rw[if_pos hm]at hlk;exact⟨1,kS 0 _ _ _ _ _ _ _ _ _ _ ⟨λ_=>⟨λh=>(by cases h),λ_=>⟨λh=>(by rw[hlk]at h;cases h),λd1 h=>⟨λ_=>⟨rfl,rfl⟩,λh'=>(by rw[hlk]at h;cases h;cases h')⟩⟩⟩,λh=>absurd h9 h⟩⟩
    ·rw[if_neg hm];have hlk:=hl ((i:Int),(d:Int));rw[if_neg hm]at hlk;have hal:=pu g3 g4 g6;rw[hal];obtain⟨t1,t2,_⟩:=kw b' g7;have hs':=lH hs g3 g4 hm;have hl':=yC hl ((i:Int),(d:Int));have hsum:iA (qB p) (((i:Int),(d:Int))::seen)=lisK b'+iA (qB p) seen:=by simp only[iA,qB,hal]
     have hss':=yA hs';have hbb:tbulk b'≤1000000000:=by
      have :=aY g3;have :=ax g4;have :=ax (t:=a) (i:=0) (u:=b') (by rw[g6];rfl);omega
     have hlo:=zP hp ((i:Int),(d:Int));rw[xx g3 g4 g5,hal]at hlo;have step:∀m,((aC ((i:Int),(d:Int)) (fw p)=none)→eu m p (fw p) (leafK b') ((n:Int)+(lisK b':Nat)) false 0 0 (bI ((i:Int),(d:Int)) true l) (dC p f (((i:Int),(d:Int))::seen) (n+lisK b') i (leafK b')).1 (dC p f (((i:Int),(d:Int))::seen) (n+lisK b') i (leafK b')).2)∧(∀(d3:av),aC ((i:Int),(d:Int)) (fw p)=some d3→eu m p (fw p) (leafK b') ((n:Int)+(lisK b':Nat)) true d3.module d3.def_ (bI ((i:Int),(d:Int)) true l) (dC p f (((i:Int),(d:Int))::seen) (n+lisK b') i (leafK b')).1 (dC p f (((i:Int),(d:Int))::seen) (n+lisK b') i (leafK b')).2)→∃m,eu m p (fw p) u n true i d l (dC p f (((i:Int),(d:Int))::seen) (n+lisK b') i (leafK b')).1 (dC p f (((i:Int),(d:Int))::seen) (n+lisK b') i (leafK b')).2:=λm hk=>by
      have h2:lQ (m+1) p (fw p) u n i d l (dC p f (((i:Int),(d:Int))::seen) (n+lisK b') i (leafK b')).1 (dC p f (((i:Int),(d:Int))::seen) (n+lisK b') i (leafK b')).2:=
       rL2_types_Expand m _ _ _ _ _ _ _ _ _ ⟨i,rfl,t,g3,d,rfl,a,g4,b',by rw[g6];rfl,leafK b',_,zA g7 hbb,by unfold InI;omega,hk.1,hk.2⟩
      exact⟨m+2,kS (m+1) _ _ _ _ _ _ _ _ _ _ ⟨λ_=>⟨λh=>(by cases h),λ_=>⟨λ_=>h2,λd1 h=>⟨λ_=>(by rw[hlk]at h;cases h),λ_=>(by rw[hlk]at h;cases h)⟩⟩⟩,λh=>absurd h9 h⟩⟩
     have ih:=λ(b:Bool) (a1 a2:Int)=>KA hp hb f (((i:Int),(d:Int))::seen) (n+lisK b') i (leafK b') b a1 a2 _ hs' (by simp only[List.length_cons];omega) t1 t2 (by omega) hl';rw[show(n:Int)+((lisK b':Nat):Int)=((n+lisK b':Nat):Int) by omega]at step;cases hmm:aC ((i:Int),(d:Int)) (fw p)with
     | none=>
      rw[hmm]at hlo;obtain⟨m,hm⟩:=ih false 0 0 (λh9'=>⟨(by
       cases hx:(aT p (i:Int) (leafK b').text).2.2 with
       |false=>rfl
       |true=>(rw[if_pos ⟨h9',hx⟩]at hlo;cases hlo)),λh=>(by cases h)⟩)
      rw[hmm]at step;exact step m ⟨λ_=>hm,λd3 h=>(by cases h)⟩
     | some v=>
      rw[hmm]at hlo;simp only[Option.map_some]at hlo;split at hlo
      ·rename_i hc;simp only[Option.some.injEq,Prod.mk.injEq]at hlo;obtain⟨m,hm⟩:=ih true v.module v.def_ (λ_=>⟨hc.2.symm,λ_=>hlo⟩);rw[hmm]at step;exact step m ⟨λh=>(by cases h),λd3 h=>(by cases h;exact hm)⟩
      ·cases hlo
  ·rw[dC,if_neg h9];have :=Cb n u.kind [] 0 (by omega);rw[Nat.zero_add]at this;exact⟨n+2,kS (n+1) _ _ _ _ _ _ _ _ _ _ ⟨λh=>absurd h h9,λ_=>this⟩⟩
def mK(p:List Tree)(M:Int)(t:Tree):Tree×Int:=if aR p=true∧0≤M∧M<p.length∧fX t.kind=true∧shapeK t=true then dC p (kbulk p+1) [] (lisK t) M (leafK t)else(pQ,5)
theorem Jf(hb:kbulk p≤10000000)(M:Int)(ht:tbulk t≤10000000):pG p M t (mK p M t).1 (mK p M t).2:=by
 by_cases G:aR p=true∧0≤M∧M<p.length∧fX t.kind=true∧shapeK t=true
 ·have J:tyK t:=⟨G.2.2.2.2,G.2.2.2.1⟩;have hk:5≤t.kind∧t.kind≤9:=by simpa[fX]using G.2.2.2.1
  obtain⟨Z,t2,_⟩:=kw t J;obtain⟨b1,b2⟩:=jJ t;have hlx:=iT (leafK t);rw[mK,if_pos G];have O:mx p []:=⟨List.nodup_nil,λx h=>(by cases h)⟩;by_cases U:(leafK t).kind=9
  ·obtain⟨m,hm⟩:=KA G.1 hb (kbulk p+1) [] (lisK t) M (leafK t) (aT p M (leafK t).text).2.2 (aT p M (leafK t).text).1 (aT p M (leafK t).text).2.1 [] O (by simp) Z t2 (by omega) (λk=>by simp[aC]) (λ_=>⟨rfl,λ_=>⟨rfl,rfl⟩⟩);exact oM m _ _ _ _ _ ⟨_,ld p (by omega),λh=>(by rw[G.1]at h;cases h),λ_=>⟨λh=>by omega,λ_=>⟨λh=>by omega,λ_=>⟨λh=>by omega,λ_=>⟨λh=>by omega,λ_=>⟨_,pC t (by omega),λh=>(by rw[G.2.2.2.2]at h;cases h),λ_=>⟨leafK t,_,zA J (by omega),λ_=>⟨_,_,_,Ih G.1 G.2.1 G.2.2.1 (by omega) (by omega),_,Az G.1 (by omega),hm⟩,λh=>absurd U h⟩⟩⟩⟩⟩⟩⟩
  ·have :=Cb (lisK t) (leafK t).kind [] 0 (by omega);rw[Nat.zero_add]at this;rw[dC,if_neg U];exact oM (lisK t+1) _ _ _ _ _ ⟨_,ld p (by omega),λh=>(by rw[G.1]at h;cases h),λ_=>⟨λh=>by omega,λ_=>⟨λh=>by omega,λ_=>⟨λh=>by omega,λ_=>⟨λh=>by omega,λ_=>⟨_,pC t (by omega),λh=>(by rw[G.2.2.2.2]at h;cases h),λ_=>⟨leafK t,_,zA J (by omega),λh=>absurd h U,λ_=>this⟩⟩⟩⟩⟩⟩⟩
 ·rw[mK,if_neg G];refine oM 0 _ _ _ _ _ ⟨_,ld p (by omega),λ_=>⟨rfl,rfl⟩,λh1=>⟨λ_=>⟨rfl,rfl⟩,λh2=>⟨λ_=>⟨rfl,rfl⟩,λh3=>⟨λ_=>⟨rfl,rfl⟩,λh4=>⟨λ_=>⟨rfl,rfl⟩,λh5=>⟨_,pC t (by omega),λ_=>⟨rfl,rfl⟩,λh6=>absurd ⟨h1,by omega,by omega,?_,h6⟩ G⟩⟩⟩⟩⟩⟩;simp[fX];omega
def jF(p:List Tree)(s:Int×Int):Nat→List (Int×Int)→Option (Int×Int)→Bool
 |0,_,_=>false
 |_+1,_,none=>false
 |f+1,seen,some a=>if a=s then true else if a∈seen then false else jF p s f (a::seen) (fC p a)
theorem Ir{k a:Int×Int}(h:fC p k=some a):∃(i d:Nat) (t x:Tree),a=((i:Int),(d:Int))∧p[i]?=some t∧t.kids[d]?=some x:=by
 unfold fC at h;split at h
 ·split at h
  ·cases h
  ·split at h
   ·cases h
   ·split at h
    ·rename_i G;simp only[Option.some.injEq]at h;obtain⟨i,d,t,u,a1,J,O,U⟩:=IW G.2.2;exact⟨i,d,t,u,by rw[←h,a1,J],O,U⟩
    ·cases h
 ·cases h
theorem Il{p:List Tree}(hp:aR p=true)(hb:kbulk p≤10000000)(s1 s2:Int):∀(f:Nat) (seen:List (Int×Int)) (k:Int×Int) (b:Bool) (a1 a2:Int) (l:List ((Int×Int)×Bool)),mx p seen→kbulk p+1≤f+seen.length→(s1,s2)∉seen→(∀k,aC k l=if k∈seen then some true else none)→(if b then some (a1,a2)else none)=fC p k→∃m,bP m s1 s2 (fw p) a1 a2 b l (jF p (s1,s2) f seen (fC p k))
 |0,seen,k,b,a1,a2,l,hs,hf,_,_,_=>by
  have :=mq hs;omega
 | f +1,seen,k,b,a1,a2,l,hs,hf,hns,hl,hq=>by
  cases b with
  |false=>
   simp at hq;rw[←hq,jF];exact⟨1,jG 0 _ _ _ _ _ _ _ _ ⟨λh=>(by cases h),λ_=>rfl⟩⟩
  | true=>
   simp at hq;obtain⟨i,d,t,x,e,g3,g4⟩:=Ir hq.symm;cases e;rw[←hq,jF];have hlk:=hl ((i:Int),(d:Int));by_cases hm:((i:Int),(d:Int))∈seen
   ·rw[if_pos hm]at hlk;rw[if_neg (λ(e:((i:Int),(d:Int))=(s1,s2))=>hns (by rw[←e];exact hm)),if_pos hm];exact⟨1,jG 0 _ _ _ _ _ _ _ _ ⟨λ_=>⟨λh=>(by rw[hlk]at h;cases h),λd1 h=>⟨λh'=>(by rw[hlk]at h;cases h;cases h'),λ_=>rfl⟩⟩,λh=>(by cases h)⟩⟩
   ·rw[if_neg hm]at hlk;by_cases hst:((i:Int),(d:Int))=(s1,s2)
    ·rw[if_pos hst];have h1:ka 1 s1 s2 (fw p) i d l true:=pY 0 _ _ _ _ _ _ _ ⟨λ_=>rfl,λh=>absurd (Prod.mk.inj hst) h⟩;exact⟨2,jG 1 _ _ _ _ _ _ _ _ ⟨λ_=>⟨λ_=>h1,λd1 h=>(by rw[hlk]at h;cases h)⟩,λh=>(by cases h)⟩⟩
    ·rw[if_neg hst,if_neg hm];have hst':¬((i:Int)=s1∧(d:Int)=s2):=λh=>hst (by rw[h.1,h.2]);have hs':=lH hs g3 g4 hm;have hl':=yC hl ((i:Int),(d:Int));have hlo:=zP hp ((i:Int),(d:Int));have ih:=λ(b:Bool) (a1 a2:Int)=>Il hp hb s1 s2 f (((i:Int),(d:Int))::seen) ((i:Int),(d:Int)) b a1 a2 _ hs' (by simp only[List.length_cons];omega) (λh=>by
      rcases List.mem_cons.1 h with h|h
      ·exact hst h.symm
      ·exact hns h) hl'
     have fin:∀m,((aC ((i:Int),(d:Int)) (fw p)=none)→bP m s1 s2 (fw p) 0 0 false (bI ((i:Int),(d:Int)) true l) (jF p (s1,s2) f (((i:Int),(d:Int))::seen) (fC p ((i:Int),(d:Int)))))∧(∀(d2:av),aC ((i:Int),(d:Int)) (fw p)=some d2→bP m s1 s2 (fw p) d2.module d2.def_ true (bI ((i:Int),(d:Int)) true l) (jF p (s1,s2) f (((i:Int),(d:Int))::seen) (fC p ((i:Int),(d:Int)))))→∃m,bP m s1 s2 (fw p) i d true l (jF p (s1,s2) f (((i:Int),(d:Int))::seen) (fC p ((i:Int),(d:Int)))):=λm hk=>
      ⟨m+2,jG (m+1) _ _ _ _ _ _ _ _ ⟨λ_=>⟨λ_=>pY m _ _ _ _ _ _ _ ⟨λh=>absurd h hst',λ_=>hk⟩,λd1 h=>(by rw[hlk]at h;cases h)⟩,λh=>(by cases h)⟩⟩
     cases hmm:aC ((i:Int),(d:Int)) (fw p)with
     |none=>
      rw[hmm]at hlo fin;obtain⟨m,hm⟩:=ih false 0 0 (by rw[←hlo];rfl);exact fin m ⟨λ_=>hm,λd3 h=>(by cases h)⟩
     |some v=>
      rw[hmm]at hlo fin;obtain⟨m,hm⟩:=ih true v.module v.def_ (by rw[←hlo];rfl);exact fin m ⟨λh=>(by cases h),λd3 h=>(by cases h;exact hm)⟩
def gH(p:List Tree)(M D:Int):Bool:=if aR p=true∧0≤M∧0≤D then jF p (M,D) (kbulk p+1) [] (fC p (M,D))else false
theorem DM(hb:kbulk p≤10000000)(M D:Int):kW p M D (gH p M D):=by
 have nn:(∀t x,0≤M→0≤D→p[M.toNat]?=some t→t.kids[D.toNat]?=some x→False)→gH p M D=false:=λh=>by
  unfold gH;split
  ·rename_i hc;have :fC p (M,D)=none:=by
    unfold fC;rw[if_pos ⟨hc.2.1,hc.2.2⟩];split
    ·rfl
    ·rename_i t ht;split
     ·rfl
     ·rename_i x hx;exact(h t x hc.2.1 hc.2.2 ht hx).elim
   rw[this,jF]
  ·rfl
 have hlen:=λ(t:Tree) (ht:p[M.toNat]?=some t)=>(List.getElem?_eq_some_iff.1 ht).1;by_cases hp:aR p=true
 ·by_cases h0:M<0
  ·rw[nn λ_ _ h _ _ _=>by omega];exact rS_types_Circular 0 _ _ _ _ ⟨_,ld p (by omega),λ_=>rfl,λ_=>⟨λ_=>rfl,λh=>absurd h0 h⟩⟩
  by_cases h1:((p.length:Nat):Int)≤M
  ·rw[nn λt _ _ _ ht _=>by have :=hlen t ht;omega];exact rS_types_Circular 0 _ _ _ _ ⟨_,ld p (by omega),λ_=>rfl,λ_=>⟨λ_=>rfl,λ_=>⟨λ_=>rfl,λh=>absurd h1 h⟩⟩⟩
  by_cases h2:D<0
  ·rw[nn λ_ _ _ h _ _=>by omega];exact rS_types_Circular 0 _ _ _ _ ⟨_,ld p (by omega),λ_=>rfl,λ_=>⟨λ_=>rfl,λ_=>⟨λ_=>rfl,λ_=>⟨λ_=>rfl,λh=>absurd h2 h⟩⟩⟩⟩
  obtain⟨t,ht,_⟩|h':=di p M.toNat
  ·by_cases h3:((t.kids.length:Nat):Int)≤D
   ·rw[nn λt' x _ _ ht' hx=>by
     rw[ht]at ht';cases ht';have :=(List.getElem?_eq_some_iff.1 hx).1;omega]
    exact rS_types_Circular 0 _ _ _ _ ⟨_,ld p (by omega),λ_=>rfl,λ_=>⟨λ_=>rfl,λ_=>⟨λ_=>rfl,λ_=>⟨λ_=>rfl,λ_=>⟨M.toNat,by omega,t,ht,λ_=>rfl,λh=>absurd h3 h⟩⟩⟩⟩⟩
   ·rw[gH,if_pos ⟨hp,by omega,by omega⟩];have hlo:=zP hp (M,D);have hc:=λ(b:Bool) (a1 a2:Int)=>Il hp hb M D (kbulk p+1) [] (M,D) b a1 a2 [] ⟨List.nodup_nil,λx h=>(by cases h)⟩ (by simp) (by simp) (λk=>by simp[aC]);have fin:∀m,((aC (M,D) (fw p)=none)→bP m M D (fw p) 0 0 false [] (jF p (M,D) (kbulk p+1) [] (fC p (M,D))))∧(∀(d2:av),aC (M,D) (fw p)=some d2→bP m M D (fw p) d2.module d2.def_ true [] (jF p (M,D) (kbulk p+1) [] (fC p (M,D))))→kW p M D (jF p (M,D) (kbulk p+1) [] (fC p (M,D))):=λm hk=>
     rS_types_Circular m _ _ _ _ ⟨_,ld p (by omega),λh=>(by rw[hp]at h;cases h),λ_=>⟨λh=>absurd h h0,λ_=>⟨λh=>absurd h h1,λ_=>⟨λh=>absurd h h2,λ_=>⟨M.toNat,by omega,t,ht,λh=>absurd h h3,λ_=>⟨_,Az hp (by omega),hk⟩⟩⟩⟩⟩⟩
    cases hmm:aC (M,D) (fw p)with
    |none=>
     rw[hmm]at hlo fin;obtain⟨m,hm⟩:=hc false 0 0 (by rw[←hlo];rfl);exact fin m ⟨λ_=>hm,λd3 h=>(by cases h)⟩
    |some v=>
     rw[hmm]at hlo fin;obtain⟨m,hm⟩:=hc true v.module v.def_ (by rw[←hlo];rfl);exact fin m ⟨λh=>(by cases h),λd3 h=>(by cases h;exact hm)⟩
  ·omega
 ·have hp':aR p=false:=by simpa using hp
  rw[gH,if_neg (λh=>hp h.1)];exact rS_types_Circular 0 _ _ _ _ ⟨_,ld p (by omega),λ_=>rfl,λh=>absurd h hp⟩
theorem tl(t:Tree):∀n m,bF n (bF m t)=bF (n+m) t
 |0,m=>by rw[bF,Nat.zero_add]
 |n+1,m=>by rw[bF,tl t n m,show n+1+m=n+m+1 by omega,bF]
theorem KY:∀t,tyK t→fc t (leafK t):=λt ht=>by
 have loop:∀t,tyK t→gr (lisK t+1) t (leafK t):=eY λt ih h=>by
  rcases kp h with⟨G,_,u,Z,J⟩|⟨G,hk,_⟩
  ·obtain⟨O,U⟩:=oa G Z;have h0:t.kids[0]?=some u:=by rw[Z];rfl
   rw[O,U];exact iD _ _ _ ⟨λ_=>⟨u,h0,ih 0 u h0 J⟩,λh=>absurd G h⟩
  ·obtain⟨O,U⟩:=iQ G;rw[O,U];exact iD _ _ _ ⟨λh=>absurd h G,λ_=>rfl⟩
 exact pg _ _ _ (loop t ht)
theorem Lv(G:u.kind≠8)(n:Nat):fc (bF n u) u:=by
 have loop:∀n,gr (n+1) (bF n u) u:=λn=>by
  induction n with
  |zero=>exact iD _ _ _ ⟨λh=>absurd h G,λ_=>rfl⟩
  |succ n ih=>exact iD _ _ _ ⟨λ_=>⟨bF n u,rfl,ih⟩,λh=>absurd rfl h⟩
 exact pg _ _ _ (loop n)
theorem Mq{u v:Tree}(G:u.kind≠8):∀n,kY (bF n u) v (bF n v)
 |0=>qK 0 _ _ _ ⟨λ_=>rfl,λh=>absurd h G⟩
 |n+1=>qK 0 _ _ _ ⟨λh=>absurd rfl h,λ_=>⟨bF n u,rfl,_,Mq G n,rfl⟩⟩
theorem Kj(l:List (Int×Int))(x:Int×Int):jX l x (decide (x∈l)):=by
 have loop:∀m i,l.length-i≤m→jN (m+1) l x i (decide (x∈l.drop i)):=λm=>by
  induction m with
  |zero=>
   intro i hi;refine ph 0 _ _ _ _ ⟨λh=>by omega,λh=>?_⟩;rw[List.drop_of_length_le (by omega)];simp
  | succ m ihm=>
   intro i hi;refine ph (m+1) _ _ _ _ ⟨λh=>?_,λh=>?_⟩
   ·obtain⟨u,hu,_⟩|h':=di l i
    ·rw[aJ hu];refine⟨u,hu,λh1=>?_,λh1=>?_⟩
     ·have :x=u:=(Prod.ext h1.1 h1.2).symm;simp[this]
     ·have :x≠u:=λe=>h1 (by rw[e];exact⟨rfl,rfl⟩);have e:decide (x∈u::l.drop (i+1))=decide (x∈l.drop (i+1)):=by simp[this]
      rw[e];exact ihm (i+1) (by omega)
    ·exact absurd h h'
   ·rw[List.drop_of_length_le (by omega)];simp
 have :=loop l.length 0 (by omega);exact wc _ _ _ _ this
theorem Iq:∀t:Tree,tbulk t≤1000000000→gK t (bareK t):=eY λt ih hb=>by
 have hk:=bN t;have loop:∀m i l,t.kids.length-i≤m→l.length=i→i≤t.kids.length→jm (m+1) t l i (.node t.kind t.text [] (l++baresK (t.kids.drop i))):=λm=>by
  induction m with
  |zero=>
   intro i l hi hl hle;refine pc 0 _ _ _ _ ⟨λh=>by omega,λh=>?_⟩;rw[List.drop_of_length_le (by omega),baresK,List.append_nil]
  | succ m ihm=>
   intro i l hi hl hle;refine pc (m+1) _ _ _ _ ⟨λh=>?_,λh=>?_⟩
   ·obtain⟨u,hu,_⟩|h':=di t.kids i
    ·have :=ax hu;rw[aJ hu,baresK];refine⟨u,hu,_,ih i u hu (by omega),by simp;omega,?_⟩;have :=ihm (i+1) (l++[bareK u]) (by omega) (by simp[hl]) (by omega);rw[List.append_assoc]at this;exact this
    ·exact absurd h h'
   ·rw[List.drop_of_length_le (by omega),baresK,List.append_nil]
 have :=loop t.kids.length 0 [] (by omega) rfl (by omega);rw[List.nil_append,List.drop_zero,←yi]at this;exact vo _ _ _ this
theorem BL{p:List Tree}(hp:aR p=true)(hb:kbulk p≤10000000):∀(f:Nat) (seen sl:List (Int×Int)) (n:Nat) (M:Int) (u:Tree),mx p seen→kbulk p+1≤f+seen.length→(∀k,k∈sl↔k∈seen)→sl.length=seen.length→tyK u→u.kind≠8→0≤M→M<p.length→u.text.length≤1000000000→∃m,iv m p M (bF n (.node u.kind u.text [] [])) sl (dC p f seen n M u).1 (dC p f seen n M u).2
 |0,seen,sl,n,M,u,hs,hf,_,_,_,_,_,_,_=>by
  have :=mq hs;omega
 | f +1,seen,sl,n,M,u,hs,hf,hsl,hll,hu,h8,h0,h1,hux=>by
  have hsn:=mq hs;have hleaf:=Lv (u:=.node u.kind u.text [] []) h8 n;by_cases h9:u.kind=9
  ·rw [dC,if_pos h9];have hfind:=zt (p:=p) (w:=u.text) h0 h1 (by omega) hux;by_cases hfd:(aT p M u.text).2.2=false
   ·rw[if_pos hfd];exact⟨1,gZ 0 _ _ _ _ _ _ ⟨_,hleaf,λ_=>⟨_,hleaf,_,_,_,hfind,λ_=>⟨rfl,rfl⟩,λh=>(by rw[hfd]at h;cases h)⟩,λh=>absurd h9 h⟩⟩
   ·rw[if_neg hfd];have hfd':(aT p M u.text).2.2=true:=by simpa using hfd
    obtain⟨i,d,t,a,b',g1,g2,g3,g4,g5,g6,g7⟩:=oF hp h9 hu.1 hfd';rw[hfd']at hfind;rw[g1,g2]at hfind⊢;have hmet:=Kj sl ((i:Int),(d:Int));by_cases hm:((i:Int),(d:Int))∈seen
    ·rw[if_pos hm];rw[decide_eq_true ((hsl _).2 hm)]at hmet;exact⟨1,gZ 0 _ _ _ _ _ _ ⟨_,hleaf,λ_=>⟨_,hleaf,_,_,_,hfind,λh=>(by cases h),λ_=>⟨_,hmet,λ_=>⟨rfl,rfl⟩,λh=>(by cases h)⟩⟩,λh=>absurd h9 h⟩⟩
    ·rw[if_neg hm];rw[decide_eq_false (λh=>hm ((hsl _).1 h))]at hmet;have hal:=pu g3 g4 g6;rw[hal];obtain⟨t1,t2,t3⟩:=kw b' g7;have hs':=lH hs g3 g4 hm;have hil:=(List.getElem?_eq_some_iff.1 g3).1;have hbb:tbulk b'≤10000000:=by
      have :=aY g3;have :=ax g4;have :=ax (t:=a) (i:=0) (u:=b') (by rw[g6];rfl);omega
     have hbare:=Iq b' (by omega);rw[t3]at hbare;have hin:=Mq (u:=.node u.kind u.text [] []) (v:=bF (lisK b') (.node (leafK b').kind (leafK b').text [] [])) h8 n;rw[tl]at hin;have hlb:=(jJ b').1;have htl:=iT (leafK b');obtain⟨m,hm'⟩:=BL hp hb f (((i:Int),(d:Int))::seen) (sl++[((i:Int),(d:Int))]) (n+lisK b') i (leafK b') hs' (by simp only[List.length_cons];omega) (λk=>by simp[hsl k];exact Or.comm) (by simp[hll]) t1 t2 (by omega) (by omega) (by omega);exact⟨m+1,gZ m _ _ _ _ _ _ ⟨_,hleaf,λ_=>⟨_,hleaf,_,_,_,hfind,λh=>(by cases h),λ_=>⟨_,hmet,λh=>(by cases h),λ_=>⟨by simp;omega,i,rfl,t,g3,d,rfl,a,g4,b',(by rw[g6];rfl),_,hbare,_,hin,hm'⟩⟩⟩,λh=>absurd h9 h⟩⟩
  ·rw[dC,if_neg h9];have hx:u.text=[]:=by
    rcases kp hu with⟨h,_⟩|⟨_,_,h⟩
    ·exact absurd h h8
    ·exact h h9
   refine⟨1,gZ 0 _ _ _ _ _ _ ⟨_,hleaf,λh=>absurd h h9,λ_=>⟨by rw[hx],rfl⟩⟩⟩
theorem Ec{p:List Tree}(hp:aR p=true)(hb:kbulk p≤10000000)(s1 s2:Int):∀(f:Nat) (seen sl:List (Int×Int)) (i d:Nat) (t a:Tree),mx p seen→kbulk p+1≤f+seen.length→(∀k,k∈sl↔k∈seen)→sl.length=seen.length→p[i]?=some t→t.kids[d]?=some a→a.kind=3→∃m,dW m p s1 s2 i d sl (jF p (s1,s2) f seen (fC p ((i:Int),(d:Int))))
 |0,seen,sl,i,d,t,a,hs,hf,_,_,_,_,_=>by
  have :=mq hs;omega
 | f +1,seen,sl,i,d,t,a,hs,hf,hsl,hll,g3,g4,g5=>by
  have hsn:=mq hs;obtain⟨b,hbk,hty⟩:=oK hp g3 g4 g5;have hal:=pu g3 g4 hbk;have hil:=(List.getElem?_eq_some_iff.1 g3).1;have hbb:tbulk b≤10000000:=by
   have :=aY g3;have :=ax g4;have :=ax (t:=a) (i:=0) (u:=b) (by rw[hbk];rfl);omega
  obtain⟨t1,t2,_⟩:=kw b hty;have hlb:=(jJ b).1;have htl:=iT (leafK b);have fin:∀m r,jr m p s1 s2 (leafK b) i d sl r→∃m,dW m p s1 s2 i d sl r:=λm r h=>
   ⟨m+1,rJ m _ _ _ _ _ _ _ ⟨i,rfl,t,g3,d,rfl,a,g4,b,(by rw[hbk];rfl),_,KY b hty,h⟩⟩
  rw[xx g3 g4 g5,hal];by_cases h9:(leafK b).kind=9
  ·have hfind:=zt (p:=p) (m:=(i:Int)) (w:=(leafK b).text) (by omega) (by omega) (by omega) (by omega);by_cases hfd:(aT p i (leafK b).text).2.2=true
   ·rw[if_pos ⟨h9,hfd⟩,jF];obtain⟨i',d',t',a',b',e1,e2,e3,e4,e5,e6,e7⟩:=oF hp h9 t1.1 hfd;rw[hfd,e1,e2]at hfind;rw[e1,e2];by_cases hst:((i':Int),(d':Int))=(s1,s2)
    ·rw[if_pos hst];exact fin 1 _ (dN 0 _ _ _ _ _ _ _ _ ⟨λh=>absurd h9 h,λ_=>⟨_,_,_,hfind,λh=>(by cases h),λ_=>⟨λ_=>rfl,λh=>absurd (Prod.mk.inj hst) h⟩⟩⟩)
    ·rw[if_neg hst];have hst':¬((i':Int)=s1∧(d':Int)=s2):=λh=>hst (by rw[h.1,h.2]);have hmet:=Kj sl ((i':Int),(d':Int));by_cases hm:((i':Int),(d':Int))∈seen
     ·rw[if_pos hm];rw[decide_eq_true ((hsl _).2 hm)]at hmet;exact fin 1 _ (dN 0 _ _ _ _ _ _ _ _ ⟨λh=>absurd h9 h,λ_=>⟨_,_,_,hfind,λh=>(by cases h),λ_=>⟨λh=>absurd h hst',λ_=>⟨_,hmet,λ_=>rfl,λh=>(by cases h)⟩⟩⟩⟩)
     ·rw[if_neg hm];rw[decide_eq_false (λh=>hm ((hsl _).1 h))]at hmet;obtain⟨m,hm'⟩:=Ec hp hb s1 s2 f (((i':Int),(d':Int))::seen) (sl++[((i':Int),(d':Int))]) i' d' t' a' (lH hs e3 e4 hm) (by simp only[List.length_cons];omega) (λk=>by simp[hsl k];exact Or.comm) (by simp[hll]) e3 e4 e5;exact fin (m+1) _ (dN m _ _ _ _ _ _ _ _ ⟨λh=>absurd h9 h,λ_=>⟨_,_,_,hfind,λh=>(by cases h),λ_=>⟨λh=>absurd h hst',λ_=>⟨_,hmet,λh=>(by cases h),λ_=>⟨by simp;omega,hm'⟩⟩⟩⟩⟩)
   ·rw[if_neg (λh=>hfd h.2),jF];have hfd':(aT p i (leafK b).text).2.2=false:=by simpa using hfd
    rw[hfd']at hfind;exact fin 1 _ (dN 0 _ _ _ _ _ _ _ _ ⟨λh=>absurd h9 h,λ_=>⟨_,_,_,hfind,λ_=>rfl,λh=>(by cases h)⟩⟩)
  ·rw[if_neg (λh=>h9 h.1),jF];exact fin 1 _ (dN 0 _ _ _ _ _ _ _ _ ⟨λ_=>rfl,λh=>absurd h h9⟩)
theorem DN(hb:kbulk p≤10000000)(M D:Int):jW p M D (gH p M D):=by
 have nn:(∀t x,0≤M→0≤D→p[M.toNat]?=some t→t.kids[D.toNat]?=some x→x.kind=3→False)→gH p M D=false:=λh=>by
  unfold gH;split
  ·rename_i hc;have :fC p (M,D)=none:=by
    unfold fC;rw[if_pos ⟨hc.2.1,hc.2.2⟩];split
    ·rfl
    ·rename_i t ht;split
     ·rfl
     ·rename_i x hx;exact if_neg λhcc=>h t x hc.2.1 hc.2.2 ht hx hcc.1
   rw[this,jF]
  ·rfl
 have hlen:=λ(t:Tree) (ht:p[M.toNat]?=some t)=>(List.getElem?_eq_some_iff.1 ht).1;by_cases hp:aR p=true
 ·by_cases h0:M<0
  ·rw[nn λ_ _ h _ _ _ _=>by omega];exact cn 0 _ _ _ _ ⟨_,iF p (by omega),λ_=>rfl,λ_=>⟨λ_=>rfl,λh=>absurd h0 h⟩⟩
  by_cases h1:((p.length:Nat):Int)≤M
  ·rw[nn λt _ _ _ ht _ _=>by have :=hlen t ht;omega];exact cn 0 _ _ _ _ ⟨_,iF p (by omega),λ_=>rfl,λ_=>⟨λ_=>rfl,λ_=>⟨λ_=>rfl,λh=>absurd h1 h⟩⟩⟩
  by_cases h2:D<0
  ·rw[nn λ_ _ _ h _ _ _=>by omega];exact cn 0 _ _ _ _ ⟨_,iF p (by omega),λ_=>rfl,λ_=>⟨λ_=>rfl,λ_=>⟨λ_=>rfl,λ_=>⟨λ_=>rfl,λh=>absurd h2 h⟩⟩⟩⟩
  obtain⟨t,ht,_⟩|h':=di p M.toNat
  ·by_cases h3:((t.kids.length:Nat):Int)≤D
   ·rw[nn λt' x _ _ ht' hx _=>by
     rw[ht]at ht';cases ht';have :=(List.getElem?_eq_some_iff.1 hx).1;omega]
    exact cn 0 _ _ _ _ ⟨_,iF p (by omega),λ_=>rfl,λ_=>⟨λ_=>rfl,λ_=>⟨λ_=>rfl,λ_=>⟨λ_=>rfl,λ_=>⟨M.toNat,by omega,t,ht,λ_=>rfl,λh=>absurd h3 h⟩⟩⟩⟩⟩
   ·obtain⟨a,ha,_⟩|h':=di t.kids D.toNat
    ·have eM:((M.toNat:Nat):Int)=M:=by omega
     have eD:((D.toNat:Nat):Int)=D:=by omega
     by_cases hk:a.kind=3
     ·rw[gH,if_pos ⟨hp,by omega,by omega⟩];obtain⟨m,hm⟩:=Ec hp hb M D (kbulk p+1) [] [] M.toNat D.toNat t a ⟨List.nodup_nil,λx h=>by cases h⟩ (by simp) (λk=>Iff.rfl) rfl ht ha hk;rw[eM,eD]at hm;exact cn m _ _ _ _ ⟨_,iF p (by omega),λh=>(by rw[hp]at h;cases h),λ_=>⟨λh=>absurd h h0,λ_=>⟨λh=>absurd h h1,λ_=>⟨λh=>absurd h h2,λ_=>⟨M.toNat,by omega,t,ht,λh=>absurd h h3,λ_=>⟨M.toNat,by omega,t,ht,D.toNat,by omega,a,ha,λh=>absurd hk h,λ_=>hm⟩⟩⟩⟩⟩⟩
     ·rw[nn λt' x _ _ ht' hx hk'=>by
       rw[ht]at ht';cases ht';rw[ha]at hx;cases hx;exact hk hk']
      exact cn 0 _ _ _ _ ⟨_,iF p (by omega),λ_=>rfl,λ_=>⟨λ_=>rfl,λ_=>⟨λ_=>rfl,λ_=>⟨λ_=>rfl,λ_=>⟨M.toNat,by omega,t,ht,λ_=>rfl,λ_=>⟨M.toNat,by omega,t,ht,D.toNat,by omega,a,ha,λ_=>rfl,λh=>absurd h hk⟩⟩⟩⟩⟩⟩
    ·omega
  ·omega
 ·have hp':aR p=false:=by simpa using hp
  rw[gH,if_neg (λh=>hp h.1)];exact cn 0 _ _ _ _ ⟨_,iF p (by omega),λ_=>rfl,λh=>absurd h hp⟩
def Gb(B:Nat)(x:Tree×Int):Prop:=∃(n:Nat) (k:Int),x.1=bF n (.node k [] [] [])∧k≠8∧k≠9∧(x.2=0→5≤k∧k≤7)∧n≤B
theorem Fl{e:Int}(G:e≠0):Gb B (pQ,e):=⟨0,0,rfl,by decide,by decide,λh=>absurd h G,Nat.zero_le _⟩
theorem Aj{p:List Tree}(hp:aR p=true){B:Nat}:∀(f:Nat) (seen:List (Int×Int)) (n:Nat) (M:Int) (u:Tree),mx p seen→kbulk p+1≤f+seen.length→tyK u→u.kind≠8→n≤B+iA (qB p) seen→Gb (B+kbulk p) (dC p f seen n M u)
 |0,seen,n,M,u,hs,hf,_,_,_=>by
  have :=mq hs;omega
 | f +1,seen,n,M,u,hs,hf,hu,h8,hn=>by
  have hss:=yA hs;by_cases h9:u.kind=9
  ·rw[dC,if_pos h9];by_cases hfd:(aT p M u.text).2.2=false
   ·rw[if_pos hfd];exact Fl (by decide)
   ·rw[if_neg hfd];have hfd':(aT p M u.text).2.2=true:=by simpa using hfd
    obtain⟨i,d,t,a,b',g1,g2,g3,g4,g5,g6,g7⟩:=oF hp h9 hu.1 hfd';rw[g1,g2];by_cases hm:((i:Int),(d:Int))∈seen
    ·rw[if_pos hm];exact Fl (by decide)
    ·rw[if_neg hm];have hal:=pu g3 g4 g6;rw[hal];obtain⟨t1,t2,_⟩:=kw b' g7;exact Aj hp f (((i:Int),(d:Int))::seen) (n+lisK b') i (leafK b') (lH hs g3 g4 hm) (by simp only[List.length_cons];omega) t1 t2 (by simp only[iA,qB,hal];omega)
  ·rw[dC,if_neg h9];have :=hu.2;have hk:5≤u.kind∧u.kind≤9:=by simpa[fX]using hu.2
   exact⟨n,u.kind,rfl,h8,h9,λ_=>by omega,by omega⟩
theorem Jy(p:List Tree)(M:Int)(t:Tree):Gb (tbulk t+kbulk p) (mK p M t):=by
 unfold mK;split
 ·rename_i G;obtain⟨J,O,_⟩:=kw t ⟨G.2.2.2.2,G.2.2.2.1⟩;obtain⟨U,Z⟩:=jJ t;exact Aj G.1 _ _ _ _ _ ⟨List.nodup_nil,λx h=>by cases h⟩ (by simp) J O (by simp only[iA];omega)
 ·exact Fl (by decide)
def noG:ak:=⟨[],⟨0,0⟩⟩
theorem um{l:List Tree}(h:l[i]?=some u):kbulk (l.drop i)=tbulk u+kbulk (l.drop (i+1)):=by rw[aJ h,kbulk]
theorem wl{l:List Tree}(h:l[i]?=some u):uNs (l.drop i)=uN u+uNs (l.drop (i+1)):=by rw[aJ h,uNs]
mutual
theorem tgs_uN(p:List Tree)(m:Int):∀(t:Tree) (q:List Int),(aO p m (nodK t q)).length=uN t
 | .node k w ls ks,q=>by
  simp only[nodK,aO,List.length_append,uN,tgs_uNs p m ks q 0,cP,Tree.kind];by_cases h:k=16∨k=9
  ·have h':(k==16||k==9)=true:=by simpa using h
   simp only[h',if_pos h,if_true,List.length_cons,List.length_nil,Nat.zero_add]
  ·have h':(k==16||k==9)=false:=by simpa using h
   simp only[h',if_neg h,Bool.false_eq_true,if_false,List.length_nil]
theorem tgs_uNs(p:List Tree)(m:Int):∀(l:List Tree) (q:List Int) (i:Nat),(aO p m (nodKs l q i)).length=uNs l
 |[],q,i=>by simp[nodKs,aO,uNs]
 |t::r,q,i=>by simp only[nodKs,kO,List.length_append,uNs,tgs_uN p m t,tgs_uNs p m r]
end
theorem CH(p:List Tree):∀(l:List Tree) (i:Nat),(eP p i l).length=uNs l
 |[],i=>rfl
 |t::r,i=>by simp only[eP,List.length_append,uNs,tgs_uN,CH p r]
theorem LB(ht:tyK t)(hb:tbulk t≤1000000000):kx t (leafK t) (lisK t:Nat):=by
 have loop:∀t,tyK t→∀i,i+tbulk t≤2000000000→jH (lisK t+1) t i (leafK t) ((i+lisK t:Nat):Int):=eY λt ih h i hi=>by
  rcases kp h with⟨G,_,u,hu,J⟩|⟨G,hk,_⟩
  ·obtain⟨O,U⟩:=oa G hu;have Z:t.kids[0]?=some u:=by rw[hu];rfl
   have :=ax Z;rw[O,U];refine lm (lisK u+1) _ _ _ _ (⟨λ_=>⟨u,Z,by omega,?_⟩,λh=>absurd G h⟩);rw[show i+(lisK u+1)=i+1+lisK u by omega];exact ih 0 u Z J (i+1) (by omega)
  ·obtain⟨O,U⟩:=iQ G;rw[O,U];exact lm 0 _ _ _ _ (⟨λh=>absurd h G,λ_=>⟨rfl,rfl⟩⟩)
 have :=loop t ht 0 (by omega);rw[Nat.zero_add]at this;exact sQ (lisK t+1) _ _ _ (this)
theorem vT(n:Nat)(t:Tree):(bF (n+1) t).kind=8∧(bF (n+1) t).kids=[bF n t]:=⟨rfl,rfl⟩
theorem zu{k:Int}(G:k≠8):∀n,leafK (bF n (.node k [] [] []))=.node k [] [] []∧lisK (bF n (.node k [] [] []))=n
 |0=>iQ G
 |n+1=>by
  obtain⟨J,O⟩:=oa (vT n (.node k [] [] [])).1 (vT n (.node k [] [] [])).2;obtain⟨U,Z⟩:=zu G n;rw[J,O,U,Z];exact⟨rfl,rfl⟩
theorem JE{k:Int}(G:k≠8)(n:Nat)(J:n≤1000000000):kx (bF n (.node k [] [] [])) (.node k [] [] []) (n:Nat):=by
 have loop:∀j i,i+j≤1000000000→jH (j+1) (bF j (.node k [] [] [])) i (.node k [] [] []) ((i+j:Nat):Int):=λj=>by
  induction j with
  |zero=>intro i hi;exact lm 0 _ _ _ _ (⟨λh=>absurd h G,λ_=>⟨rfl,rfl⟩⟩)
  |succ j ih=>
   intro i hi;refine lm (j+1) _ _ _ _ (⟨λ_=>⟨bF j (.node k [] [] []),rfl,by omega,?_⟩,λh=>absurd (vT j (.node k [] [] [])).1 h⟩);rw[show i+(j+1)=i+1+j by omega];exact ih (i+1) (by omega)
 have :=loop n 0 (by omega);rw[Nat.zero_add]at this;exact sQ (n+1) _ _ _ (this)
def knK(t:Tree):Kn:=⟨(leafK t).kind,(lisK t:Nat)⟩
def nmK(p:List Tree)(m:Int)(w:List UInt8):Kn:=if(mK p m (.node 9 w [] [])).2=0 then knK (mK p m (.node 9 w [] [])).1 else⟨0,0⟩
def tyN(p:List Tree)(m:Int)(t:Tree):Kn:=if(leafK t).kind=9 then(if(nmK p m (leafK t).text).simple=0 then nmK p m (leafK t).text else⟨(nmK p m (leafK t).text).simple,(nmK p m (leafK t).text).lists+(lisK t:Nat)⟩)else knK t
theorem CG(O:tyK u)(J:u.kind=9):mK p m u=mK p m (.node 9 u.text [] []):=by
 obtain⟨k,w,ls,ks⟩:=u;simp only[Tree.kind]at J;subst J;have G:ks=[]:=by
  rcases kp O with⟨U,_⟩|⟨_,G,_⟩
  ·simp[Tree.kind]at U
  ·exact G
 subst G;unfold mK;have Z:leafK (.node 9 w ls [])=.node 9 w ls []:=(iQ (by simp[Tree.kind])).1;have e2:leafK (.node 9 w [] [])=.node 9 w [] []:=(iQ (by simp[Tree.kind])).1;have e3:lisK (.node 9 w ls [])=0:=(iQ (by simp[Tree.kind])).2;have e4:lisK (.node 9 w [] [])=0:=(iQ (by simp[Tree.kind])).2;simp only[Tree.text,Z,e2,e3,e4,Tree.kind,shapeK,dC]
theorem zC(p:List Tree)(m:Int)(w:List UInt8):0≤(nmK p m w).lists∧(nmK p m w).lists≤((w.length+1+kbulk p:Nat):Int)∧((mK p m (.node 9 w [] [])).2=0→∃(n:Nat) (k:Int),(mK p m (.node 9 w [] [])).1=bF n (.node k [] [] [])∧5≤k∧k≤7∧nmK p m w=⟨k,(n:Int)⟩∧n≤w.length+1+kbulk p):=by
 obtain⟨n,k,h1,h2,h3,J,O⟩:=Jy p m (.node 9 w [] []);have hb:tbulk (.node 9 w [] [])=w.length+1:=by simp[tbulk,kbulk,po]
 rw[hb]at O;unfold nmK;by_cases G:(mK p m (.node 9 w [] [])).2=0
 ·obtain⟨U,Z⟩:=zu h2 n;rw[if_pos G,h1];have e:knK (bF n (.node k [] [] []))=⟨k,(n:Int)⟩:=by unfold knK;rw[U,Z];rfl
  rw[e];exact⟨by simp,by simp only;omega,λ_=>⟨n,k,rfl,(J G).1,(J G).2,rfl,by omega⟩⟩
 ·rw[if_neg G];exact⟨Int.le_refl _,by simp only;omega,λh=>absurd h G⟩
def nq(p:List Tree)(nm:List ((Int×List UInt8)×aa)):Prop:=∀m w k,aC (m,w) nm=some k→k=nmK p m w
theorem nq.put{nm:List ((Int×List UInt8)×aa)}(h:nq p nm)(m:Int)(w:List UInt8):nq p (bI (m,w) (nmK p m w) nm):=λJ w' k G=>by
 rw[iK]at G;split at G
 ·rename_i e;simp only[Prod.mk.injEq]at e;obtain⟨rfl,rfl⟩:=e;injection G with G;exact G.symm
 ·exact h J w' k G
theorem Dn{c:CKr}(hc:c.p=p)(hb:kbulk p≤10000000)(hn:nq p c.names)(m:Int)(ht:tyK t)(hbt:tbulk t≤10000000):∃nm,nq p nm∧ga c m t (tyN p m t) {c with names:=nm}:=by
 obtain⟨l1,l2,_⟩:=kw t ht;obtain⟨b1,b2⟩:=jJ t;have hs:=LB ht (by omega);by_cases h9:(leafK t).kind=9
 ·obtain⟨f1,f2,f3⟩:=zC p m (leafK t).text;have hw:=iT (leafK t);have hx:=CG (p:=p) (m:=m) l1 h9;cases hl:aC (m,(leafK t).text) c.names with
  |some k=>
   have hk:=hn _ _ _ hl;subst hk;refine⟨c.names,hn,jd 1 _ _ _ _ _ (⟨_,_,hs,λh=>absurd h9 h,λ_=>⟨λh=>(by rw[hl]at h;cases h),λd h=>?_⟩⟩)⟩;rw[hl]at h;injection h with h;subst h
   refine mc 0 _ _ _ _ _ _ _ _ _ (⟨λh=>(by cases h),λ_=>⟨λhz=>⟨⟨by omega,by omega⟩,?_,rfl⟩,λhz=>⟨?_,rfl⟩⟩⟩)
   ·unfold tyN;rw[if_pos h9,if_neg hz]
   ·unfold tyN;rw[if_pos h9,if_pos hz]
  | none=>
   have he:=Jf hb m (t:=leafK t) (by omega);rw[hx]at he;refine⟨bI (m,(leafK t).text) (nmK p m (leafK t).text) c.names,hn.put m _,jd 2 _ _ _ _ _ (⟨_,_,hs,λh=>absurd h9 h,λ_=>⟨λ_=>?_,λd h=>(by rw[hl]at h;cases h)⟩⟩)⟩;refine mc 1 _ _ _ _ _ _ _ _ _ (⟨λ_=>⟨_,_,by rw[hc];exact he,?_⟩,λh=>(by cases h)⟩);refine rc 0 _ _ _ _ _ _ _ _ _ _ (⟨λh0=>?_,λh0=>⟨λh=>absurd rfl h,λ_=>?_⟩⟩)
   ·obtain⟨n,k,g1,g2,g3,g4,g5⟩:=f3 h0;rw[g1];refine⟨_,_,JE (by omega) n (by omega),λhz=>⟨⟨by omega,by omega⟩,?_,?_⟩,λhz=>absurd hz (by simp only[Tree.kind];omega)⟩
    ·unfold tyN;rw[if_pos h9,g4,if_neg (by simp only;omega)];rfl
    ·rw[g4];rfl
   ·have e:nmK p m (leafK t).text=⟨0,0⟩:=by unfold nmK;rw[if_neg h0]
    rw[e];refine⟨?_,rfl⟩;unfold tyN;rw[if_pos h9,e,if_pos rfl]
 ·exact⟨c.names,hn,jd 0 _ _ _ _ _ (⟨_,_,hs,λ_=>⟨by unfold tyN;rw[if_neg h9];rfl,rfl⟩,λh=>absurd h h9⟩)⟩
def dr(p:List Tree)(m:Int)(f:Tree):ak:=⟨(f.kids.take (f.kids.length-2)).map λk=>tyN p m (bz k 0),tyN p m (bz f (f.kids.length-2))⟩
theorem Na{c:CKr}(hc:c.p=p)(hb:kbulk p≤10000000)(hn:nq p c.names)(m:Int)(hs:shapeK f=true)(h2:f.kind=2)(hbf:tbulk f≤10000000):∃nm,nq p nm∧kv c m f (dr p m f) {c with names:=nm}:=by
 obtain⟨s1,s2,s3,_⟩:=mw hs h2;have hkl:=bN f;obtain⟨n,hnn⟩:∃n,n+2=f.kids.length:=⟨f.kids.length-2,by omega⟩;have hlt:(f.kids.take n).length=n:=by rw[List.length_take];omega
 obtain⟨r,hr⟩:∃r,f.kids[n]?=some r:=⟨_,List.getElem?_eq_getElem (by omega)⟩;have hrt:=s3 r (by rw[show f.kids.length-2=n by omega];exact hr);have hkr:bz f (f.kids.length-2)=r:=by rw[show f.kids.length-2=n by omega];exact dl hr
 have hbr:=ax hr;have loop:∀(k i:Nat) (c:CKr),c.p=p→nq p c.names→k+i=n→∃nm,nq p nm∧gD (k+1) m f n c ((f.kids.take i).map λk=>tyN p m (bz k 0)) i ⟨(f.kids.take n).map λk=>tyN p m (bz k 0),tyN p m r⟩ {c with names:=nm}:=λk=>by
  induction k with
  |zero=>
   intro i c hc hn hi;have e:i=n:=by omega
   subst e;obtain⟨nm,g1,g2⟩:=Dn hc hb hn m hrt (by omega);exact⟨nm,g1,mV 0 _ _ _ _ _ _ _ _ (⟨λh=>absurd h (by rw[hlt];omega),λ_=>⟨i,by omega,r,hr,_,_,g2,rfl,rfl⟩⟩)⟩
  | succ k ih=>
   intro i c hc hn hi;obtain⟨u,hu⟩:∃u,f.kids[i]?=some u:=⟨_,List.getElem?_eq_getElem (by omega)⟩;obtain⟨v,hv4,hv,hvt⟩:=s2 i u hu (by omega);have hv0:u.kids[0]?=some v:=by rw[hv];rfl
   have hb1:=ax hu;have hb2:=ax hv0;obtain⟨nm,g1,g2⟩:=Dn hc hb hn m hvt (by omega);obtain⟨nm',g3,g4⟩:=ih (i+1) {c with names:=nm} hc g1 (by omega);have e:((f.kids.take i).map λk=>tyN p m (bz k 0))++[tyN p m v]=(f.kids.take (i+1)).map λk=>tyN p m (bz k 0):=by
    rw[List.take_add_one,hu,List.map_append];simp[dl hv0]
   exact⟨nm',g3,mV (k+1) _ _ _ _ _ _ _ _ (⟨λ_=>⟨u,by rw[List.getElem?_take,if_pos (by omega)];exact hu,v,hv0,_,_,g2,by rw[e];simp;omega,by omega,by rw[e];exact g4⟩,λh=>absurd (by rw[hlt];omega) h⟩)⟩
 obtain⟨nm,g1,g2⟩:=loop n 0 c hc hn (by omega);refine⟨nm,g1,tK (n+1) _ _ _ _ _ (⟨n,by omega,by omega,?_⟩)⟩;unfold dr;rw[hkr,show f.kids.length-2=n by omega];simpa using g2
def sgD(p:List Tree)(m:Int):List Tree→Nat→List ((Int×Int)×ak)→List ((Int×Int)×ak)
 |[],_,l=>l
 |f::r,d,l=>sgD p m r (d+1) (if f.kind=2 then bI (m,(d:Int)) (dr p m f) l else l)
def sgM(p:List Tree):List Tree→Nat→List ((Int×Int)×ak)→List ((Int×Int)×ak)
 |[],_,l=>l
 |t::r,m,l=>sgM p r (m+1) (sgD p (m:Int) t.kids 0 l)
theorem Bz{p:List Tree}{t:Tree}{m:Nat}(hm:m≤1000000000)(hb:kbulk p≤10000000)(hok:∀(d:Nat) (f:Tree),t.kids[d]?=some f→shapeK f=true)(hbt:tbulk t≤10000000):∀(k d:Nat) (c:CKr),c.p=p→nq p c.names→k+d=t.kids.length→∃nm,nq p nm∧∀M r,fN M p (m+1) {c with names:=nm,signatures:=sgD p (m:Int) (t.kids.drop d) d c.signatures} r→∃M',fT M' p t d c m m r
 |0,d,c,hc,hn,hk=>by
  have hd:t.kids.drop d=[]:=List.drop_of_length_le (by omega);rw[hd];exact⟨c.names,hn,λM r h=>⟨M+1,kq M _ _ _ _ _ _ _ (⟨λh=>absurd h (by omega),λ_=>⟨by omega,h⟩⟩)⟩⟩
 | k+1,d,c,hc,hn,hk=>by
  have hlt:d<t.kids.length:=by omega
  have hkl:=bN t;obtain⟨f,hf⟩:∃f,t.kids[d]?=some f:=⟨_,dn hlt⟩;have hbf:=ax hf;rw[aJ hf,sgD];by_cases h2:f.kind=2
  ·obtain⟨nm,g1,g2⟩:=Na hc hb hn (m:Int) (hok d f hf) h2 (by omega);obtain⟨nm',g3,g4⟩:=Bz (m:=m) hm hb hok hbt k (d+1) {c with names:=nm,signatures:=bI ((m:Int),(d:Int)) (dr p m f) c.signatures} hc g1 (by omega);rw[if_pos h2];refine⟨nm',g3,λM r h=>?_⟩;obtain⟨M',hM⟩:=g4 M r h;exact⟨M'+2,kq (M'+1) _ _ _ _ _ _ _ (⟨λ_=>⟨f,hf,λ_=>⟨_,_,g2,tU M' _ _ _ _ _ _ _ (⟨by omega,hM⟩)⟩,λh=>absurd h2 h⟩,λh=>absurd hlt h⟩)⟩
  ·obtain⟨nm',g3,g4⟩:=Bz (m:=m) hm hb hok hbt k (d+1) c hc hn (by omega);rw[if_neg h2];refine⟨nm',g3,λM r h=>?_⟩;obtain⟨M',hM⟩:=g4 M r h;exact⟨M'+1,kq M' _ _ _ _ _ _ _ (⟨λ_=>⟨f,hf,λh=>absurd h h2,λ_=>⟨by omega,hM⟩⟩,λh=>absurd hlt h⟩)⟩
theorem HV{p:List Tree}(G:∀(m:Nat) (t:Tree) (d:Nat) (f:Tree),p[m]?=some t→t.kids[d]?=some f→shapeK f=true)(hb:kbulk p≤10000000):∀(k m:Nat) (c:CKr),c.p=p→nq p c.names→k+m=p.length→∃nm,nq p nm∧∃M,fN M p m c {c with names:=nm,signatures:=sgM p (p.drop m) m c.signatures}
 |0,m,c,O,U,Z=>by
  have hd:p.drop m=[]:=List.drop_of_length_le (by omega);rw[hd];exact⟨c.names,U,1,nV 0 _ _ _ _ (⟨λh=>absurd h (by omega),λ_=>rfl⟩)⟩
 |k+1,m,c,O,U,Z=>by
  have J:m<p.length:=by omega
  obtain⟨t,ht⟩:∃t,p[m]?=some t:=⟨_,List.getElem?_eq_getElem J⟩;have hbt:=aY ht;have hl:=ej p;rw[aJ ht,sgM];obtain⟨nm,g1,g2⟩:=Bz (p:=p) (t:=t) (m:=m) (by omega) hb (λd f hf=>G m t d f ht hf) (by omega) t.kids.length 0 c O U (by omega);obtain⟨nm',g3,M,g4⟩:=HV G hb k (m+1) {c with names:=nm,signatures:=sgD p (m:Int) t.kids 0 c.signatures} O g1 (by omega);obtain⟨M',hM⟩:=g2 M _ (by simpa using g4);exact⟨nm',g3,M'+1,nV M' _ _ _ _ (⟨λ_=>⟨t,ht,hM⟩,λh=>absurd J h⟩)⟩
theorem Aw(J:aR p=true):∀(m:Nat) (t:Tree) (d:Nat) (f:Tree),p[m]?=some t→t.kids[d]?=some f→shapeK f=true:=λm t d f h1 h2=>by
 have G:=(dm J h1).2;rw[bV,Bool.and_eq_true]at G;exact(dx G.2 h2).2
def cxN(p:List Tree)(nm:List ((Int×List UInt8)×aa))(wm:Int)(wp:List Int):Cx:=⟨p,nm,sgM p p 0 [],0,[],wm,wp⟩
theorem sa(G:aR p=true)(hb:kbulk p≤10000000):∃nm,nq p nm∧jn p (mkC (cxN p nm 0 []) ⟨bo p,[],0,0⟩):=by
 obtain⟨nm,h1,M,h2⟩:=HV (Aw G) hb p.length 0 (CKr.mk p (bo p) [] [] 0 [] [] 0 [] 0 0) rfl (λm w k h=>by cases h) (by omega);exact⟨nm,h1,uM M _ _ (⟨_,Ai p (by omega),h2⟩)⟩
theorem uC(p:List Tree)(m:Nat)(key:Int×Int):∀(ks:List Tree) (d:Nat) (l:List ((Int×Int)×ak)),aC key (sgD p (m:Int) ks d l)=(if key.1=(m:Int)∧(d:Int)≤key.2∧key.2<((d+ks.length:Nat):Int)then(match ks[(key.2-(d:Int)).toNat]? with|some f=>if f.kind=2 then some (dr p m f)else aC key l|none=>aC key l)else aC key l)
 |[],d,l=>by
  rw[sgD,if_neg];rintro⟨_,h1,h2⟩;simp only[List.length_nil]at h2;omega
 | f ::r,d,l=>by
  obtain⟨k1,k2⟩:=key;rw[sgD,uC p m (k1,k2) r (d+1) _];by_cases h1:k1=(m:Int)
  ·by_cases h2:k2=(d:Int)
   ·subst h1 h2;obtain⟨l',hl'⟩:∃l',l'=(if f.kind=2 then bI ((m:Int),(d:Int)) (dr p m f) l else l):=⟨_,rfl⟩;rw[←hl',if_neg (by simp only;omega)];have hc:((m:Int)=(m:Int)∧(d:Int)≤(d:Int)∧(d:Int)<((d+(f::r).length:Nat):Int)):=⟨rfl,Int.le_refl _,by simp;omega⟩;have hg:(f::r)[((d:Int)-(d:Int)).toNat]?=some f:=by simp
    by_cases hf:f.kind=2
    ·rw[if_pos hf]at hl';simp only[hg,if_pos hf];rw[if_pos ⟨trivial,hc.2⟩,hl',iK,if_pos rfl]
    ·rw[if_neg hf]at hl';simp only[hg,if_neg hf];rw[if_pos ⟨trivial,hc.2⟩,hl']
   ·have hne:aC (k1,k2) (if f.kind=2 then bI ((m:Int),(d:Int)) (dr p m f) l else l)=aC (k1,k2) l:=by
     split
     ·rw[iK,if_neg (λe=>h2 (by simpa using(Prod.mk.inj e).2))]
     ·rfl
    rw[hne];by_cases h3:(d:Int)<k2∧k2<((d+1+r.length:Nat):Int)
    ·rw[if_pos ⟨h1,by simp only;omega,h3.2⟩,if_pos ⟨h1,by simp only;omega,by simp;omega⟩];simp only;rw[show(k2-(d:Int)).toNat=(k2-((d+1:Nat):Int)).toNat+1 by omega,List.getElem?_cons_succ]
    ·rw[if_neg (λh=>h3 ⟨by have :=h.2.1;simp only at this;omega,h.2.2⟩),if_neg (λh=>h3 ⟨by have :=h.2.1;simp only at this;omega,by have :=h.2.2;simp at this;omega⟩)]
  ·have hne:aC (k1,k2) (if f.kind=2 then bI ((m:Int),(d:Int)) (dr p m f) l else l)=aC (k1,k2) l:=by
    split
    ·rw[iK,if_neg (λe=>h1 (by simpa using(Prod.mk.inj e).1))]
    ·rfl
   rw[hne,if_neg (λh=>h1 h.1),if_neg (λh=>h1 h.1)]
theorem yv{P:List Tree}(key:Int×Int):∀(p:List Tree) (m:Nat) (l:List ((Int×Int)×ak)) (q:ak),aC key (sgM P p m l)=some q→(∃(i:Nat) (t:Tree) (d:Nat) (f:Tree),p[i]?=some t∧t.kids[d]?=some f∧f.kind=2∧key=(((m+i:Nat):Int),(d:Int))∧q=dr P ((m+i:Nat):Int) f)∨aC key l=some q
 |[],m,l,q,h=>.inr h
 | t ::r,m,l,q,h=>by
  rw[sgM]at h;rcases yv key r (m+1) _ q h with⟨i,t',d,f,h1,h2,h0,h3,h4⟩|h
  ·exact .inl ⟨i+1,t',d,f,h1,h2,h0,by rw[h3,show m+1+i=m+(i+1) by omega],by rw[h4,show m+1+i=m+(i+1) by omega]⟩
  ·rw [uC]at h;split at h
   ·rename_i hc;split at h
    ·rename_i f hf;split at h
     ·rename_i h0;injection h with h;subst h
      obtain⟨k1,k2⟩:=key;simp only at hc hf;exact .inl ⟨0,t,(k2-((0:Nat):Int)).toNat,f,rfl,hf,h0,by simp only[Prod.mk.injEq];omega,rfl⟩
     ·exact .inr h
    ·exact .inr h
   ·exact .inr h
theorem Bs{P:List Tree}{key:Int×Int}:∀(r:List Tree) (m:Nat) (l:List ((Int×Int)×ak)),key.1<(m:Int)→aC key (sgM P r m l)=aC key l
 |[],_,_,_=>rfl
 |t::r,m,l,h=>by rw[sgM,Bs r (m+1) _ (by omega),uC,if_neg (λh'=>by have :=h'.1;omega)]
theorem rz{P:List Tree}{key:Int×Int}:∀(p:List Tree) (m i d:Nat) (l:List ((Int×Int)×ak)) (t f:Tree),p[i]?=some t→t.kids[d]?=some f→f.kind=2→key=(((m+i:Nat):Int),(d:Int))→aC key (sgM P p m l)=some (dr P ((m+i:Nat):Int) f)
 |[],m,i,d,l,t,f,h,_,_,_=>by simp at h
 |t0::r,m,0,d,l,t,f,h1,h2,J,G=>by
  simp only[List.getElem?_cons_zero,Option.some.injEq]at h1;subst h1;have O:=(List.getElem?_eq_some_iff.1 h2).1;rw[sgM,Bs r (m+1) _ (by rw[G];simp only;omega),uC,if_pos (by rw[G];simp only;omega),G];simp only;rw[show((d:Int)-((0:Nat):Int)).toNat=d by omega,h2];simp only[J,if_true];rfl
 |t0::r,m,i+1,d,l,t,f,h1,h2,J,G=>by
  rw[sgM];have :=rz (P:=P) (key:=key) r (m+1) i d (sgD P (m:Int) t0.kids 0 l) t f (by simpa using h1) h2 J (by rw[G,show m+1+i=m+(i+1) by omega]);rw[this,show m+1+i=m+(i+1) by omega]
theorem Kl(hb:tbulk t≤B):KOk (2*B+kbulk p+2) (tyN p m t):=by
 obtain⟨J,O⟩:=jJ t;have U:=iT (leafK t);obtain⟨G,Z,_⟩:=zC p m (leafK t).text;unfold tyN;split
 ·split
  ·exact⟨G,by omega⟩
  ·exact⟨by simp only;omega,by simp only;omega⟩
 ·exact⟨by simp[knK],by simp only[knK];omega⟩
theorem pV(t:Tree)(i:Nat):tbulk (bz t i)≤tbulk t:=by
 by_cases h:i<t.kids.length
 ·have :=ax (dn h);omega
 ·have G:bz t i=.node 0 [] [] []:=by simp only[bz,List.getD_eq_getElem?_getD,List.getElem?_eq_none (Nat.le_of_not_lt h)];rfl
  have h1:=bN t;rw[G];simp[tbulk,kbulk,po];omega
theorem vU(hb:tbulk f≤B):KOk (2*B+kbulk p+2) (dr p m f).result∧∀q∈(dr p m f).params,KOk (2*B+kbulk p+2) q:=by
 refine⟨Kl (Nat.le_trans (pV f _) hb),λq J=>?_⟩;obtain⟨k,O,rfl⟩:=List.mem_map.1 J;have G:=List.mem_of_mem_take O;obtain⟨i,hi⟩:=List.getElem?_of_mem G;have :=ax hi;exact Kl (by have :=pV k 0;omega)
def Cx.md(x:Cx)(m:Int):Cx:={x with mo:=m}
def qt(x:Cx)(d:Nat)(f:Tree)(s:Sv):Sv:=dD (tbulk f) (x.go ((0:Nat):Int)) (bz f 0) (if gH x.p x.mo (d:Int)=true then faP x 5 [] s else s)
def dR(x:Cx)(d:Nat)(f:Tree)(s:Sv):Sv:=if f.kind=2 then funS (x.go (d:Int)) f ((aC (x.mo,(d:Int)) x.sg).getD noG) s else qt (x.go (d:Int)) d f s
def cQ(x:Cx):List Tree→Nat→Sv→Sv
 |[],_,s=>s
 |f::r,d,s=>cQ x r (d+1) (dR x d f s)
def dI(x:Cx):List Tree→Nat→Sv→Sv
 |[],_,s=>s
 |t::r,m,s=>dI x r (m+1) (cQ (x.md (m:Int)) t.kids 0 s)
def moF(z:Int):List Tree→Nat→Int
 |[],_=>z
 |_::r,m=>moF (m:Int) r (m+1)
structure DefOk (sg:List ((Int×Int)×ak)) (L:Nat) (m d:Nat) (f:Tree):Prop where
 s:shapeK f=true
 k:f.kind=2→∃g,aC ((m:Int),(d:Int)) sg=some g∧f.kids.length=g.params.length+2∧∀q∈g.params,KOk L q
 a:f.kind≠2→∃b,f.kids=[b]∧tyK b
theorem Hd{x:Cx}{P0:CKr}{t:Tree}{m L:Nat}(hx:x.mo=m)(hpb:kbulk x.p≤10000000)(hm:m≤1000000000)(hok:∀(d:Nat) (f:Tree),t.kids[d]?=some f→DefOk x.sg L m d f)(h16:∀(d:Nat) (f:Tree),t.kids[d]?=some f→f.kind=2∨f.kind=3)(hsg:∀k q,aC k x.sg=some q→KOk L q.result)(hkl:t.kids.length≤100000000):∀(k d:Nat) (s:Sv),k+d=t.kids.length→x.pa.length+kbulk (t.kids.drop d)+4≤100000000→s.fa.length+4*kbulk (t.kids.drop d)+1≤900000000→uNs (t.kids.drop d)≤s.tg.length→L+kbulk (t.kids.drop d)≤900000000→
  Sst (kbulk (t.kids.drop d)) (uNs (t.kids.drop d)) s (cQ x (t.kids.drop d) d s)∧∀(M:Nat) (q:CKr),(∀s1,s1=cQ x (t.kids.drop d) d s→fh M P0 (mkC x s1) (m+1) q)→∃M',ch M' P0 t (mkC x s) d m m q
 |0,d,s,hk,_,_,_,_=>by
  have hd:t.kids.drop d=[]:=List.drop_of_length_le (by omega);rw[hd];exact⟨⟨by simp[cQ,uNs],by simp[cQ]⟩,λM q h=>⟨M+1,jV M _ _ _ _ _ _ _ (⟨λh=>absurd h (by omega),λ_=>⟨by omega,h _ rfl⟩⟩)⟩⟩
 | k +1,d,s,hk,h1,h2,h3,h4=>by
  have hlt:d<t.kids.length:=by omega
  obtain⟨f,hf⟩:∃f,t.kids[d]?=some f:=⟨_,dn hlt⟩;obtain⟨o1,o2,o3⟩:=hok d f hf;have e1:=um hf;have e2:=wl hf;have hxm:∀z,(x.go z).mo=m:=λz=>hx;have eD:cQ x (t.kids.drop d) d s=cQ x (t.kids.drop (d+1)) (d+1) (dR x d f s):=by rw[aJ hf,cQ]
  rw[eD];have key:Sst (tbulk f) (uN f) s (dR x d f s)∧∀M q,ch M P0 t (mkC x (dR x d f s)) (d+1) m m q→∃M',ch M' P0 t (mkC x s) d m m q:=by
   by_cases h2':f.kind=2
   ·obtain⟨g,g1,g2,g3⟩:=o2 h2';have eF:dR x d f s=funS (x.go (d:Int)) f g s:=by unfold dR;rw[if_pos h2',hx,g1];rfl
    rw[eF];obtain⟨a1,a2⟩:=Fx (x:=x.go (d:Int)) (s:=s) (L:=L) (g:=g) o1 h2' g2 (by simp[Cx.go];omega) (by omega) (by omega) (by omega) g3 hsg;refine⟨a2,λM q h=>⟨M+2,jV (M+1) _ _ _ _ _ _ _ (⟨λ_=>⟨f,hf,_,kz (x:=x) (s:=s) (d:Int) (by omega),λ_=>⟨λh=>absurd (h.symm.trans g1) (by simp),λg' hg'=>?_⟩,λh=>absurd h2' h⟩,λh=>absurd hlt h⟩)⟩⟩;have hg'':aC ((m:Int),(d:Int)) x.sg=some g':=hg';rw[g1]at hg'';injection hg'' with hg''
    subst hg'';exact⟨_,a1,tw M _ _ _ _ _ _ _ (⟨_,jx (x:=x) (d:Int),by omega,h⟩)⟩
   ·obtain⟨b,hb,hty⟩:=o3 h2';have hb0:f.kids[0]?=some b:=by rw[hb];rfl
    have hbb:=ax hb0;have hf3:f.kind≠16∧f.kind≠9:=by rcases h16 d f hf with h|h<;>omega
    have hu:uN f=uN b:=by rw[fZ,if_neg (by omega),hb];simp[uNs]
    have hc:=DM hpb (m:Int) (d:Int);obtain⟨sf,hsf⟩:∃sf,sf=(if gH x.p (m:Int) (d:Int)=true then faP (x.go (d:Int)) 5 [] s else s):=⟨_,rfl⟩;have hsl:sf.fa.length≤s.fa.length+1∧sf.tg=s.tg:=by rw[hsf];split<;>simp[faP]
    have eA:dR x d f s=dD (tbulk f) ((x.go (d:Int)).go ((0:Nat):Int)) b sf:=by
     unfold dR qt;rw[if_neg h2',dl hb0,hxm,hsf];rfl
    rw[eA];obtain⟨a1,a2⟩:=zh (tbulk f) b (by omega) hty f 0 (x.go (d:Int)) sf hb0 (by simp[Cx.go];omega) (by omega) (by rw[hsl.2];omega);refine⟨⟨by rw[a2.tg,hsl.2,hu],by have :=a2.fa;omega⟩,λM q h=>⟨M+1,jV M _ _ _ _ _ _ _ (⟨λ_=>⟨f,hf,_,kz (x:=x) (s:=s) (d:Int) (by omega),λh=>absurd h h2',λ_=>⟨_,hc,λhcc=>?_,λhcc=>?_⟩⟩,λh=>absurd hlt h⟩)⟩⟩
    ·rw[if_pos hcc]at hsf;subst hsf;exact⟨_,eB (x:=x.go (d:Int)) (s:=s) 5 [] (by simp[Cx.go];omega) (by omega),_,a1,_,jx (x:=x) (d:Int),by omega,h⟩
    ·rw[if_neg (by rw[hcc];simp)]at hsf;subst hsf;exact⟨_,a1,_,jx (x:=x) (d:Int),by omega,h⟩
  obtain⟨k1,k2⟩:=key;generalize dR x d f s=s1 at k1 k2;have q1:=k1.fa;have q2:=k1.tg;obtain⟨b1,b2⟩:=Hd (P0:=P0) hx hpb hm hok h16 hsg hkl k (d+1) s1 (by omega) (by omega) (by omega) (by rw[q2,List.length_drop];omega) (by omega);refine⟨⟨by rw[b1.tg,q2,List.drop_drop,e2],by have :=b1.fa;omega⟩,λM q h=>?_⟩;obtain⟨M',hM⟩:=b2 M q h;exact k2 M' q hM
theorem Iy{x:Cx}{P0:CKr}{L:Nat}(hP0:P0.p=x.p)(hpb:kbulk x.p≤10000000)(hok:∀(m:Nat) (t:Tree) (d:Nat) (f:Tree),x.p[m]?=some t→t.kids[d]?=some f→DefOk x.sg L m d f∧(f.kind=2∨f.kind=3))(hsg:∀k q,aC k x.sg=some q→KOk L q.result):∀(k m:Nat) (z:Int) (s:Sv),k+m=x.p.length→x.pa.length+kbulk (x.p.drop m)+4≤100000000→s.fa.length+4*kbulk (x.p.drop m)+1≤900000000→(∀(m:Nat) (t:Tree),x.p[m]?=some t→t.kind=1)→uNs (x.p.drop m)≤s.tg.length→L+kbulk (x.p.drop m)≤900000000→
  Sst (kbulk (x.p.drop m)) (uNs (x.p.drop m)) s (dI x (x.p.drop m) m s)∧∃M,fh M P0 (mkC (x.md z) s) m (mkC (x.md (moF z (x.p.drop m) m)) (dI x (x.p.drop m) m s))
 |0,m,z,s,hk,_,_,_,_,_=>by
  have hd:x.p.drop m=[]:=List.drop_of_length_le (by omega);rw[hd];exact⟨⟨by simp[dI,uNs],by simp[dI]⟩,1,nt 0 _ _ _ _ (⟨λh=>absurd h (by rw[hP0];omega),λ_=>rfl⟩)⟩
 | k+1,m,z,s,hk,h1,h2,hk1,h3,h4=>by
  have hlt:m<x.p.length:=by omega
  obtain⟨t,ht⟩:∃t,x.p[m]?=some t:=⟨_,List.getElem?_eq_getElem hlt⟩;have e1:=um ht;have e2:=wl ht;have hB:=bp t;have hU:uN t=uNs t.kids:=by rw[fZ,hk1 m t ht];simp
  have hkl:=bN t;have hbt:=aY ht;have hlp:=ej x.p;obtain⟨a1,a2⟩:=Hd (x:=x.md (m:Int)) (P0:=P0) (t:=t) (m:=m) (L:=L) rfl hpb (by omega) (λd f hf=>(hok m t d f ht hf).1) (λd f hf=>(hok m t d f ht hf).2) hsg (by omega) t.kids.length 0 s (by omega) (by simp[Cx.md];omega) (by simp;omega) (by simp;omega) (by simp;omega);simp only[List.drop_zero]at a1 a2;have q1:=a1.fa;have q2:=a1.tg;obtain⟨s1,hs1⟩:∃s1,s1=cQ (x.md (m:Int)) t.kids 0 s:=⟨_,rfl⟩;rw[←hs1]at a1 q1 q2;obtain⟨b1,M,hM⟩:=Iy hP0 hpb hok hsg k (m+1) (m:Int) s1 (by omega) (by omega) (by omega) hk1 (by rw[q2,List.length_drop];omega) (by omega);have e:dI x (x.p.drop m) m s=dI x (x.p.drop (m+1)) (m+1) s1:=by rw[aJ ht,dI,←hs1]
  have e':moF z (x.p.drop m) m=moF (m:Int) (x.p.drop (m+1)) (m+1):=by rw[aJ ht,moF]
  rw[e,e'];obtain⟨M',hM'⟩:=a2 M (mkC (x.md (moF (m:Int) (x.p.drop (m+1)) (m+1))) (dI x (x.p.drop (m+1)) (m+1) s1)) λs2 hs2=>by
   rw[←hs1]at hs2;subst hs2;exact hM
  refine⟨⟨by rw[b1.tg,q2,List.drop_drop,e2,hU],by have :=b1.fa;omega⟩,M'+1,nt M' _ _ _ _ (⟨λ_=>⟨t,by rw[hP0];exact ht,hM'⟩,λh=>absurd (by rw[hP0];exact hlt) h⟩)⟩
def eX(p:List Tree)(nm:List ((Int×List UInt8)×aa))(wm:Int)(wp:List Int):Sv:=dI (cxN p nm wm wp) p 0 ⟨bo p,[],0,0⟩
theorem zM(O:aR p=true):∀(m:Nat) (t:Tree) (d:Nat) (f:Tree),p[m]?=some t→t.kids[d]?=some f→DefOk (sgM p p 0 []) (3*kbulk p+2) m d f∧(f.kind=2∨f.kind=3):=λm t d f h1 h2=>by
 have hs:=Aw O m t d f h1 h2;obtain⟨k1,Z⟩:=dm O h1;have hw:=nQ k1 Z h2;have hb1:=aY h1;have hb2:=ax h2;have G:f.kind=2∨f.kind=3:=by rcases hw with h|h;exact .inl h.1;exact .inr h.1
 refine⟨⟨hs,λJ=>?_,λJ=>oK O h1 h2 (by rcases G with h|h;exact absurd h J;exact h)⟩,G⟩;obtain⟨q1,_⟩:=mw hs J;have U:=rz (P:=p) (key:=((m:Int),(d:Int))) p 0 m d [] t f h1 h2 J (by simp);rw[Nat.zero_add]at U;refine⟨_,U,by simp[dr];omega,λq hq=>?_⟩;have :=(vU (p:=p) (m:=(m:Int)) (f:=f) (B:=kbulk p) (by omega)).2 q hq;exact this.mono (by omega)
theorem AY(G:aR p=true)(hb:kbulk p≤10000000)(nm:List ((Int×List UInt8)×aa))(wm:Int)(wp:List Int):Sst (kbulk p) (uNs p) ⟨bo p,[],0,0⟩ (eX p nm wm wp)∧∃z,iB (mkC (cxN p nm wm wp) ⟨bo p,[],0,0⟩) (mkC ((cxN p nm wm wp).md z) (eX p nm wm wp)):=by
 have ht:(bo p).length=uNs p:=by rw[bo,if_pos G,CH]
 obtain⟨J,M,O⟩:=Iy (x:=cxN p nm wm wp) (P0:=mkC (cxN p nm wm wp) ⟨bo p,[],0,0⟩) (L:=3*kbulk p+2) rfl hb (zM G) (λk q U=>by
  rcases yv k p 0 [] q U with⟨i,t,d,f,h1,h2,J,_,rfl⟩|h
  ·have Z:=aY h1;have hb2:=ax h2;exact(vU (B:=kbulk p) (by omega)).1.mono (by omega)
  ·cases h) p.length 0 0 ⟨bo p,[],0,0⟩ (by simp[cxN]) (by simp[cxN];omega) (by simp[cxN];omega) (λm t h=>(dm G h).1) (by simp[cxN];omega) (by simp[cxN];omega)
 exact⟨J,_,uh M _ _ (O)⟩
theorem oH(p:List Tree)(hb:kbulk p≤1000000000):li p (aR p):=by
 have J:=ej p;have loop:∀k i,k+i=p.length→jZ (k+1) p i (aR (p.drop i)):=λk=>by
  induction k with
  |zero=>
   intro i hi;have G:p.drop i=[]:=List.drop_of_length_le (by omega);rw[G];exact qf 0 _ _ _ (⟨λh=>absurd h (by omega),λ_=>rfl⟩)
  |succ k ih=>
   intro i hi;obtain⟨t,ht⟩:∃t,p[i]?=some t:=⟨_,List.getElem?_eq_getElem (by omega)⟩;have :=aY ht;rw[aJ ht,aR];refine qf (k+1) _ _ _ (⟨λ_=>⟨t,ht,λh=>by simp[h],λh=>⟨_,pC t (by omega),λh'=>by simp[h'],λh'=>⟨by omega,?_⟩⟩⟩,λh=>absurd (by omega) h⟩);have :=ih (i+1) (by omega);simpa[h,h']using this
 have :=loop p.length 0 (by omega);exact wW (p.length+1) _ _ (by simpa using this)
theorem ym(hb:kbulk p≤10000000):(aR p=false→fR p [])∧(aR p=true→∃nm,nq p nm∧∀r,ec (eX p nm 0 []).fa r→fR p r):=by
 have J:=oH p (by omega);refine⟨λG=>rM 0 _ _ (⟨_,J,λ_=>rfl,λh=>(by rw[G]at h;cases h)⟩),λG=>?_⟩;obtain⟨nm,h1,h2⟩:=sa G hb;obtain⟨_,z,O⟩:=AY G hb nm 0 [];exact⟨nm,h1,λr hs=>rM 0 _ _ (⟨_,J,λh=>(by rw[G]at h;cases h),λ_=>⟨_,h2,_,O,_,hs,rfl⟩⟩)⟩
end Go.Proofs.YtomplbgchbfjpaaGreatDoor
