/- Contracts of the functions that the law reaches, part 3. -/
import Derived.Test.YtehhanlhfdoiaaaGreatBs2
set_option linter.unusedVariables false
set_option linter.unusedSimpArgs false
namespace Go.Proofs.YtehhanlhfdoiaaaGreat
open _root_.Go.Proofs.Tryz
open Go.RowKit Lx
set_option maxRecDepth 100000
theorem qmm{P:Program}{f:FuncId}{a:Array Value}{w:World}{v:Ending}{Q:Ending->World->Prop}(h:Calls P f a w λe w'=>e=v∧w=w')(k:Q v w):Calls P f a w Q:=h.mono λe w' z=>by obtain⟨rfl,rfl⟩:=z;exact k
variable{w':World}
theorem qEx{w:World}(h:Ext w w':=by repeat (first|exact Ext.refl _|apply Ext.alloc|(refine Ext.setCell ?_ (aag _) _))):Ext w w':=h
variable{b:Bool}
theorem aX{a:Bool}(h:a=b):Ending.returned (.bool a)=.returned (.bool b):=by rw[h]
variable{a:Int}
theorem bw{k:IntKind}{b:Int}(h:a=b):Ending.returned (.int k a)=.returned (.int k b):=by rw[h]
theorem wQ(n m:Nat):((n:Int)==(m:Int))=(n==m):=by rw[Bool.eq_iff_iff];simp;omega
theorem dP(c:UInt8)(w:World):Calls prog 172 #[.int .u8 (c.toNat:Int)] w λe w'=>e=.returned (.bool<|cv c)∧w=w':=by
 go_enter func172,ntmps172
 go_wp2<;>(go_ret;go_light;refine⟨aX ?_,rfl⟩;(first|rw[Bool.eq_iff_iff]|skip);simp_all[cv]<;>omega)
theorem cc(c:UInt8)(w:World):Calls prog 208 #[.int .u8 (c.toNat:Int)] w λe w'=>e=.returned (.bool<|cv c)∧w=w':=by
 go_enter func208,ntmps208
 go_wp2<;>(go_ret;go_light;refine⟨aX ?_,rfl⟩;(first|rw[Bool.eq_iff_iff]|skip);simp_all[cv]<;>omega)
theorem dT(c:UInt8)(w:World):Calls prog 173 #[.int .u8 (c.toNat:Int)] w λe w'=>e=.returned (.bool<|upperB c)∧w=w':=by
 go_enter func173,ntmps173
 go_wp2<;>(go_ret;go_light;refine⟨aX ?_,rfl⟩;(first|rw[Bool.eq_iff_iff]|skip);simp_all[upperB]<;>omega)
theorem ba(c:UInt8)(w:World):Calls prog 209 #[.int .u8 (c.toNat:Int)] w λe w'=>e=.returned (.bool<|upperB c)∧w=w':=by
 go_enter func209,ntmps209
 go_wp2<;>(go_ret;go_light;refine⟨aX ?_,rfl⟩;(first|rw[Bool.eq_iff_iff]|skip);simp_all[upperB]<;>omega)
theorem dE(c:UInt8)(w:World):Calls prog 131 #[.int .u8 (c.toNat:Int)] w λe w'=>e=.returned (.bool<|bC c)∧w=w':=by
 go_enter func131,ntmps131
 go_wp2<;>(go_ret;go_light;refine⟨aX ?_,rfl⟩;(first|rw[Bool.eq_iff_iff]|skip);simp_all[bC]<;>omega)
theorem dh(c:UInt8)(w:World):Calls prog 207 #[.int .u8 (c.toNat:Int)] w λe w'=>e=.returned (.bool<|bC c)∧w=w':=by
 go_enter func207,ntmps207
 go_wp2<;>(go_ret;go_light;refine⟨aX ?_,rfl⟩;(first|rw[Bool.eq_iff_iff]|skip);simp_all[bC]<;>omega)
theorem fX(c:UInt8)(w:World):Calls prog 80 #[.int .u8 (c.toNat:Int)] w λe w'=>e=.returned (.bool<|bH c)∧w=w':=by
 go_enter func80,ntmps80
 go_wp2<;>(go_ret;go_light;refine⟨aX ?_,rfl⟩;(first|rw[Bool.eq_iff_iff]|skip);simp_all[bH]<;>omega)
theorem jx(c:UInt8)(w:World):Calls prog 191 #[.int .u8 (c.toNat:Int)] w λe w'=>e=.returned (.bool<|bH c)∧w=w':=by
 go_enter func191,ntmps191
 go_wp2<;>(go_ret;go_light;refine⟨aX ?_,rfl⟩;(first|rw[Bool.eq_iff_iff]|skip);simp_all[bH]<;>omega)
theorem bT(c:UInt8)(w:World):Calls prog 206 #[.int .u8 (c.toNat:Int)] w λe w'=>e=.returned (.bool<|dM c)∧w=w':=by
 go_enter func206,ntmps206
 go_wp2<;>(go_ret;go_light;refine⟨aX ?_,rfl⟩;(first|rw[Bool.eq_iff_iff]|skip);simp_all[dM]<;>omega)
theorem bv(c:UInt8)(w:World):Calls prog 129 #[.int .u8 (c.toNat:Int)] w λe w'=>e=.returned (.bool<|bo c)∧w=w':=by
 cases E:cv c<;>cases h1:upperB c
 all_goals
  go_enter func129,ntmps129
  go_wp2_with (first|(go_at_call 172;refine qmm (dP _ _) ?_)|(go_at_call 173;refine qmm (dT _ _) ?_))
  all_goals (go_ret;go_light;refine⟨aX ?_,rfl⟩;(first|(simp[bo,E,h1];done)|with_reducible exact wQ _ _|((first|rw[Bool.eq_iff_iff]|skip);simp_all[bo]<;>omega)))
theorem bb(c:UInt8)(w:World):Calls prog 81 #[.int .u8 (c.toNat:Int)] w λe w'=>e=.returned (.bool<|aT c)∧w=w':=by
 cases E:bH c
 all_goals
  go_enter func81,ntmps81
  go_wp2_with (first|(go_at_call 80;refine qmm (fX _ _) ?_))
  all_goals (go_ret;go_light;refine⟨aX ?_,rfl⟩;(first|(simp[aT,dM,bH,E];done)|with_reducible exact wQ _ _|((first|rw[Bool.eq_iff_iff]|skip);simp_all[aT,dM,bH]<;>omega)))
theorem bf(c:UInt8)(w:World):Calls prog 205 #[.int .u8 (c.toNat:Int)] w λe w'=>e=.returned (.bool<|aT c)∧w=w':=by
 cases E:bH c<;>cases h1:dM c
 all_goals
  go_enter func205,ntmps205
  go_wp2_with (first|(go_at_call 191;refine qmm (jx _ _) ?_)|(go_at_call 206;refine qmm (bT _ _) ?_))
  all_goals (go_ret;go_light;refine⟨aX ?_,rfl⟩;(first|(simp[aT,E,h1];done)|with_reducible exact wQ _ _|((first|rw[Bool.eq_iff_iff]|skip);simp_all[aT]<;>omega)))
theorem sg(c:UInt8)(w:World):Calls prog 218 #[.int .u8 (c.toNat:Int)] w λe w'=>e=.returned (.bool<|bm c)∧w=w':=by
 cases E:cv c<;>cases h1:upperB c<;>cases h2:bC c
 all_goals
  go_enter func218,ntmps218
  go_wp2_with (first|(go_at_call 208;refine qmm (cc _ _) ?_)|(go_at_call 209;refine qmm (ba _ _) ?_)|(go_at_call 207;refine qmm (dh _ _) ?_))
  all_goals (go_ret;go_light;refine⟨aX ?_,rfl⟩;(first|(simp[bm,bo,E,h1,h2];done)|with_reducible exact wQ _ _|((first|rw[Bool.eq_iff_iff]|skip);simp_all[bm,bo]<;>omega)))
theorem JU(w:World):Calls prog 175 #[.string ⟨([109,111,100,117,108,101]:YB).toArray⟩] w λe w'=>e=.returned (.bool true)∧w=w':=by
 go_enter func175,ntmps175
 go_wp2
 go_ret
 exact⟨I,I⟩
theorem Jp(w:World):Calls prog 175 #[.string ⟨([100,101,102]:YB).toArray⟩] w λe w'=>e=.returned (.bool true)∧w=w':=by
 go_enter func175,ntmps175
 go_wp2
 go_ret
 exact⟨I,I⟩
theorem Ix(w:World):Calls prog 175 #[.string ⟨([116,121,112,101]:YB).toArray⟩] w λe w'=>e=.returned (.bool true)∧w=w':=by
 go_enter func175,ntmps175
 go_wp2
 go_ret
 exact⟨I,I⟩
theorem ID(w:World):Calls prog 175 #[.string ⟨([108,101,116]:YB).toArray⟩] w λe w'=>e=.returned (.bool true)∧w=w':=by
 go_enter func175,ntmps175
 go_wp2
 go_ret
 exact⟨I,I⟩
theorem JF(w:World):Calls prog 175 #[.string ⟨([105,110]:YB).toArray⟩] w λe w'=>e=.returned (.bool true)∧w=w':=by
 go_enter func175,ntmps175
 go_wp2
 go_ret
 exact⟨I,I⟩
theorem Jn(w:World):Calls prog 175 #[.string ⟨([105,102]:YB).toArray⟩] w λe w'=>e=.returned (.bool true)∧w=w':=by
 go_enter func175,ntmps175
 go_wp2
 go_ret
 exact⟨I,I⟩
theorem JN(w:World):Calls prog 175 #[.string ⟨([116,104,101,110]:YB).toArray⟩] w λe w'=>e=.returned (.bool true)∧w=w':=by
 go_enter func175,ntmps175
 go_wp2
 go_ret
 exact⟨I,I⟩
theorem JD(w:World):Calls prog 175 #[.string ⟨([101,108,115,101]:YB).toArray⟩] w λe w'=>e=.returned (.bool true)∧w=w':=by
 go_enter func175,ntmps175
 go_wp2
 go_ret
 exact⟨I,I⟩
theorem JA(w:World):Calls prog 175 #[.string ⟨([116,114,117,101]:YB).toArray⟩] w λe w'=>e=.returned (.bool true)∧w=w':=by
 go_enter func175,ntmps175
 go_wp2
 go_ret
 exact⟨I,I⟩
theorem Ji(w:World):Calls prog 175 #[.string ⟨([102,97,108,115,101]:YB).toArray⟩] w λe w'=>e=.returned (.bool true)∧w=w':=by
 go_enter func175,ntmps175
 go_wp2
 go_ret
 exact⟨I,I⟩
theorem Gy(w:World):Calls prog 175 #[.string ⟨([73,110,116]:YB).toArray⟩] w λe w'=>e=.returned (.bool true)∧w=w':=by
 go_enter func175,ntmps175
 go_wp2
 go_ret
 exact⟨I,I⟩
theorem GI(w:World):Calls prog 175 #[.string ⟨([84,101,120,116]:YB).toArray⟩] w λe w'=>e=.returned (.bool true)∧w=w':=by
 go_enter func175,ntmps175
 go_wp2
 go_ret
 exact⟨I,I⟩
theorem Gz(w:World):Calls prog 175 #[.string ⟨([66,111,111,108]:YB).toArray⟩] w λe w'=>e=.returned (.bool true)∧w=w':=by
 go_enter func175,ntmps175
 go_wp2
 go_ret
 exact⟨I,I⟩
theorem GB(l:YB)(w:World)(U:(l==[109,111,100,117,108,101])=false)(Z:(l==[100,101,102])=false)(b2:(l==[116,121,112,101])=false)(b3:(l==[108,101,116])=false)(b4:(l==[105,110])=false)(b5:(l==[105,102])=false)(b6:(l==[116,104,101,110])=false)(b7:(l==[101,108,115,101])=false)(b8:(l==[116,114,117,101])=false)(b9:(l==[102,97,108,115,101])=false)(E:(l==[73,110,116])=false)(G:(l==[84,101,120,116])=false)(J:(l==[66,111,111,108])=false):Calls prog 175 #[.string ⟨l.toArray⟩] w λe w'=>e=.returned (.bool false)∧w=w':=by
 go_enter func175,ntmps175
 go_wp2
 go_ret
 exact⟨I,I⟩
theorem ca(l:YB)(w:World):Calls prog 175 #[.string ⟨l.toArray⟩] w λe w'=>e=.returned (.bool<|ke l)∧w=w':=by
 by_cases U:l=[109,111,100,117,108,101]
 ·subst U;exact JU w
 by_cases h1:l=[100,101,102]
 ·subst h1;exact Jp w
 by_cases h2:l=[116,121,112,101]
 ·subst h2;exact Ix w
 by_cases Z:l=[108,101,116]
 ·subst Z;exact ID w
 by_cases h4:l=[105,110]
 ·subst h4;exact JF w
 by_cases h5:l=[105,102]
 ·subst h5;exact Jn w
 by_cases h6:l=[116,104,101,110]
 ·subst h6;exact JN w
 by_cases h7:l=[101,108,115,101]
 ·subst h7;exact JD w
 by_cases h8:l=[116,114,117,101]
 ·subst h8;exact JA w
 by_cases h9:l=[102,97,108,115,101]
 ·subst h9;exact Ji w
 by_cases E:l=[73,110,116]
 ·subst E;exact Gy w
 by_cases G:l=[84,101,120,116]
 ·subst G;exact GI w
 by_cases J:l=[66,111,111,108]
 ·subst J;exact Gz w
 have hr:ke l=false:=by simp[ke,Jj,U,h1,h2,Z,h4,h5,h6,h7,h8,h9,E,G,J]
 rw[hr];exact GB l w (by simpa using U) (by simpa using h1) (by simpa using h2) (by simpa using Z) (by simpa using h4) (by simpa using h5) (by simpa using h6) (by simpa using h7) (by simpa using h8) (by simpa using h9) (by simpa using E) (by simpa using G) (by simpa using J)
theorem Jm(w:World):Calls prog 217 #[.string ⟨([109,111,100,117,108,101]:YB).toArray⟩] w λe w'=>e=.returned (.bool true)∧w=w':=by
 go_enter func217,ntmps217
 go_wp2
 go_ret
 exact⟨I,I⟩
theorem Jz(w:World):Calls prog 217 #[.string ⟨([100,101,102]:YB).toArray⟩] w λe w'=>e=.returned (.bool true)∧w=w':=by
 go_enter func217,ntmps217
 go_wp2
 go_ret
 exact⟨I,I⟩
theorem IB(w:World):Calls prog 217 #[.string ⟨([116,121,112,101]:YB).toArray⟩] w λe w'=>e=.returned (.bool true)∧w=w':=by
 go_enter func217,ntmps217
 go_wp2
 go_ret
 exact⟨I,I⟩
theorem Ke(w:World):Calls prog 217 #[.string ⟨([108,101,116]:YB).toArray⟩] w λe w'=>e=.returned (.bool true)∧w=w':=by
 go_enter func217,ntmps217
 go_wp2
 go_ret
 exact⟨I,I⟩
theorem Jq(w:World):Calls prog 217 #[.string ⟨([105,110]:YB).toArray⟩] w λe w'=>e=.returned (.bool true)∧w=w':=by
 go_enter func217,ntmps217
 go_wp2
 go_ret
 exact⟨I,I⟩
theorem JP(w:World):Calls prog 217 #[.string ⟨([105,102]:YB).toArray⟩] w λe w'=>e=.returned (.bool true)∧w=w':=by
 go_enter func217,ntmps217
 go_wp2
 go_ret
 exact⟨I,I⟩
theorem Iz(w:World):Calls prog 217 #[.string ⟨([116,104,101,110]:YB).toArray⟩] w λe w'=>e=.returned (.bool true)∧w=w':=by
 go_enter func217,ntmps217
 go_wp2
 go_ret
 exact⟨I,I⟩
theorem JQ(w:World):Calls prog 217 #[.string ⟨([101,108,115,101]:YB).toArray⟩] w λe w'=>e=.returned (.bool true)∧w=w':=by
 go_enter func217,ntmps217
 go_wp2
 go_ret
 exact⟨I,I⟩
theorem JV(w:World):Calls prog 217 #[.string ⟨([116,114,117,101]:YB).toArray⟩] w λe w'=>e=.returned (.bool true)∧w=w':=by
 go_enter func217,ntmps217
 go_wp2
 go_ret
 exact⟨I,I⟩
theorem Jk(w:World):Calls prog 217 #[.string ⟨([102,97,108,115,101]:YB).toArray⟩] w λe w'=>e=.returned (.bool true)∧w=w':=by
 go_enter func217,ntmps217
 go_wp2
 go_ret
 exact⟨I,I⟩
theorem Gx(w:World):Calls prog 217 #[.string ⟨([73,110,116]:YB).toArray⟩] w λe w'=>e=.returned (.bool true)∧w=w':=by
 go_enter func217,ntmps217
 go_wp2
 go_ret
 exact⟨I,I⟩
theorem GE(w:World):Calls prog 217 #[.string ⟨([84,101,120,116]:YB).toArray⟩] w λe w'=>e=.returned (.bool true)∧w=w':=by
 go_enter func217,ntmps217
 go_wp2
 go_ret
 exact⟨I,I⟩
theorem GH(w:World):Calls prog 217 #[.string ⟨([66,111,111,108]:YB).toArray⟩] w λe w'=>e=.returned (.bool true)∧w=w':=by
 go_enter func217,ntmps217
 go_wp2
 go_ret
 exact⟨I,I⟩
theorem Gs(l:YB)(w:World)(U:(l==[109,111,100,117,108,101])=false)(Z:(l==[100,101,102])=false)(b2:(l==[116,121,112,101])=false)(b3:(l==[108,101,116])=false)(b4:(l==[105,110])=false)(b5:(l==[105,102])=false)(b6:(l==[116,104,101,110])=false)(b7:(l==[101,108,115,101])=false)(b8:(l==[116,114,117,101])=false)(b9:(l==[102,97,108,115,101])=false)(E:(l==[73,110,116])=false)(G:(l==[84,101,120,116])=false)(J:(l==[66,111,111,108])=false):Calls prog 217 #[.string ⟨l.toArray⟩] w λe w'=>e=.returned (.bool false)∧w=w':=by
 go_enter func217,ntmps217
 go_wp2
 go_ret
 exact⟨I,I⟩
theorem dg(l:YB)(w:World):Calls prog 217 #[.string ⟨l.toArray⟩] w λe w'=>e=.returned (.bool<|ke l)∧w=w':=by
 by_cases U:l=[109,111,100,117,108,101]
 ·subst U;exact Jm w
 by_cases h1:l=[100,101,102]
 ·subst h1;exact Jz w
 by_cases h2:l=[116,121,112,101]
 ·subst h2;exact IB w
 by_cases Z:l=[108,101,116]
 ·subst Z;exact Ke w
 by_cases h4:l=[105,110]
 ·subst h4;exact Jq w
 by_cases h5:l=[105,102]
 ·subst h5;exact JP w
 by_cases h6:l=[116,104,101,110]
 ·subst h6;exact Iz w
 by_cases h7:l=[101,108,115,101]
 ·subst h7;exact JQ w
 by_cases h8:l=[116,114,117,101]
 ·subst h8;exact JV w
 by_cases h9:l=[102,97,108,115,101]
 ·subst h9;exact Jk w
 by_cases E:l=[73,110,116]
 ·subst E;exact Gx w
 by_cases G:l=[84,101,120,116]
 ·subst G;exact GE w
 by_cases J:l=[66,111,111,108]
 ·subst J;exact GH w
 have hr:ke l=false:=by simp[ke,Jj,U,h1,h2,Z,h4,h5,h6,h7,h8,h9,E,G,J]
 rw[hr];exact Gs l w (by simpa using U) (by simpa using h1) (by simpa using h2) (by simpa using Z) (by simpa using h4) (by simpa using h5) (by simpa using h6) (by simpa using h7) (by simpa using h8) (by simpa using h9) (by simpa using E) (by simpa using G) (by simpa using J)
set_option maxHeartbeats 1000000 in
theorem QZ(s:ByteArray)(c:Int)(w:World):Calls prog 176 #[.string s,.int .u8 c] w λe w'=>e=.returned (.int .i64<|Lib.indexByte s.data.toList c.toNat.toUInt8)∧w=w':=by
 go_enter func176,ntmps176
 go_wp2
 rw[run_callFunc_extern func195 (by kernel_rfl) (by kernel_rfl) (by kernel_rfl) (e:=Extern.BytealgIndexByte.indexByte) (by kernel_rfl),Lib.run_indexByteString];simp only[Result.andThen];rw[Oper.upon_value]
 go_wp2
 go_ret
 exact⟨I,I⟩
theorem IG(s:ByteArray)(c:Int)(w:World):Calls prog 134 #[.string s,.int .u8 c] w λe w'=>e=.returned (.int .i64<|Lib.indexByte s.data.toList c.toNat.toUInt8)∧w=w':=by
 go_enter func134,ntmps134
 go_wp2_with (go_at_call 176;refine qmm (QZ _ _ _) ?_)
 go_ret
 exact⟨I,I⟩
set_option maxHeartbeats 400000 in
theorem fM(l:YB)(w:World)(hl:l.length<=281474976710656):Calls prog 174 #[.string ⟨l.toArray⟩] w λe w'=>e=.returned (.int .i64 (spanN bm l:Nat))∧w=w':=by
 go_enter func174,ntmps174
 go_wp2_with fail
 go_loop [3] (λn=>∃k:Nat,k<=l.length∧n=.int .i64 k∧Hid (spanN bm l=k+spanN bm (l.drop k))) (λn=>l.length-(intOf n).toNat)
 case atStart=>exact⟨0,by omega,rfl,Lib.hid<|by simp⟩
 case round=>
  obtain⟨k,hk,rfl,hrel⟩:=hrel;by_cases hlt:k<l.length
  ·obtain⟨c,hc⟩:∃c,({data:=l.toArray}:ByteArray)[k]'hlt=c:=⟨_,rfl⟩;have HC:=Lib.hid (show l[k]=c from hc)
   go_wp2_with (first|(go_at_call 129;refine qmm (bv _ _) ?_)|(go_at_call 131;refine qmm (dE _ _) ?_))
   all_goals go_light
   ·go_round
    case rel=>exact⟨k+1,by omega,by go_num,Lib.hid (by rw[hrel.out,lZ hlt HC.out<|wJ<|.inl ‹_›];omega)⟩
    case measure=>simp[intOf];omega
   ·go_round
    case rel=>exact⟨k+1,by omega,by go_num,Lib.hid (by rw[hrel.out,lZ hlt HC.out<|wJ<|.inr<|.inl ‹_›];omega)⟩
    case measure=>simp[intOf];omega
   ·go_round
    case rel=>exact⟨k+1,by omega,by go_num,Lib.hid (by rw[hrel.out,lZ hlt HC.out<|wJ<|.inr<|.inr ‹_›];omega)⟩
    case measure=>simp[intOf];omega
   ·go_ret
    exact⟨bw (by rw[hrel.out,rP hlt HC.out<|GK ‹_› ‹_› ‹_›];omega),I⟩
  ·go_wp2_with fail
   go_ret
   exact⟨bw (by rw[hrel.out,uo<|by omega];omega),I⟩
set_option maxHeartbeats 1000000 in
theorem jI(l:YB)(w:World)(hl:l.length<=281474976710656):Calls prog 132 #[.string ⟨l.toArray⟩] w λe w'=>e=.returned (.tuple #[.int .i64 ((eo l).1:Nat),.int .i64 ((eo l).2:Nat)])∧w=w':=by
 go_enter func132,ntmps132
 go_wp2_with fail
 go_loop [4] (λn=>∃k:Nat,k<=l.length∧n=.int .i64 k∧Hid (spanN bC l=k+spanN bC (l.drop k))) (λn=>l.length-(intOf n).toNat)
 case atStart=>exact⟨0,by omega,rfl,Lib.hid<|by simp⟩
 case round=>
  obtain⟨k,hk,rfl,hrel⟩:=hrel;by_cases hlt:k<l.length
  ·obtain⟨c,hc⟩:∃c,({data:=l.toArray}:ByteArray)[k]'hlt=c:=⟨_,rfl⟩;have HC:=Lib.hid<|show l[k]=c from hc;cases hd:bC c
   ·have HN:=Lib.hid (show spanN bC l=k from by rw[hrel.out,rP hlt HC.out hd];omega);have hk0:=hk;by_cases h1:1<k
    ·have h0:0<l.length:=by omega
     obtain⟨c0,hc0⟩:∃c,({data:=l.toArray}:ByteArray)[0]'h0=c:=⟨_,rfl⟩;have HC0:=Lib.hid<|show l[0]=c0 from hc0;cases h48:((c0.toNat:Int)==48)
     ·have HG:=Lib.hid (show 1<k->¬(l.getD 0 0).toNat=48 from λ_=>by rw[aL h0 HC0.out];exact bG (m:=48) h48);by_cases h15:15<k
      ·go_wp2_with (go_at_call 131;refine qmm (dE _ _) ?_)
       go_ret2
       exact⟨by rw[oU HN.out HG.out h15];rfl,I⟩
      ·go_wp2_with (go_at_call 131;refine qmm (dE _ _) ?_)
       go_ret2
       exact⟨by rw[io HN.out HG.out h15];rfl,I⟩
     ·go_wp2_with (go_at_call 131;refine qmm (dE _ _) ?_)
      go_ret2
      exact⟨by rw[pu HN.out h1 h0 HC0.out h48];rfl,I⟩
    ·go_wp2_with (go_at_call 131;refine qmm (dE _ _) ?_)
     go_ret2
     exact⟨by rw[io HN.out (λh=>absurd h h1)<|by omega];rfl,I⟩
   ·go_wp2_with (go_at_call 131;refine qmm (dE _ _) ?_)
    go_light
    go_round
    case rel=>exact⟨k+1,by omega,by go_num,Lib.hid (by rw[hrel.out,lZ hlt HC.out hd];omega)⟩
    case measure=>simp[intOf];omega
  ·have HN:=Lib.hid (show spanN bC l=k from by rw[hrel.out,uo<|by omega];omega);have hk0:=hk;by_cases h1:1<k
   ·have h0:0<l.length:=by omega
    obtain⟨c0,hc0⟩:∃c,({data:=l.toArray}:ByteArray)[0]'h0=c:=⟨_,rfl⟩;have HC0:=Lib.hid<|show l[0]=c0 from hc0;cases h48:((c0.toNat:Int)==48)
    ·have HG:=Lib.hid (show 1<k->¬(l.getD 0 0).toNat=48 from λ_=>by rw[aL h0 HC0.out];exact bG (m:=48) h48);by_cases h15:15<k
     ·go_wp2_with (go_at_call 131;refine qmm (dE _ _) ?_)
      go_ret2
      exact⟨by rw[oU HN.out HG.out h15];rfl,I⟩
     ·go_wp2_with (go_at_call 131;refine qmm (dE _ _) ?_)
      go_ret2
      exact⟨by rw[io HN.out HG.out h15];rfl,I⟩
    ·go_wp2_with (go_at_call 131;refine qmm (dE _ _) ?_)
     go_ret2
     exact⟨by rw[pu HN.out h1 h0 HC0.out h48];rfl,I⟩
   ·go_wp2_with (go_at_call 131;refine qmm (dE _ _) ?_)
    go_ret2
    exact⟨by rw[io HN.out (λh=>absurd h h1)<|by omega];rfl,I⟩
set_option maxHeartbeats 1000000 in
theorem jo(l:YB)(w:World)(h0:0<l.length)(hl:l.length<=281474976710656):Calls prog 133 #[.string ⟨l.toArray⟩] w λe w'=>e=.returned (.tuple #[.int .i64 ((quotedT l.tail 1).1:Nat),.int .i64 ((quotedT l.tail 1).2:Nat)])∧w=w':=by
 obtain⟨r,hr⟩:∃r,quotedT l.tail 1=r:=⟨_,rfl⟩;rw[hr];have HR:=Lib.hid hr;clear hr
 go_enter func133,ntmps133
 go_wp2_with fail
 go_loop [4,5] (λn c=>∃k:Nat,k<=l.length∧n=.int .i64 k∧Hid (r=quotedT (l.drop k) k)) (λn _=>l.length-(intOf n).toNat)
 case atStart=>exact⟨1,by omega,rfl,Lib.hid<|by rw[<-HR.out,List.drop_one]⟩
 case round=>
  obtain⟨k,hk,rfl,hrel⟩:=hrel;by_cases hlt:k<l.length
  ·obtain⟨c,hc⟩:∃c,({data:=l.toArray}:ByteArray)[k]'hlt=c:=⟨_,rfl⟩;have HC:=Lib.hid<|show l[k]=c from hc;have HS:=Lib.hid<|Ed hlt HC.out;cases ha:aT c
   ·go_wp2_with (go_at_call 81;refine qmm (bb _ _) ?_)
    go_ret2
    exact⟨by rw[hrel.out,HS.out,if_pos ha];rfl,I⟩
   cases h34:((c.toNat:Int)==34)
   rotate_left
   ·go_wp2_with (go_at_call 81;refine qmm (bb _ _) ?_)
    go_ret2
    exact⟨by rw[hrel.out,HS.out,if_neg (by simp[ha]),if_pos<|cJ (m:=34) h34];rfl,rfl⟩
   cases h92:((c.toNat:Int)==92)
   rotate_left
   ·go_wp2_with (go_at_call 81;refine qmm (bb _ _) ?_)
    go_ret2
    exact⟨by rw[hrel.out,HS.out,if_neg (by simp[ha]),if_neg<|bG (m:=34) h34,if_pos<|.inl<|cJ (m:=92) h92];rfl,rfl⟩
   by_cases h32:(c.toNat:Int)<32
   ·go_wp2_with (go_at_call 81;refine qmm (bb _ _) ?_)
    go_ret2
    exact⟨by rw[hrel.out,HS.out,if_neg (by simp[ha]),if_neg<|bG (m:=34) h34,if_pos<|.inr<|by omega];rfl,rfl⟩
   ·go_wp2_with (go_at_call 81;refine qmm (bb _ _) ?_)
    go_light
    go_round
    case rel=>exact⟨k+1,by omega,by go_num,Lib.hid<|by rw[hrel.out,HS.out,if_neg (by simp[ha]),if_neg<|bG (m:=34) h34,if_neg (by have :=bG (m:=92) h92;omega)]⟩
    case measure=>simp[intOf];omega
  ·go_wp2_with (go_at_call 81;refine qmm (bb _ _) ?_)
   go_ret2
   exact⟨by rw[hrel.out,GL<|by omega];rfl,I⟩
set_option maxHeartbeats 4000000 in
theorem pg(l:YB)(w:World)(h0:0<l.length)(hl:l.length<=281474976710656):Calls prog 130 #[.string ⟨l.toArray⟩] w λe w'=>e=.returned (.tuple #[.int .i64 ((bX l).1:Nat),.int .i64 ((bX l).2.1:Nat),.int .i64 ((bX l).2.2:Nat)])∧w=w':=by
 obtain⟨n,hn⟩:∃n,spanN bm l=n:=⟨_,rfl⟩;have hnl:n<=l.length:=by have :=lC bm l;omega
 have HN:=Lib.hid hn;clear hn;obtain⟨c0,hc0⟩:∃c,({data:=l.toArray}:ByteArray)[0]'h0=c:=⟨_,rfl⟩;have HC0:=Lib.hid<|show l[0]=c0 from hc0;have hx:=wZ;have hx2:=nH
 go_enter func130,ntmps130
 go_wp2_with fail
 refine(fM _ _ hl).mono ?_;rintro e w' ⟨rfl,rfl⟩;rw[HN.out];cases hr:ke<|l.take n
 rotate_left
 ·cases hu:upperB c0
  all_goals
   have HQ:=Lib.hid<|iP HN.out<|LG HN.out hr;by_cases E:24<n
   ·skip
    have HW:=Lib.hid (show bX l=(0,0,3)from by rw[HQ.out,bL,if_pos E])
    go_wp2_with (first|(go_at_call 174;refine qmm (fM _ _ (by simp;omega)) ?_)|(go_at_call 175;refine qmm (ca _ _) ?_)|(go_at_call 173;refine qmm (dT _ _) ?_)|(go_at_call 172;refine qmm (dP _ _) ?_)|(go_at_call 129;refine qmm (bv _ _) ?_))
    go_ret3
    exact⟨by rw[HW.out];rfl,I⟩
   ·skip
    have HW:=Lib.hid (show bX l=(7,n,0)from by rw[HQ.out,bL,if_neg E,if_pos hr])
    go_wp2_with (first|(go_at_call 174;refine qmm (fM _ _ (by simp;omega)) ?_)|(go_at_call 175;refine qmm (ca _ _) ?_)|(go_at_call 173;refine qmm (dT _ _) ?_)|(go_at_call 172;refine qmm (dP _ _) ?_)|(go_at_call 129;refine qmm (bv _ _) ?_))
    go_ret3
    exact⟨by rw[HW.out];rfl,I⟩
 cases hu:upperB c0
 ·skip
  have HQ:=Lib.hid<|iP HN.out<|Kv h0 HC0.out hu;by_cases E:24<n
  ·skip
   have HW:=Lib.hid (show bX l=(0,0,3)from by rw[HQ.out,bL,if_pos E])
   go_wp2_with (first|(go_at_call 174;refine qmm (fM _ _ (by simp;omega)) ?_)|(go_at_call 175;refine qmm (ca _ _) ?_)|(go_at_call 173;refine qmm (dT _ _) ?_)|(go_at_call 172;refine qmm (dP _ _) ?_)|(go_at_call 129;refine qmm (bv _ _) ?_))
   go_ret3
   exact⟨by rw[HW.out];rfl,I⟩
  ·cases G:cv c0
   ·skip
    have HW:=Lib.hid (show bX l=(2,n,0)from by rw[HQ.out,bL,if_neg E,if_neg (by simp[hr]),if_neg (by rw[aL h0 HC0.out];simp[G])])
    go_wp2_with (first|(go_at_call 174;refine qmm (fM _ _ (by simp;omega)) ?_)|(go_at_call 175;refine qmm (ca _ _) ?_)|(go_at_call 173;refine qmm (dT _ _) ?_)|(go_at_call 172;refine qmm (dP _ _) ?_)|(go_at_call 129;refine qmm (bv _ _) ?_))
    go_ret3
    exact⟨by rw[HW.out];rfl,I⟩
   ·skip
    have HW:=Lib.hid (show bX l=(1,n,0)from by rw[HQ.out,bL,if_neg E,if_neg (by simp[hr]),if_pos (by rw[aL h0 HC0.out];exact G)])
    go_wp2_with (first|(go_at_call 174;refine qmm (fM _ _ (by simp;omega)) ?_)|(go_at_call 175;refine qmm (ca _ _) ?_)|(go_at_call 173;refine qmm (dT _ _) ?_)|(go_at_call 172;refine qmm (dP _ _) ?_)|(go_at_call 129;refine qmm (bv _ _) ?_))
    go_ret3
    exact⟨by rw[HW.out];rfl,I⟩
 by_cases h2:n+1<l.length
 rotate_left
 ·have h2':¬((n:Int)+1<l.length):=by omega
  have HQ:=Lib.hid<|iP HN.out<|LC HN.out h2;by_cases E:24<n
  ·skip
   have HW:=Lib.hid (show bX l=(0,0,3)from by rw[HQ.out,bL,if_pos E])
   go_wp2_with (first|(go_at_call 174;refine qmm (fM _ _ (by simp;omega)) ?_)|(go_at_call 175;refine qmm (ca _ _) ?_)|(go_at_call 173;refine qmm (dT _ _) ?_)|(go_at_call 172;refine qmm (dP _ _) ?_)|(go_at_call 129;refine qmm (bv _ _) ?_))
   go_ret3
   exact⟨by rw[HW.out];rfl,I⟩
  ·cases G:cv c0
   ·skip
    have HW:=Lib.hid (show bX l=(2,n,0)from by rw[HQ.out,bL,if_neg E,if_neg (by simp[hr]),if_neg (by rw[aL h0 HC0.out];simp[G])])
    go_wp2_with (first|(go_at_call 174;refine qmm (fM _ _ (by simp;omega)) ?_)|(go_at_call 175;refine qmm (ca _ _) ?_)|(go_at_call 173;refine qmm (dT _ _) ?_)|(go_at_call 172;refine qmm (dP _ _) ?_)|(go_at_call 129;refine qmm (bv _ _) ?_))
    go_ret3
    exact⟨by rw[HW.out];rfl,I⟩
   ·skip
    have HW:=Lib.hid (show bX l=(1,n,0)from by rw[HQ.out,bL,if_neg E,if_neg (by simp[hr]),if_pos (by rw[aL h0 HC0.out];exact G)])
    go_wp2_with (first|(go_at_call 174;refine qmm (fM _ _ (by simp;omega)) ?_)|(go_at_call 175;refine qmm (ca _ _) ?_)|(go_at_call 173;refine qmm (dT _ _) ?_)|(go_at_call 172;refine qmm (dP _ _) ?_)|(go_at_call 129;refine qmm (bv _ _) ?_))
    go_ret3
    exact⟨by rw[HW.out];rfl,I⟩
 have hn1:n<l.length:=by omega
 obtain⟨c1,hc1⟩:∃c,({data:=l.toArray}:ByteArray)[n]'hn1=c:=⟨_,rfl⟩;have HC1:=Lib.hid<|show l[n]=c1 from hc1;obtain⟨c2,hc2⟩:∃c,({data:=l.toArray}:ByteArray)[n+1]'h2=c:=⟨_,rfl⟩;have HC2:=Lib.hid<|show l[n+1]=c2 from hc2;cases U:((c1.toNat:Int)==46)
 ·skip
  have HQ:=Lib.hid<|iP HN.out<|Kr HN.out hn1 HC1.out U;by_cases E:24<n
  ·skip
   have HW:=Lib.hid (show bX l=(0,0,3)from by rw[HQ.out,bL,if_pos E])
   go_wp2_with (first|(go_at_call 174;refine qmm (fM _ _ (by simp;omega)) ?_)|(go_at_call 175;refine qmm (ca _ _) ?_)|(go_at_call 173;refine qmm (dT _ _) ?_)|(go_at_call 172;refine qmm (dP _ _) ?_)|(go_at_call 129;refine qmm (bv _ _) ?_))
   go_ret3
   exact⟨by rw[HW.out];rfl,I⟩
  ·cases G:cv c0
   ·skip
    have HW:=Lib.hid (show bX l=(2,n,0)from by rw[HQ.out,bL,if_neg E,if_neg (by simp[hr]),if_neg (by rw[aL h0 HC0.out];simp[G])])
    go_wp2_with (first|(go_at_call 174;refine qmm (fM _ _ (by simp;omega)) ?_)|(go_at_call 175;refine qmm (ca _ _) ?_)|(go_at_call 173;refine qmm (dT _ _) ?_)|(go_at_call 172;refine qmm (dP _ _) ?_)|(go_at_call 129;refine qmm (bv _ _) ?_))
    go_ret3
    exact⟨by rw[HW.out];rfl,I⟩
   ·skip
    have HW:=Lib.hid (show bX l=(1,n,0)from by rw[HQ.out,bL,if_neg E,if_neg (by simp[hr]),if_pos (by rw[aL h0 HC0.out];exact G)])
    go_wp2_with (first|(go_at_call 174;refine qmm (fM _ _ (by simp;omega)) ?_)|(go_at_call 175;refine qmm (ca _ _) ?_)|(go_at_call 173;refine qmm (dT _ _) ?_)|(go_at_call 172;refine qmm (dP _ _) ?_)|(go_at_call 129;refine qmm (bv _ _) ?_))
    go_ret3
    exact⟨by rw[HW.out];rfl,I⟩
 cases h3:bo c2
 ·skip
  have HQ:=Lib.hid<|iP HN.out<|LQ HN.out h2 HC2.out h3;by_cases E:24<n
  ·skip
   have HW:=Lib.hid (show bX l=(0,0,3)from by rw[HQ.out,bL,if_pos E])
   go_wp2_with (first|(go_at_call 174;refine qmm (fM _ _ (by simp;omega)) ?_)|(go_at_call 175;refine qmm (ca _ _) ?_)|(go_at_call 173;refine qmm (dT _ _) ?_)|(go_at_call 172;refine qmm (dP _ _) ?_)|(go_at_call 129;refine qmm (bv _ _) ?_))
   go_ret3
   exact⟨by rw[HW.out];rfl,I⟩
  ·cases G:cv c0
   ·skip
    have HW:=Lib.hid (show bX l=(2,n,0)from by rw[HQ.out,bL,if_neg E,if_neg (by simp[hr]),if_neg (by rw[aL h0 HC0.out];simp[G])])
    go_wp2_with (first|(go_at_call 174;refine qmm (fM _ _ (by simp;omega)) ?_)|(go_at_call 175;refine qmm (ca _ _) ?_)|(go_at_call 173;refine qmm (dT _ _) ?_)|(go_at_call 172;refine qmm (dP _ _) ?_)|(go_at_call 129;refine qmm (bv _ _) ?_))
    go_ret3
    exact⟨by rw[HW.out];rfl,I⟩
   ·skip
    have HW:=Lib.hid (show bX l=(1,n,0)from by rw[HQ.out,bL,if_neg E,if_neg (by simp[hr]),if_pos (by rw[aL h0 HC0.out];exact G)])
    go_wp2_with (first|(go_at_call 174;refine qmm (fM _ _ (by simp;omega)) ?_)|(go_at_call 175;refine qmm (ca _ _) ?_)|(go_at_call 173;refine qmm (dT _ _) ?_)|(go_at_call 172;refine qmm (dP _ _) ?_)|(go_at_call 129;refine qmm (bv _ _) ?_))
    go_ret3
    exact⟨by rw[HW.out];rfl,I⟩
 obtain⟨m,hm⟩:∃m,spanN bm (l.drop (n+1))=m:=⟨_,rfl⟩;have hml:n+1+m<=l.length:=by have :=lC bm<|l.drop<|n+1;simp at this;omega
 have HM:=Lib.hid hm;have HQ:=Lib.hid<|CP HN.out hm<|Gh HN.out h0 HC0.out hu hr h2 hn1 HC1.out U HC2.out h3;by_cases E:24<n
 ·skip
  have HW:=Lib.hid (show bX l=(0,0,3)from by rw[HQ.out,fg,if_pos<|.inl E])
  go_wp2_with (first|(go_at_call 174;refine qmm (fM _ _ (by simp;omega)) ?_)|(go_at_call 175;refine qmm (ca _ _) ?_)|(go_at_call 173;refine qmm (dT _ _) ?_)|(go_at_call 172;refine qmm (dP _ _) ?_)|(go_at_call 129;refine qmm (bv _ _) ?_))
  go_ret3
  exact⟨by rw[HW.out];rfl,I⟩
 by_cases Z:24<m
 ·skip
  have HW:=Lib.hid (show bX l=(0,0,3)from by rw[HQ.out,fg,if_pos<|.inr Z])
  go_wp2_with (first|(go_at_call 174;refine qmm (fM _ _ (by simp;omega)) ?_)|(go_at_call 175;refine qmm (ca _ _) ?_)|(go_at_call 173;refine qmm (dT _ _) ?_)|(go_at_call 172;refine qmm (dP _ _) ?_)|(go_at_call 129;refine qmm (bv _ _) ?_))
  go_ret3
  exact⟨by rw[HW.out];rfl,I⟩
 have he:n+1+m-(n+1)=m:=by omega
 cases J:ke ((l.drop (n+1)).take m)
 rotate_left
 ·skip
  have HW:=Lib.hid (show bX l=(0,0,2)from by rw[HQ.out,fg,if_neg (by omega),if_pos J])
  go_wp2_with (first|(go_at_call 174;refine qmm (fM _ _ (by simp;omega)) ?_)|(go_at_call 175;refine qmm (ca _ _) ?_)|(go_at_call 173;refine qmm (dT _ _) ?_)|(go_at_call 172;refine qmm (dP _ _) ?_)|(go_at_call 129;refine qmm (bv _ _) ?_))
  go_ret3
  exact⟨by rw[HW.out];rfl,I⟩
 cases G:cv c2
 ·skip
  have HW:=Lib.hid (show bX l=(4,n+1+m,0)from by rw[HQ.out,fg,if_neg (by omega),if_neg (by simp[J]),if_neg (by rw[aL h2 HC2.out];simp[G])])
  go_wp2_with (first|(go_at_call 174;refine qmm (fM _ _ (by simp;omega)) ?_)|(go_at_call 175;refine qmm (ca _ _) ?_)|(go_at_call 173;refine qmm (dT _ _) ?_)|(go_at_call 172;refine qmm (dP _ _) ?_)|(go_at_call 129;refine qmm (bv _ _) ?_))
  go_ret3
  exact⟨by rw[HW.out];rfl,I⟩
 ·skip
  have HW:=Lib.hid (show bX l=(3,n+1+m,0)from by rw[HQ.out,fg,if_neg (by omega),if_neg (by simp[J]),if_pos (by rw[aL h2 HC2.out];exact G)])
  go_wp2_with (first|(go_at_call 174;refine qmm (fM _ _ (by simp;omega)) ?_)|(go_at_call 175;refine qmm (ca _ _) ?_)|(go_at_call 173;refine qmm (dT _ _) ?_)|(go_at_call 172;refine qmm (dP _ _) ?_)|(go_at_call 129;refine qmm (bv _ _) ?_))
  go_ret3
  exact⟨by rw[HW.out];rfl,I⟩
end Go.Proofs.YtehhanlhfdoiaaaGreat
namespace Go.Proofs.YtehhanlhfdoiaaaGreat.Lx
def ij(l:YB):Nat:=if bo (l.getD 0 0)=true then spanN bm l else 0
def signLen(l:YB):Nat:=
 if(l.getD 0 0).toNat=61 then(if 1<l.length∧(l.getD 1 0).toNat=61 then 2 else 1)
 else if([40,41,91,93,58,44,43,45,42,60,63]:YN).contains (l.getD 0 0).toNat=true then 1 else 0
theorem xY(l:YB)(k:Nat):(l.drop k).getD 0 0=l.getD k 0:=by simp[List.getD]
theorem IC(l:YB)(k:Nat):(l.drop k).getD 1 0=l.getD (k+1) 0:=by simp[List.getD]
variable{l:YB}{k:Nat}
theorem JJ{c:UInt8}(h:k<l.length)(E:l[k]=c):
  signLen (l.drop k)=if c.toNat=61 then(if k+1<l.length∧(l.getD (k+1) 0).toNat=61 then 2 else 1)
   else if([40,41,91,93,58,44,43,45,42,60,63]:YN).contains c.toNat=true then 1 else 0:=by
 unfold signLen;rw[xY,IC,aL h E,aaE];by_cases h2:k+1<l.length
 ·have h1:1<l.length-k:=by omega
  simp only[h1,h2]
 ·have h1:¬1<l.length-k:=by omega
  simp only[h1,h2]
theorem Fb{c:UInt8}(h:bo c=true)(E:upperB c=false):cv c=true:=by simpa[bo,E]using h
theorem uP{c:UInt8}(E:upperB c=true):cv c=false:=by simp[upperB,cv]at *;omega
theorem Jc{j:Nat}{c:UInt8}(h:k<l.length)(E:l[k]=c):
  quotedT (l.drop k) j=if aT c=false then(j,1)else if c.toNat=34 then(j+1,0)else if c.toNat=92∨c.toNat<32 then(0,2)else quotedT (l.drop<|k+1) (j+1):=by
 rw[aan h,E];rfl
theorem BR{j:Nat}(h:l.length<=k):quotedT (l.drop k) j=(0,2):=by rw[List.drop_of_length_le h];rfl
theorem IS{c:UInt8}(E:aT c=true)(hp:dM c=false):c.toNat<32:=by simp[aT,hp,bH]at E;simp[dM]at hp;omega
theorem IQ{c:UInt8}(hp:dM c=true):¬c.toNat<32:=by simp[dM]at hp;omega
theorem Du{c:UInt8}(h:c.toNat=34):aT c=true:=by simp[aT,dM,h]
theorem KG(l:YB):(if(l.getD 0 0).toNat=61∧1<l.length∧(l.getD 1 0).toNat=61 then((8,2,0):Nat×Nat×Nat)else if qO.contains (l.getD 0 0)=true then(8,1,0)else(0,0,2))=
  if signLen l=0 then(0,0,2)else(8,signLen l,0):=by
 unfold signLen;generalize l.getD 0 0=c;generalize l.getD 1 0=d;by_cases E:c.toNat=61
 ·have G:c=61:=by apply UInt8.toNat_inj.1;simpa using E
  subst G;by_cases h2:1<l.length∧d.toNat=61
  ·simp[h2]
  ·simp[h2,qO]
 ·have :qO.contains c=([40,41,91,93,58,44,43,45,42,60,63]:YN).contains c.toNat:=by
   simp only[qO,List.contains_cons,List.contains_nil,Bool.or_false];have h:∀n:UInt8,(c==n)=(c.toNat==n.toNat):=λn=>by rw[Bool.eq_iff_iff];simp[UInt8.toNat_inj]
   simp only[h];have :(c.toNat==(61:UInt8).toNat)=false:=by simpa using E
   rw[this];rfl
  rw[this];simp only[E,false_and,if_false];split<;>simp_all
end Go.Proofs.YtehhanlhfdoiaaaGreat.Lx
namespace Go.Proofs.YtehhanlhfdoiaaaGreat
open _root_.Go.Proofs.Tryz
open Go.RowKit Lx
set_option maxRecDepth 100000
set_option maxHeartbeats 1000000 in
theorem jj(l:YB)(x:Int)(k:Nat)(hx:x=k)(w:World)(hk:k<=l.length)(hl:l.length<=281474976710656):Calls prog 216 #[.string ⟨l.toArray⟩,.int .i64 x] w λe w'=>e=.returned (.int .i64 (ij (l.drop k):Nat))∧w=w':=by
 subst hx;by_cases hlt:k<l.length
 rotate_left
 ·have HR:=Lib.hid (show ij (l.drop k)=0 from by rw[List.drop_of_length_le<|by omega];rfl);have hge:(l.length:Int)<=k:=by omega
  go_enter func216,ntmps216
  go_wp2_with (first|(go_at_call 208;refine qmm (cc _ _) ?_)|(go_at_call 209;refine qmm (ba _ _) ?_)|(go_at_call 218;refine qmm (sg _ _) ?_))
  go_ret
  exact⟨bw (by rw[HR.out];rfl),I⟩
 obtain⟨c,hc⟩:∃c,({data:=l.toArray}:ByteArray)[k]'hlt=c:=⟨_,rfl⟩;have HC:=Lib.hid<|show l[k]=c from hc;have hge:decide (l.length<=k)=false:=by simp;omega
 have HG:=Lib.hid (show(l.drop k).getD 0 0=c from by rw[xY];exact aL hlt HC.out);cases hlo:cv c<;>cases hup:upperB c
 ·have HR:=Lib.hid (show ij (l.drop k)=0 from by rw[ij,HG.out];simp[bo,hlo,hup])
  go_enter func216,ntmps216
  go_wp2_with (first|(go_at_call 208;refine qmm (cc _ _) ?_)|(go_at_call 209;refine qmm (ba _ _) ?_)|(go_at_call 218;refine qmm (sg _ _) ?_))
  go_ret
  exact⟨bw (by rw[HR.out];rfl),I⟩
 all_goals
  have HR:=Lib.hid (show ij (l.drop k)=spanN bm (l.drop k)from by rw[ij,HG.out];simp[bo,hlo,hup]);rw[HR.out];clear HR
  go_enter func216,ntmps216
  go_wp2_with (first|(go_at_call 208;refine qmm (cc _ _) ?_)|(go_at_call 209;refine qmm (ba _ _) ?_)|(go_at_call 218;refine qmm (sg _ _) ?_))
  go_loopg [5] (l.length-k) (λg n wx=>∃i:Nat,g=l.length-i∧wx=w∧k<=i∧i<=l.length∧n=.int .i64 i∧Hid (spanN bm (l.drop k)=i-k+spanN bm (l.drop i)))
  case atStart=>exact⟨k,rfl,rfl,aag _,hk,rfl,Lib.hid<|by omega⟩
  case round=>
   obtain⟨i,rfl,rfl,hki,hil,rfl,hrel⟩:=hrel;by_cases hit:i<l.length
   ·skip
    obtain⟨d,hd⟩:∃c,({data:=l.toArray}:ByteArray)[i]'hit=c:=⟨_,rfl⟩;have HD:=Lib.hid<|show l[i]=d from hd;cases hwd:bm d
    ·go_wp2_with (first|(go_at_call 208;refine qmm (cc _ _) ?_)|(go_at_call 209;refine qmm (ba _ _) ?_)|(go_at_call 218;refine qmm (sg _ _) ?_))
     go_ret
     exact⟨bw (by rw[hrel.out,rP hit HD.out hwd];omega),I⟩
    ·go_wp2_with (first|(go_at_call 208;refine qmm (cc _ _) ?_)|(go_at_call 209;refine qmm (ba _ _) ?_)|(go_at_call 218;refine qmm (sg _ _) ?_))
     go_roundg (l.length-(i+1))
     case measure=>omega
     case rel=>exact⟨i+1,rfl,rfl,by omega,by omega,by go_num,Lib.hid (by rw[hrel.out,lZ hit HD.out hwd];omega)⟩
   ·go_wp2_with (first|(go_at_call 208;refine qmm (cc _ _) ?_)|(go_at_call 209;refine qmm (ba _ _) ?_)|(go_at_call 218;refine qmm (sg _ _) ?_))
    go_ret
    exact⟨bw (by rw[hrel.out,uo<|by omega];omega),I⟩
set_option maxHeartbeats 2000000 in
theorem eJ(l:YB)(x:Int)(k:Nat)(hx:x=k)(w:World)(hlt:k<l.length)(hl:l.length<=281474976710656):Calls prog 211 #[.string ⟨l.toArray⟩,.int .i64 x] w λe w'=>e=.returned (.int .i64 (signLen (l.drop k):Nat))∧w=w':=by
 subst hx;obtain⟨c,hc⟩:∃c,({data:=l.toArray}:ByteArray)[k]'hlt=c:=⟨_,rfl⟩;have HC:=Lib.hid<|show l[k]=c from hc;have HS:=Lib.hid<|JJ hlt HC.out;cases E:((c.toNat:Int)==61)
 rotate_left
 ·by_cases h1:k+1<l.length
  ·have h1':(k:Int)+1<l.length:=by omega
   obtain⟨d,hd⟩:∃c,({data:=l.toArray}:ByteArray)[k+1]'h1=c:=⟨_,rfl⟩;have HD:=Lib.hid<|show l[k+1]=d from hd;cases G:((d.toNat:Int)==61)
   ·go_enter func211,ntmps211
    go_wp2
    go_ret
    exact⟨bw (by rw[HS.out,if_pos<|cJ (m:=61) E,if_neg λh=>bG (m:=61) G (by rw[<-aL h1 HD.out];exact h.2)];rfl),I⟩
   ·go_enter func211,ntmps211
    go_wp2
    go_ret
    exact⟨bw (by rw[HS.out,if_pos<|cJ (m:=61) E,if_pos ⟨h1,by rw[aL h1 HD.out];exact cJ (m:=61) G⟩];rfl),I⟩
  ·have h1':¬((k:Int)+1<l.length):=by omega
   go_enter func211,ntmps211
   go_wp2
   go_ret
   exact⟨bw (by rw[HS.out,if_pos<|cJ (m:=61) E,if_neg λh=>h1 h.1];rfl),I⟩
 cases J:((c.toNat:Int)==40)
 rotate_left
 ·go_enter func211,ntmps211
  go_wp2
  go_ret
  exact⟨bw (by rw[HS.out,if_neg<|bG (m:=61) E,if_pos<|by simp[cJ (m:=40) J]];rfl),rfl⟩
 cases U:((c.toNat:Int)==41)
 rotate_left
 ·go_enter func211,ntmps211
  go_wp2
  go_ret
  exact⟨bw (by rw[HS.out,if_neg<|bG (m:=61) E,if_pos<|by simp[cJ (m:=41) U]];rfl),rfl⟩
 cases Z:((c.toNat:Int)==91)
 rotate_left
 ·go_enter func211,ntmps211
  go_wp2
  go_ret
  exact⟨bw (by rw[HS.out,if_neg<|bG (m:=61) E,if_pos<|by simp[cJ (m:=91) Z]];rfl),rfl⟩
 cases h93:((c.toNat:Int)==93)
 rotate_left
 ·go_enter func211,ntmps211
  go_wp2
  go_ret
  exact⟨bw (by rw[HS.out,if_neg<|bG (m:=61) E,if_pos<|by simp[cJ (m:=93) h93]];rfl),rfl⟩
 cases h58:((c.toNat:Int)==58)
 rotate_left
 ·go_enter func211,ntmps211
  go_wp2
  go_ret
  exact⟨bw (by rw[HS.out,if_neg<|bG (m:=61) E,if_pos<|by simp[cJ (m:=58) h58]];rfl),rfl⟩
 cases h44:((c.toNat:Int)==44)
 rotate_left
 ·go_enter func211,ntmps211
  go_wp2
  go_ret
  exact⟨bw (by rw[HS.out,if_neg<|bG (m:=61) E,if_pos<|by simp[cJ (m:=44) h44]];rfl),rfl⟩
 cases h43:((c.toNat:Int)==43)
 rotate_left
 ·go_enter func211,ntmps211
  go_wp2
  go_ret
  exact⟨bw (by rw[HS.out,if_neg<|bG (m:=61) E,if_pos<|by simp[cJ (m:=43) h43]];rfl),rfl⟩
 cases h45:((c.toNat:Int)==45)
 rotate_left
 ·go_enter func211,ntmps211
  go_wp2
  go_ret
  exact⟨bw (by rw[HS.out,if_neg<|bG (m:=61) E,if_pos<|by simp[cJ (m:=45) h45]];rfl),rfl⟩
 cases h42:((c.toNat:Int)==42)
 rotate_left
 ·go_enter func211,ntmps211
  go_wp2
  go_ret
  exact⟨bw (by rw[HS.out,if_neg<|bG (m:=61) E,if_pos<|by simp[cJ (m:=42) h42]];rfl),rfl⟩
 cases h60:((c.toNat:Int)==60)
 rotate_left
 ·go_enter func211,ntmps211
  go_wp2
  go_ret
  exact⟨bw (by rw[HS.out,if_neg<|bG (m:=61) E,if_pos<|by simp[cJ (m:=60) h60]];rfl),rfl⟩
 cases h63:((c.toNat:Int)==63)
 rotate_left
 ·go_enter func211,ntmps211
  go_wp2
  go_ret
  exact⟨bw (by rw[HS.out,if_neg<|bG (m:=61) E,if_pos<|by simp[cJ (m:=63) h63]];rfl),rfl⟩
 go_enter func211,ntmps211
 go_wp2
 go_ret
 exact⟨bw (by rw[HS.out,if_neg<|bG (m:=61) E,if_neg<|by simp[bG (m:=40) J,bG (m:=41) U,bG (m:=91) Z,bG (m:=93) h93,bG (m:=58) h58,bG (m:=44) h44,bG (m:=43) h43,bG (m:=45) h45,bG (m:=42) h42,bG (m:=60) h60,bG (m:=63) h63]];rfl),rfl⟩
def nG(E:Nat)(t:Nat×Nat×Nat):Value:=
 if t.2.2=0 then .agg #[.int .i64 (t.2.1:Nat),.int .i64 (t.1:Nat),.int .i64 0,.int .i64 0]else .agg #[.int .i64 0,.int .i64 0,.int .i64 (t.2.2:Nat),.int .i64 ((E+t.2.1:Nat):Int)]
def xq(E:Nat)(t:Nat×Nat×Nat)(w:World)(e:Ending)(w':World):Prop:=e=.returned (nG E t)∧Ext w w'
variable{n k:Nat}{w':World}
theorem gu{E:Nat}{t:Nat×Nat×Nat}{w:World}{x y:Int}(h:t=(k,n,0))(hx:x=n)(hy:y=k)(G:Ext w w'):xq E t w (.returned<|.agg #[.int .i64 x,.int .i64 y,.int .i64 0,.int .i64 0]) w':=by subst h;subst hx;subst hy;exact⟨rfl,G⟩
theorem cQ{E e:Nat}{t:Nat×Nat×Nat}{w:World}{x y:Int}(h:t=(k,n,e))(G:¬e=0)(hx:x=e)(hy:y=((E+n:Nat):Int))(J:Ext w w'):xq E t w (.returned<|.agg #[.int .i64 0,.int .i64 0,.int .i64 x,.int .i64 y]) w':=by subst h;subst hx;subst hy;exact⟨by simp only[nG,if_neg G],J⟩
set_option maxHeartbeats 4000000 in
theorem QR(l:YB)(x:Int)(k:Nat)(hxk:x=k)(w:World)(hlt:k<l.length)(hle:bo (l[k]'hlt)=true)(hl:l.length<=281474976710656):Calls prog 210 #[.string ⟨l.toArray⟩,.int .i64 x] w (xq k (bX<|l.drop k) w):=by
 subst hxk;obtain⟨T,hT⟩:∃T,bX (l.drop k)=T:=⟨_,rfl⟩;rw[hT];have Z:0<(l.drop k).length:=by simp;omega
 obtain⟨c0,hc0⟩:∃c,({data:=l.toArray}:ByteArray)[k]'hlt=c:=⟨_,rfl⟩;have HCk:=Lib.hid<|show l[k]=c0 from hc0;have HC0:=Lib.hid (show(l.drop k)[0]=c0 from by rw[List.getElem_drop];exact hc0);have HL0:=Lib.hid<|show bo c0=true from hc0▸hle;obtain⟨n,hn⟩:∃n,spanN bm (l.drop k)=n:=⟨_,rfl⟩;have hnl:k+n<=l.length:=by have :=lC bm<|l.drop k;simp at this;omega
 have HN:=Lib.hid hn;have HW0:=Lib.hid (show ij (l.drop k)=n from by rw[ij,aL Z HC0.out,if_pos HL0.out];exact hn);clear hn hle;obtain⟨E,hE⟩:∃E,k+n=E:=⟨_,rfl⟩;have hE1:(k:Int)+n=(E:Nat):=by omega
 have hE2:E-k=n:=by omega
 have hE3:E<=l.length:=by omega
 have hkE:k<=E:=by omega
 have HE:=Lib.hid hE;clear hE;have hx:=wZ;have hx2:=nH
 go_enter func210,ntmps210
 go_wp2_with fail
 refine(jj _ _ k I _ (by omega) hl).mono ?_;rintro e w' ⟨rfl,rfl⟩;rw[HW0.out];cases hr:ke<|(l.drop k).take n
 rotate_left
 ·cases hu:upperB c0
  all_goals
   have HQ:=Lib.hid<|iP HN.out<|LG HN.out hr;by_cases G:24<n
   ·skip
    have HW:=Lib.hid (show T=(0,0,3)from by rw[<-hT,HQ.out,bL,if_pos G])
    go_wp2_with (first|(go_at_call 209;refine qmm (ba _ _) ?_)|(go_at_call 217;refine qmm (dg _ _) ?_)|(go_at_call 216;refine qmm (jj _ _ (E+1) (by omega) _ (by omega) hl) ?_))
    exact bodyPost_ret (v:=.agg #[.int .i64 0,.int .i64 0,.int .i64 3,.int .i64 k]) (by simp[results,results210,go_sem]) rfl (cQ HW.out (by omega) (by omega) (by omega) qEx)
   ·skip
    have HW:=Lib.hid (show T=(7,n,0)from by rw[<-hT,HQ.out,bL,if_neg G,if_pos hr])
    go_wp2_with (first|(go_at_call 209;refine qmm (ba _ _) ?_)|(go_at_call 217;refine qmm (dg _ _) ?_)|(go_at_call 216;refine qmm (jj _ _ (E+1) (by omega) _ (by omega) hl) ?_))
    exact bodyPost_ret (v:=.agg #[.int .i64 n,.int .i64 7,.int .i64 0,.int .i64 0]) (by simp[results,results210,go_sem]) rfl (gu HW.out (by omega) (by omega) qEx)
 cases hu:upperB c0
 ·skip
  have HQ:=Lib.hid<|iP HN.out<|Kv Z HC0.out hu;by_cases G:24<n
  ·skip
   have HW:=Lib.hid (show T=(0,0,3)from by rw[<-hT,HQ.out,bL,if_pos G])
   go_wp2_with (first|(go_at_call 209;refine qmm (ba _ _) ?_)|(go_at_call 217;refine qmm (dg _ _) ?_)|(go_at_call 216;refine qmm (jj _ _ (E+1) (by omega) _ (by omega) hl) ?_))
   exact bodyPost_ret (v:=.agg #[.int .i64 0,.int .i64 0,.int .i64 3,.int .i64 k]) (by simp[results,results210,go_sem]) rfl (cQ HW.out (by omega) (by omega) (by omega) qEx)
  ·skip
   have HW:=Lib.hid (show T=(1,n,0)from by rw[<-hT,HQ.out,bL,if_neg G,if_neg (by simp[hr]),if_pos (by rw[aL Z HC0.out];exact Fb HL0.out hu)])
   go_wp2_with (first|(go_at_call 209;refine qmm (ba _ _) ?_)|(go_at_call 217;refine qmm (dg _ _) ?_)|(go_at_call 216;refine qmm (jj _ _ (E+1) (by omega) _ (by omega) hl) ?_))
   exact bodyPost_ret (v:=.agg #[.int .i64 n,.int .i64 1,.int .i64 0,.int .i64 0]) (by simp[results,results210,go_sem]) rfl (gu HW.out (by omega) (by omega) qEx)
 by_cases h2:E+1<l.length
 rotate_left
 ·have h2':¬((E:Int)+1<l.length):=by omega
  have HQ:=Lib.hid (iP HN.out<|LC HN.out (by have :=HE.out;simp;omega));by_cases G:24<n
  ·skip
   have HW:=Lib.hid (show T=(0,0,3)from by rw[<-hT,HQ.out,bL,if_pos G])
   go_wp2_with (first|(go_at_call 209;refine qmm (ba _ _) ?_)|(go_at_call 217;refine qmm (dg _ _) ?_)|(go_at_call 216;refine qmm (jj _ _ (E+1) (by omega) _ (by omega) hl) ?_))
   exact bodyPost_ret (v:=.agg #[.int .i64 0,.int .i64 0,.int .i64 3,.int .i64 k]) (by simp[results,results210,go_sem]) rfl (cQ HW.out (by omega) (by omega) (by omega) qEx)
  ·skip
   have HW:=Lib.hid (show T=(2,n,0)from by rw[<-hT,HQ.out,bL,if_neg G,if_neg (by simp[hr]),if_neg (by rw[aL Z HC0.out];simp[uP hu])])
   go_wp2_with (first|(go_at_call 209;refine qmm (ba _ _) ?_)|(go_at_call 217;refine qmm (dg _ _) ?_)|(go_at_call 216;refine qmm (jj _ _ (E+1) (by omega) _ (by omega) hl) ?_))
   exact bodyPost_ret (v:=.agg #[.int .i64 n,.int .i64 2,.int .i64 0,.int .i64 0]) (by simp[results,results210,go_sem]) rfl (gu HW.out (by omega) (by omega) qEx)
 have hn1:E<l.length:=by omega
 obtain⟨c1,hc1⟩:∃c,({data:=l.toArray}:ByteArray)[E]'hn1=c:=⟨_,rfl⟩;have HC1a:=Lib.hid<|show l[E]=c1 from hc1;obtain⟨c2,hc2⟩:∃c,({data:=l.toArray}:ByteArray)[E+1]'h2=c:=⟨_,rfl⟩;have HC2a:=Lib.hid<|show l[E+1]=c2 from hc2;have U:n<(l.drop k).length:=by have :=HE.out;simp;omega
 have J:n+1<(l.drop k).length:=by have :=HE.out;simp;omega
 have HC1:=Lib.hid (show(l.drop k)[n]=c1 from by rw[List.getElem_drop];simp only[HE.out];exact hc1);have HC2:=Lib.hid (show(l.drop k)[n+1]=c2 from by rw[List.getElem_drop];simp only[<-aav,HE.out];exact hc2);have HGE:=Lib.hid (show(l.drop<|E+1).getD 0 0=c2 from by rw[xY];exact aL h2 HC2a.out);cases h46:((c1.toNat:Int)==46)
 ·skip
  have HQ:=Lib.hid<|iP HN.out<|Kr HN.out U HC1.out h46;by_cases G:24<n
  ·skip
   have HW:=Lib.hid (show T=(0,0,3)from by rw[<-hT,HQ.out,bL,if_pos G])
   go_wp2_with (first|(go_at_call 209;refine qmm (ba _ _) ?_)|(go_at_call 217;refine qmm (dg _ _) ?_)|(go_at_call 216;refine qmm (jj _ _ (E+1) (by omega) _ (by omega) hl) ?_))
   exact bodyPost_ret (v:=.agg #[.int .i64 0,.int .i64 0,.int .i64 3,.int .i64 k]) (by simp[results,results210,go_sem]) rfl (cQ HW.out (by omega) (by omega) (by omega) qEx)
  ·skip
   have HW:=Lib.hid (show T=(2,n,0)from by rw[<-hT,HQ.out,bL,if_neg G,if_neg (by simp[hr]),if_neg (by rw[aL Z HC0.out];simp[uP hu])])
   go_wp2_with (first|(go_at_call 209;refine qmm (ba _ _) ?_)|(go_at_call 217;refine qmm (dg _ _) ?_)|(go_at_call 216;refine qmm (jj _ _ (E+1) (by omega) _ (by omega) hl) ?_))
   exact bodyPost_ret (v:=.agg #[.int .i64 n,.int .i64 2,.int .i64 0,.int .i64 0]) (by simp[results,results210,go_sem]) rfl (gu HW.out (by omega) (by omega) qEx)
 cases h3:bo c2
 ·have hm:ij (l.drop<|E+1)=0:=by rw[ij,HGE.out];simp[h3]
  have HQ:=Lib.hid<|iP HN.out<|LQ HN.out J HC2.out h3;by_cases G:24<n
  ·skip
   have HW:=Lib.hid (show T=(0,0,3)from by rw[<-hT,HQ.out,bL,if_pos G])
   go_wp2_with (first|(go_at_call 209;refine qmm (ba _ _) ?_)|(go_at_call 217;refine qmm (dg _ _) ?_)|(go_at_call 216;refine qmm (jj _ _ (E+1) (by omega) _ (by omega) hl) ?_))
   exact bodyPost_ret (v:=.agg #[.int .i64 0,.int .i64 0,.int .i64 3,.int .i64 k]) (by simp[results,results210,go_sem]) rfl (cQ HW.out (by omega) (by omega) (by omega) qEx)
  ·skip
   have HW:=Lib.hid (show T=(2,n,0)from by rw[<-hT,HQ.out,bL,if_neg G,if_neg (by simp[hr]),if_neg (by rw[aL Z HC0.out];simp[uP hu])])
   go_wp2_with (first|(go_at_call 209;refine qmm (ba _ _) ?_)|(go_at_call 217;refine qmm (dg _ _) ?_)|(go_at_call 216;refine qmm (jj _ _ (E+1) (by omega) _ (by omega) hl) ?_))
   exact bodyPost_ret (v:=.agg #[.int .i64 n,.int .i64 2,.int .i64 0,.int .i64 0]) (by simp[results,results210,go_sem]) rfl (gu HW.out (by omega) (by omega) qEx)
 obtain⟨m,hm⟩:∃m,ij (l.drop (E+1))=m:=⟨_,rfl⟩;have HM:=Lib.hid (show spanN bm (l.drop<|E+1)=m from by rw[<-hm,ij,HGE.out,if_pos h3]);have hm0:0<m:=by have h:=yn (p:=bm) (l:=l.drop<|E+1) (by simp;omega) (by rw[HGE.out];simp[bm,h3]);rw[HM.out]at h;exact h
 have hml:E+1+m<=l.length:=by have h:=lC bm<|l.drop<|E+1;rw[HM.out]at h;simp at h;omega
 have he:E+1+m-(E+1)=m:=by omega
 have hsl:0<((l.drop<|E+1).take m).length:=by simp;omega
 have hs0:({data:=((l.drop<|E+1).take m).toArray}:ByteArray)[0]'hsl=c2:=by
  show((l.drop<|E+1).take m)[0]=c2;rw[List.getElem_take,List.getElem_drop];exact hc2
 have HQ:=Lib.hid (CP (m:=m) HN.out (by have h:=HM.out;rw[<-HE.out]at h;rw[List.drop_drop];exact h)<|Gh HN.out Z HC0.out hu hr J U HC1.out h46 HC2.out h3);have HDD:=Lib.hid (show((l.drop k).drop<|n+1).take m=(l.drop<|E+1).take m from by rw[List.drop_drop,<-HE.out,aav]);cases hu2:upperB c2
 all_goals
  by_cases G:24<n
  ·skip
   have HW:=Lib.hid (show T=(0,0,3)from by rw[<-hT,HQ.out,fg,if_pos<|.inl G])
   go_wp2_with (first|(go_at_call 209;refine qmm (ba _ _) ?_)|(go_at_call 217;refine qmm (dg _ _) ?_)|(go_at_call 216;refine qmm (jj _ _ (E+1) (by omega) _ (by omega) hl) ?_))
   exact bodyPost_ret (v:=.agg #[.int .i64 0,.int .i64 0,.int .i64 3,.int .i64 k]) (by simp[results,results210,go_sem]) rfl (cQ HW.out (by omega) (by omega) (by omega) qEx)
  by_cases h24m:24<m
  ·skip
   have HW:=Lib.hid (show T=(0,0,3)from by rw[<-hT,HQ.out,fg,if_pos<|.inr h24m])
   go_wp2_with (first|(go_at_call 209;refine qmm (ba _ _) ?_)|(go_at_call 217;refine qmm (dg _ _) ?_)|(go_at_call 216;refine qmm (jj _ _ (E+1) (by omega) _ (by omega) hl) ?_))
   exact bodyPost_ret (v:=.agg #[.int .i64 0,.int .i64 0,.int .i64 3,.int .i64 k]) (by simp[results,results210,go_sem]) rfl (cQ HW.out (by omega) (by omega) (by omega) qEx)
  cases hr2:ke ((l.drop (E+1)).take m)
  rotate_left
  ·skip
   have HW:=Lib.hid (show T=(0,0,2)from by rw[<-hT,HQ.out,fg,if_neg (by omega),if_pos (by rw[HDD.out];exact hr2)])
   go_wp2_with (first|(go_at_call 209;refine qmm (ba _ _) ?_)|(go_at_call 217;refine qmm (dg _ _) ?_)|(go_at_call 216;refine qmm (jj _ _ (E+1) (by omega) _ (by omega) hl) ?_))
   exact bodyPost_ret (v:=.agg #[.int .i64 0,.int .i64 0,.int .i64 2,.int .i64 k]) (by simp[results,results210,go_sem]) rfl (cQ HW.out (by omega) (by omega) (by omega) qEx)
  first
  |have HW:=Lib.hid (show T=(3,n+1+m,0)from by rw[<-hT,HQ.out,fg,if_neg (by omega),if_neg (by rw[HDD.out];simp[hr2]),if_pos (by rw[aL J HC2.out];exact Fb h3 hu2)])
   go_wp2_with (first|(go_at_call 209;refine qmm (ba _ _) ?_)|(go_at_call 217;refine qmm (dg _ _) ?_)|(go_at_call 216;refine qmm (jj _ _ (E+1) (by omega) _ (by omega) hl) ?_))
   exact bodyPost_ret (v:=.agg #[.int .i64<|n+1+m,.int .i64 3,.int .i64 0,.int .i64 0]) (by simp[results,results210,go_sem]) rfl (gu HW.out (by omega) (by omega) qEx)
  |have HW:=Lib.hid (show T=(4,n+1+m,0)from by rw[<-hT,HQ.out,fg,if_neg (by omega),if_neg (by rw[HDD.out];simp[hr2]),if_neg (by rw[aL J HC2.out];simp[uP hu2])])
   go_wp2_with (first|(go_at_call 209;refine qmm (ba _ _) ?_)|(go_at_call 217;refine qmm (dg _ _) ?_)|(go_at_call 216;refine qmm (jj _ _ (E+1) (by omega) _ (by omega) hl) ?_))
   exact bodyPost_ret (v:=.agg #[.int .i64<|n+1+m,.int .i64 4,.int .i64 0,.int .i64 0]) (by simp[results,results210,go_sem]) rfl (gu HW.out (by omega) (by omega) qEx)
theorem IP(E:Nat)(t:Nat×Nat×Nat):∃a b c d:Int,nG E t=.agg #[.int .i64 a,.int .i64 b,.int .i64 c,.int .i64 d]:=by unfold nG;split<;>exact⟨_,_,_,_,rfl⟩
abbrev Dl:Obj:=.cells #[.int .i64 0,.int .i64 0,.int .i64 0,.int .i64 0] 216
set_option maxHeartbeats 4000000 in
theorem Oo (l:List UInt8) (x:Int) (k:Nat) (hxk:x=k) (w:World) (hlt:k<l.length) (hl:l.length<=281474976710656):Calls prog 192 #[.string ⟨l.toArray⟩,.int .i64 x] w (xq k (tokenT<|l.drop k) w):=by
 subst hxk;obtain⟨T,hT⟩:∃T,tokenT (l.drop k)=T:=⟨_,rfl⟩;rw[hT];have h0:0<(l.drop k).length:=by simp;omega
 obtain⟨c,hc⟩:∃c,({data:=l.toArray}:ByteArray)[k]'hlt=c:=⟨_,rfl⟩;have HC:=Lib.hid<|show l[k]=c from hc;have HC0:=Lib.hid (show(l.drop k)[0]=c from by rw[List.getElem_drop];exact hc);have HT:=Lib.hid<|(yH h0 HC0.out).symm.trans hT;clear hT
 go_enter func192,ntmps192
 cases ha:aT c
 ·skip
  have HW:=Lib.hid (show T=(0,0,1)from by rw[<-HT.out,if_pos ha])
  go_wp2_with (first|(go_at_call 205;refine qmm (bf _ _) ?_)|(go_at_call 206;refine qmm (bT _ _) ?_)|(go_at_call 207;refine qmm (dh _ _) ?_)|(go_at_call 208;refine qmm (cc _ _) ?_)|(go_at_call 209;refine qmm (ba _ _) ?_)|(go_at_call 211;refine qmm (eJ _ _ k rfl _ hlt hl) ?_))
  exact bodyPost_ret (v:=.agg #[.int .i64 0,.int .i64 0,.int .i64 1,.int .i64 k]) (by simp[results,results192,go_sem]) rfl (cQ HW.out (by omega) (by omega) (by omega) qEx)
 have HA:=Lib.hid (show¬aT c=false from by simp[ha]);cases h34:((c.toNat:Int)==34)
 rotate_left
 ·have h34':=cJ (m:=34) h34;have HT2:=Lib.hid (show T=(6,quotedT (l.drop (k+1)) 1)from by
   rw[<-HT.out,if_neg HA.out,if_neg (by simp[bo,cv,upperB,h34']),if_neg (by simp[bC,h34']),if_pos h34',List.tail_drop])
  clear h34'
  go_wp2_with (first|(go_at_call 205;refine qmm (bf _ _) ?_)|(go_at_call 206;refine qmm (bT _ _) ?_)|(go_at_call 207;refine qmm (dh _ _) ?_)|(go_at_call 208;refine qmm (cc _ _) ?_)|(go_at_call 209;refine qmm (ba _ _) ?_)|(go_at_call 211;refine qmm (eJ _ _ k rfl _ hlt hl) ?_))
  go_loopg [6] (l.length-(k+1)) (λg n wx=>∃i:Nat,g=l.length-i∧wx=w.alloc Dl∧k+1<=i∧i<=l.length∧n=.int .i64 i∧Hid (quotedT (l.drop<|k+1) 1=quotedT (l.drop i) (i-k)))
  case atStart=>exact⟨k+1,rfl,rfl,aag _,by omega,by go_num,Lib.hid (by congr 1;omega)⟩
  case round=>
   obtain⟨i,rfl,rfl,hki,hil,rfl,hrel⟩:=hrel;by_cases hit:i<l.length
   ·skip
    obtain⟨d,hd⟩:∃c,({data:=l.toArray}:ByteArray)[i]'hit=c:=⟨_,rfl⟩;have HD:=Lib.hid<|show l[i]=d from hd;have HS:=Lib.hid<|Jc (j:=i-k) hit HD.out;cases hq:((d.toNat:Int)==34)
    rotate_left
    ·have HW:=Lib.hid (show T=(6,i-k+1,0)from by rw[HT2.out,hrel.out,HS.out,if_neg (by simp[Du<|cJ (m:=34) hq]),if_pos<|cJ (m:=34) hq])
     go_wp2_with (first|(go_at_call 205;refine qmm (bf _ _) ?_)|(go_at_call 206;refine qmm (bT _ _) ?_)|(go_at_call 207;refine qmm (dh _ _) ?_)|(go_at_call 208;refine qmm (cc _ _) ?_)|(go_at_call 209;refine qmm (ba _ _) ?_)|(go_at_call 211;refine qmm (eJ _ _ k rfl _ hlt hl) ?_))
     exact bodyPost_ret (v:=.agg #[.int .i64<|(i:Int)+1-k,.int .i64 6,.int .i64 0,.int .i64 0]) (by simp[results,results192,go_sem]) rfl (gu HW.out (by omega) (by omega) qEx)
    cases had:aT d
    ·have HW:=Lib.hid (show T=(6,i-k,1)from by rw[HT2.out,hrel.out,HS.out,if_pos had])
     go_wp2_with (first|(go_at_call 205;refine qmm (bf _ _) ?_)|(go_at_call 206;refine qmm (bT _ _) ?_)|(go_at_call 207;refine qmm (dh _ _) ?_)|(go_at_call 208;refine qmm (cc _ _) ?_)|(go_at_call 209;refine qmm (ba _ _) ?_)|(go_at_call 211;refine qmm (eJ _ _ k rfl _ hlt hl) ?_))
     exact bodyPost_ret (v:=.agg #[.int .i64 0,.int .i64 0,.int .i64 1,.int .i64 i]) (by simp[results,results192,go_sem]) rfl (cQ HW.out (by omega) (by omega) (by omega) qEx)
    cases hpr:dM d
    ·have HW:=Lib.hid (show T=(6,0,2)from by rw[HT2.out,hrel.out,HS.out,if_neg (by simp[had]),if_neg<|bG (m:=34) hq,if_pos<|.inr<|IS had hpr])
     go_wp2_with (first|(go_at_call 205;refine qmm (bf _ _) ?_)|(go_at_call 206;refine qmm (bT _ _) ?_)|(go_at_call 207;refine qmm (dh _ _) ?_)|(go_at_call 208;refine qmm (cc _ _) ?_)|(go_at_call 209;refine qmm (ba _ _) ?_)|(go_at_call 211;refine qmm (eJ _ _ k rfl _ hlt hl) ?_))
     exact bodyPost_ret (v:=.agg #[.int .i64 0,.int .i64 0,.int .i64 2,.int .i64 k]) (by simp[results,results192,go_sem]) rfl (cQ HW.out (by omega) (by omega) (by omega) qEx)
    cases h92:((d.toNat:Int)==92)
    rotate_left
    ·have HW:=Lib.hid (show T=(6,0,2)from by rw[HT2.out,hrel.out,HS.out,if_neg (by simp[had]),if_neg<|bG (m:=34) hq,if_pos<|.inl<|cJ (m:=92) h92])
     go_wp2_with (first|(go_at_call 205;refine qmm (bf _ _) ?_)|(go_at_call 206;refine qmm (bT _ _) ?_)|(go_at_call 207;refine qmm (dh _ _) ?_)|(go_at_call 208;refine qmm (cc _ _) ?_)|(go_at_call 209;refine qmm (ba _ _) ?_)|(go_at_call 211;refine qmm (eJ _ _ k rfl _ hlt hl) ?_))
     exact bodyPost_ret (v:=.agg #[.int .i64 0,.int .i64 0,.int .i64 2,.int .i64 k]) (by simp[results,results192,go_sem]) rfl (cQ HW.out (by omega) (by omega) (by omega) qEx)
    ·go_wp2_with (first|(go_at_call 205;refine qmm (bf _ _) ?_)|(go_at_call 206;refine qmm (bT _ _) ?_)|(go_at_call 207;refine qmm (dh _ _) ?_)|(go_at_call 208;refine qmm (cc _ _) ?_)|(go_at_call 209;refine qmm (ba _ _) ?_)|(go_at_call 211;refine qmm (eJ _ _ k rfl _ hlt hl) ?_))
     go_roundg (l.length-(i+1))
     case measure=>omega
     case rel=>exact⟨i+1,rfl,rfl,by omega,by omega,by go_num,Lib.hid (by rw[hrel.out,HS.out,if_neg (by simp[had]),if_neg<|bG (m:=34) hq,if_neg λh=>h.elim (bG (m:=92) h92)<|IQ hpr];congr 1;omega)⟩
   ·have HW:=Lib.hid (show T=(6,0,2)from by rw[HT2.out,hrel.out,BR<|by omega])
    go_wp2_with (first|(go_at_call 205;refine qmm (bf _ _) ?_)|(go_at_call 206;refine qmm (bT _ _) ?_)|(go_at_call 207;refine qmm (dh _ _) ?_)|(go_at_call 208;refine qmm (cc _ _) ?_)|(go_at_call 209;refine qmm (ba _ _) ?_)|(go_at_call 211;refine qmm (eJ _ _ k rfl _ hlt hl) ?_))
    exact bodyPost_ret (v:=.agg #[.int .i64 0,.int .i64 0,.int .i64 2,.int .i64 k]) (by simp[results,results192,go_sem]) rfl (cQ HW.out (by omega) (by omega) (by omega) qEx)
 cases hdg:bC c
 rotate_left
 ·have HT2:=Lib.hid (show T=(5,eo (l.drop k))from by
   rw[<-HT.out,if_neg HA.out,if_neg (by simp[bo,cv,upperB,bC]at hdg⊢;omega),if_pos hdg])
  go_wp2_with (first|(go_at_call 205;refine qmm (bf _ _) ?_)|(go_at_call 206;refine qmm (bT _ _) ?_)|(go_at_call 207;refine qmm (dh _ _) ?_)|(go_at_call 208;refine qmm (cc _ _) ?_)|(go_at_call 209;refine qmm (ba _ _) ?_)|(go_at_call 211;refine qmm (eJ _ _ k rfl _ hlt hl) ?_))
  go_loopg [7] (l.length-k) (λg n wx=>∃i:Nat,g=l.length-i∧wx=w.alloc Dl∧k<=i∧i<=l.length∧n=.int .i64 i∧Hid (spanN bC (l.drop k)=i-k+spanN bC (l.drop i)))
  case atStart=>exact⟨k,rfl,rfl,aag _,by omega,rfl,Lib.hid<|by omega⟩
  case round=>
   obtain⟨i,rfl,rfl,hki,hil,rfl,hrel⟩:=hrel;by_cases hit:i<l.length
   ·skip
    obtain⟨d,hd⟩:∃c,({data:=l.toArray}:ByteArray)[i]'hit=c:=⟨_,rfl⟩;have HD:=Lib.hid<|show l[i]=d from hd;cases hdd:bC d
    ·skip
     have HN:=Lib.hid (show spanN bC (l.drop k)=i-k from by rw[hrel.out,rP hit HD.out hdd];omega);by_cases h1:1<i-k
     ·have h1':(1:Int)<i-k:=by omega
      cases h48:((c.toNat:Int)==48)
      ·have HG:=Lib.hid (show 1<i-k->¬((l.drop k).getD 0 0).toNat=48 from λ_=>by rw[aL h0 HC0.out];exact bG (m:=48) h48);by_cases h15:15<i-k
       ·have h15':(15:Int)<i-k:=by omega
        have HW:=Lib.hid (show T=(5,0,3)from by rw[HT2.out,oU HN.out HG.out h15])
        go_wp2_with (first|(go_at_call 205;refine qmm (bf _ _) ?_)|(go_at_call 206;refine qmm (bT _ _) ?_)|(go_at_call 207;refine qmm (dh _ _) ?_)|(go_at_call 208;refine qmm (cc _ _) ?_)|(go_at_call 209;refine qmm (ba _ _) ?_)|(go_at_call 211;refine qmm (eJ _ _ k rfl _ hlt hl) ?_))
        exact bodyPost_ret (v:=.agg #[.int .i64 0,.int .i64 0,.int .i64 3,.int .i64 k]) (by simp[results,results192,go_sem]) rfl (cQ HW.out (by omega) (by omega) (by omega) qEx)
       ·have h15':¬((15:Int)<i-k):=by omega
        have HW:=Lib.hid (show T=(5,i-k,0)from by rw[HT2.out,io HN.out HG.out h15])
        go_wp2_with (first|(go_at_call 205;refine qmm (bf _ _) ?_)|(go_at_call 206;refine qmm (bT _ _) ?_)|(go_at_call 207;refine qmm (dh _ _) ?_)|(go_at_call 208;refine qmm (cc _ _) ?_)|(go_at_call 209;refine qmm (ba _ _) ?_)|(go_at_call 211;refine qmm (eJ _ _ k rfl _ hlt hl) ?_))
        exact bodyPost_ret (v:=.agg #[.int .i64<|(i:Int)-k,.int .i64 5,.int .i64 0,.int .i64 0]) (by simp[results,results192,go_sem]) rfl (gu HW.out (by omega) (by omega) qEx)
      ·skip
       have HW:=Lib.hid (show T=(5,0,2)from by rw[HT2.out,pu HN.out h1 h0 HC0.out h48])
       go_wp2_with (first|(go_at_call 205;refine qmm (bf _ _) ?_)|(go_at_call 206;refine qmm (bT _ _) ?_)|(go_at_call 207;refine qmm (dh _ _) ?_)|(go_at_call 208;refine qmm (cc _ _) ?_)|(go_at_call 209;refine qmm (ba _ _) ?_)|(go_at_call 211;refine qmm (eJ _ _ k rfl _ hlt hl) ?_))
       exact bodyPost_ret (v:=.agg #[.int .i64 0,.int .i64 0,.int .i64 2,.int .i64 k]) (by simp[results,results192,go_sem]) rfl (cQ HW.out (by omega) (by omega) (by omega) qEx)
     ·have h1':¬((1:Int)<i-k):=by omega
      have h15':¬((15:Int)<i-k):=by omega
      have HW:=Lib.hid (show T=(5,i-k,0)from by rw[HT2.out,io HN.out (λh=>absurd h h1)<|by omega])
      go_wp2_with (first|(go_at_call 205;refine qmm (bf _ _) ?_)|(go_at_call 206;refine qmm (bT _ _) ?_)|(go_at_call 207;refine qmm (dh _ _) ?_)|(go_at_call 208;refine qmm (cc _ _) ?_)|(go_at_call 209;refine qmm (ba _ _) ?_)|(go_at_call 211;refine qmm (eJ _ _ k rfl _ hlt hl) ?_))
      exact bodyPost_ret (v:=.agg #[.int .i64<|(i:Int)-k,.int .i64 5,.int .i64 0,.int .i64 0]) (by simp[results,results192,go_sem]) rfl (gu HW.out (by omega) (by omega) qEx)
    ·go_wp2_with (first|(go_at_call 205;refine qmm (bf _ _) ?_)|(go_at_call 206;refine qmm (bT _ _) ?_)|(go_at_call 207;refine qmm (dh _ _) ?_)|(go_at_call 208;refine qmm (cc _ _) ?_)|(go_at_call 209;refine qmm (ba _ _) ?_)|(go_at_call 211;refine qmm (eJ _ _ k rfl _ hlt hl) ?_))
     go_roundg (l.length-(i+1))
     case measure=>omega
     case rel=>exact⟨i+1,rfl,rfl,by omega,by omega,by go_num,Lib.hid (by rw[hrel.out,lZ hit HD.out hdd];omega)⟩
   ·skip
    have HN:=Lib.hid (show spanN bC (l.drop k)=i-k from by rw[hrel.out,uo<|by omega];omega);by_cases h1:1<i-k
    ·have h1':(1:Int)<i-k:=by omega
     cases h48:((c.toNat:Int)==48)
     ·have HG:=Lib.hid (show 1<i-k->¬((l.drop k).getD 0 0).toNat=48 from λ_=>by rw[aL h0 HC0.out];exact bG (m:=48) h48);by_cases h15:15<i-k
      ·have h15':(15:Int)<i-k:=by omega
       have HW:=Lib.hid (show T=(5,0,3)from by rw[HT2.out,oU HN.out HG.out h15])
       go_wp2_with (first|(go_at_call 205;refine qmm (bf _ _) ?_)|(go_at_call 206;refine qmm (bT _ _) ?_)|(go_at_call 207;refine qmm (dh _ _) ?_)|(go_at_call 208;refine qmm (cc _ _) ?_)|(go_at_call 209;refine qmm (ba _ _) ?_)|(go_at_call 211;refine qmm (eJ _ _ k rfl _ hlt hl) ?_))
       exact bodyPost_ret (v:=.agg #[.int .i64 0,.int .i64 0,.int .i64 3,.int .i64 k]) (by simp[results,results192,go_sem]) rfl (cQ HW.out (by omega) (by omega) (by omega) qEx)
      ·have h15':¬((15:Int)<i-k):=by omega
       have HW:=Lib.hid (show T=(5,i-k,0)from by rw[HT2.out,io HN.out HG.out h15])
       go_wp2_with (first|(go_at_call 205;refine qmm (bf _ _) ?_)|(go_at_call 206;refine qmm (bT _ _) ?_)|(go_at_call 207;refine qmm (dh _ _) ?_)|(go_at_call 208;refine qmm (cc _ _) ?_)|(go_at_call 209;refine qmm (ba _ _) ?_)|(go_at_call 211;refine qmm (eJ _ _ k rfl _ hlt hl) ?_))
       exact bodyPost_ret (v:=.agg #[.int .i64<|(i:Int)-k,.int .i64 5,.int .i64 0,.int .i64 0]) (by simp[results,results192,go_sem]) rfl (gu HW.out (by omega) (by omega) qEx)
     ·skip
      have HW:=Lib.hid (show T=(5,0,2)from by rw[HT2.out,pu HN.out h1 h0 HC0.out h48])
      go_wp2_with (first|(go_at_call 205;refine qmm (bf _ _) ?_)|(go_at_call 206;refine qmm (bT _ _) ?_)|(go_at_call 207;refine qmm (dh _ _) ?_)|(go_at_call 208;refine qmm (cc _ _) ?_)|(go_at_call 209;refine qmm (ba _ _) ?_)|(go_at_call 211;refine qmm (eJ _ _ k rfl _ hlt hl) ?_))
      exact bodyPost_ret (v:=.agg #[.int .i64 0,.int .i64 0,.int .i64 2,.int .i64 k]) (by simp[results,results192,go_sem]) rfl (cQ HW.out (by omega) (by omega) (by omega) qEx)
    ·have h1':¬((1:Int)<i-k):=by omega
     have h15':¬((15:Int)<i-k):=by omega
     have HW:=Lib.hid (show T=(5,i-k,0)from by rw[HT2.out,io HN.out (λh=>absurd h h1)<|by omega])
     go_wp2_with (first|(go_at_call 205;refine qmm (bf _ _) ?_)|(go_at_call 206;refine qmm (bT _ _) ?_)|(go_at_call 207;refine qmm (dh _ _) ?_)|(go_at_call 208;refine qmm (cc _ _) ?_)|(go_at_call 209;refine qmm (ba _ _) ?_)|(go_at_call 211;refine qmm (eJ _ _ k rfl _ hlt hl) ?_))
     exact bodyPost_ret (v:=.agg #[.int .i64<|(i:Int)-k,.int .i64 5,.int .i64 0,.int .i64 0]) (by simp[results,results192,go_sem]) rfl (gu HW.out (by omega) (by omega) qEx)
 have HDg:=Lib.hid (show¬bC c=true from by simp[hdg]);have HQt:=Lib.hid<|bG (m:=34) h34;cases hle:bo c
 rotate_left
 ·have HT2:=Lib.hid (show bX (l.drop k)=T from by rw[<-HT.out,if_neg HA.out,if_pos hle]);obtain⟨a0,a1,a2,a3,hform⟩:=IP k T;have HF:=Lib.hid hform;have CW:=Lib.hid (λw=>QR l k k rfl w hlt (by rw[HC.out];exact hle) hl);clear hform;have hbe:cv c=true∨(cv c=false∧upperB c=true):=by cases h:cv c<;>simp_all[bo]
  rcases hbe with hlo|⟨hlo,hup⟩
  all_goals
   go_wp2_with (first|(go_at_call 205;refine qmm (bf _ _) ?_)|(go_at_call 206;refine qmm (bT _ _) ?_)|(go_at_call 207;refine qmm (dh _ _) ?_)|(go_at_call 208;refine qmm (cc _ _) ?_)|(go_at_call 209;refine qmm (ba _ _) ?_)|(go_at_call 211;refine qmm (eJ _ _ k rfl _ hlt hl) ?_))
   refine(CW.out _).mono ?_;rintro e w1 ⟨rfl,hext⟩;rw[HT2.out,HF.out];have hsz:=hext.size;have hc0:=hext.cell (p:=⟨w.heap.size,0,none⟩) (by simp);have hc1:=hext.cell (p:=⟨w.heap.size,1,none⟩) (by simp);have hc2:=hext.cell (p:=⟨w.heap.size,2,none⟩) (by simp);have hc3:=hext.cell (p:=⟨w.heap.size,3,none⟩) (by simp);have hf0:=hext.frozen (p:=⟨w.heap.size,0,none⟩) (by simp);have hf1:=hext.frozen (p:=⟨w.heap.size,1,none⟩) (by simp);have hf2:=hext.frozen (p:=⟨w.heap.size,2,none⟩) (by simp);have hf3:=hext.frozen (p:=⟨w.heap.size,3,none⟩) (by simp);have HX:=Lib.hid hext;clear hext;simp at hsz hc0 hc1 hc2 hc3 hf0 hf1 hf2 hf3
   go_wp2_with (first|(go_at_call 205;refine qmm (bf _ _) ?_)|(go_at_call 206;refine qmm (bT _ _) ?_)|(go_at_call 207;refine qmm (dh _ _) ?_)|(go_at_call 208;refine qmm (cc _ _) ?_)|(go_at_call 209;refine qmm (ba _ _) ?_)|(go_at_call 211;refine qmm (eJ _ _ k rfl _ hlt hl) ?_))
   exact bodyPost_ret (v:=.agg #[.int .i64 a0,.int .i64 a1,.int .i64 a2,.int .i64 a3]) (by simp[results,results192,go_sem,hc0,hc1,hc2,hc3]) rfl ⟨by rw[HF.out],(((((Ext.refl w).alloc _).trans HX.out).setCell (aag _) _).setCell (aag _) _).setCell (aag _) _|>.setCell (aag _) _⟩
 have HLt:=Lib.hid (show¬bo c=true from by simp[hle]);have hlo:cv c=false:=by cases h:cv c<;>simp_all[bo]
 have hup:upperB c=false:=by cases h:upperB c<;>simp_all[bo]
 have HSg:=Lib.hid (KG (l.drop k));have HG0:=Lib.hid (aL h0 HC0.out);have HT2:=Lib.hid (show T=if signLen (l.drop k)=0 then(0,0,2)else(8,signLen (l.drop k),0)from by
  rw[<-HSg.out,HG0.out,<-HT.out,if_neg HA.out,if_neg HLt.out,if_neg HDg.out,if_neg HQt.out])
 obtain⟨m,hm⟩:∃m,signLen (l.drop k)=m:=⟨_,rfl⟩;have HM:=Lib.hid hm;by_cases hm0:m=0
 ·have HW:=Lib.hid (show T=(0,0,2)from by rw[HT2.out,HM.out,if_pos hm0]);subst hm0
  go_wp2_with (first|(go_at_call 205;refine qmm (bf _ _) ?_)|(go_at_call 206;refine qmm (bT _ _) ?_)|(go_at_call 207;refine qmm (dh _ _) ?_)|(go_at_call 208;refine qmm (cc _ _) ?_)|(go_at_call 209;refine qmm (ba _ _) ?_)|(go_at_call 211;refine qmm (eJ _ _ k rfl _ hlt hl) ?_))
  exact bodyPost_ret (v:=.agg #[.int .i64 0,.int .i64 0,.int .i64 2,.int .i64 k]) (by simp[results,results192,go_sem]) rfl (cQ HW.out (by omega) (by omega) (by omega) qEx)
 ·have HW:=Lib.hid (show T=(8,m,0)from by rw[HT2.out,HM.out,if_neg hm0]);have hmb:((m:Int)==0)=false:=by simp;omega
  go_wp2_with (first|(go_at_call 205;refine qmm (bf _ _) ?_)|(go_at_call 206;refine qmm (bT _ _) ?_)|(go_at_call 207;refine qmm (dh _ _) ?_)|(go_at_call 208;refine qmm (cc _ _) ?_)|(go_at_call 209;refine qmm (ba _ _) ?_)|(go_at_call 211;refine qmm (eJ _ _ k rfl _ hlt hl) ?_))
  exact bodyPost_ret (v:=.agg #[.int .i64 m,.int .i64 8,.int .i64 0,.int .i64 0]) (by simp[results,results192,go_sem]) rfl (gu HW.out (by omega) (by omega) qEx)
def Fv(c:UInt8):Int:=Lib.indexByte qO c
theorem HP:∀(l:YB) (c:UInt8),0<=Lib.indexByte l c↔l.contains c=true
 |[],c=>by simp[Lib.indexByte]
 | b::l,c=>by
  have ih:=HP l c;have hg:=Lib.indexByte_ge l c;unfold Lib.indexByte;by_cases h:b=c
  ·simp[h]
  ·have h':¬c=b:=λe=>h e.symm;simp only[aar,h,if_false,List.contains_cons,h',Bool.or_eq_true,false_or];rw[<-ih];split<;>omega
theorem qd(c:UInt8):0<=Fv c↔qO.contains c=true:=HP _ _
theorem lK(c:UInt8)(w:World):Calls prog 134 #[.string ⟨#[40,41,91,93,58,44,61,43,45,42,60,63]⟩,.int .u8 (c.toNat:Int)] w λe w'=>e=.returned (.int .i64<|Fv c)∧w=w':=by
 refine(IG _ _ w).mono ?_;rintro e w' ⟨rfl,rfl⟩;refine⟨bw ?_,I⟩;have :((c.toNat:Int)).toNat.toUInt8=c:=by simp
 rw[this];rfl
set_option maxHeartbeats 4000000 in
theorem Ks(l:YB)(w:World)(h0:0<l.length)(hl:l.length<=281474976710656):Calls prog 82 #[.string ⟨l.toArray⟩] w λe w'=>e=.returned (.tuple #[.int .i64 ((tokenT l).1:Nat),.int .i64 ((tokenT l).2.1:Nat),.int .i64 ((tokenT l).2.2:Nat)])∧w=w':=by
 obtain⟨c0,Z⟩:∃c,({data:=l.toArray}:ByteArray)[0]'h0=c:=⟨_,rfl⟩;have HC0:=Lib.hid<|show l[0]=c0 from Z;have HT:=Lib.hid<|yH h0 HC0.out
 go_enter func82,ntmps82
 cases ha:aT c0
 ·skip
  have HW:=Lib.hid (show tokenT l=(0,0,1)from by rw[HT.out,if_pos ha])
  go_wp2_with (first|(go_at_call 81;refine qmm (bb _ _) ?_)|(go_at_call 129;refine qmm (bv _ _) ?_)|(go_at_call 131;refine qmm (dE _ _) ?_)|(go_at_call 130;refine qmm (pg _ _ h0 hl) ?_)|(go_at_call 132;refine qmm (jI _ _ hl) ?_)|(go_at_call 133;refine qmm (jo _ _ h0 hl) ?_)|(go_at_call 134;refine qmm (lK _ _) ?_))
  go_ret3
  exact⟨by rw[HW.out];rfl,I⟩
 have HA:=Lib.hid (show¬aT c0=false from by simp[ha]);cases E:bo c0
 rotate_left
 ·skip
  have HW:=Lib.hid (show tokenT l=bX l from by rw[HT.out,if_neg HA.out,if_pos E])
  go_wp2_with (first|(go_at_call 81;refine qmm (bb _ _) ?_)|(go_at_call 129;refine qmm (bv _ _) ?_)|(go_at_call 131;refine qmm (dE _ _) ?_)|(go_at_call 130;refine qmm (pg _ _ h0 hl) ?_)|(go_at_call 132;refine qmm (jI _ _ hl) ?_)|(go_at_call 133;refine qmm (jo _ _ h0 hl) ?_)|(go_at_call 134;refine qmm (lK _ _) ?_))
  go_ret3
  exact⟨by rw[HW.out];rfl,I⟩
 have HL:=Lib.hid (show¬bo c0=true from by simp[E]);cases hd:bC c0
 rotate_left
 ·skip
  have HW:=Lib.hid (show tokenT l=(5,eo l)from by rw[HT.out,if_neg HA.out,if_neg HL.out,if_pos hd])
  go_wp2_with (first|(go_at_call 81;refine qmm (bb _ _) ?_)|(go_at_call 129;refine qmm (bv _ _) ?_)|(go_at_call 131;refine qmm (dE _ _) ?_)|(go_at_call 130;refine qmm (pg _ _ h0 hl) ?_)|(go_at_call 132;refine qmm (jI _ _ hl) ?_)|(go_at_call 133;refine qmm (jo _ _ h0 hl) ?_)|(go_at_call 134;refine qmm (lK _ _) ?_))
  go_ret3
  exact⟨by rw[HW.out];rfl,I⟩
 have HD:=Lib.hid (show¬bC c0=true from by simp[hd]);cases G:((c0.toNat:Int)==34)
 rotate_left
 ·skip
  have HW:=Lib.hid (show tokenT l=(6,quotedT l.tail 1)from by rw[HT.out,if_neg HA.out,if_neg HL.out,if_neg HD.out,if_pos<|cJ (m:=34) G])
  go_wp2_with (first|(go_at_call 81;refine qmm (bb _ _) ?_)|(go_at_call 129;refine qmm (bv _ _) ?_)|(go_at_call 131;refine qmm (dE _ _) ?_)|(go_at_call 130;refine qmm (pg _ _ h0 hl) ?_)|(go_at_call 132;refine qmm (jI _ _ hl) ?_)|(go_at_call 133;refine qmm (jo _ _ h0 hl) ?_)|(go_at_call 134;refine qmm (lK _ _) ?_))
  go_ret3
  exact⟨by rw[HW.out];rfl,I⟩
 have HQ:=Lib.hid<|bG (m:=34) G;cases J:((c0.toNat:Int)==61)
 ·skip
  have HE:=Lib.hid<|show¬(c0.toNat=61∧1<l.length∧(l.getD 1 0).toNat=61)from λh=>bG (m:=61) J h.1;by_cases hs:0<=Fv c0
  ·skip
   have HW:=Lib.hid (show tokenT l=(8,1,0)from by rw[HT.out,if_neg HA.out,if_neg HL.out,if_neg HD.out,if_neg HQ.out,if_neg HE.out,if_pos<|(qd c0).1 hs])
   go_wp2_with (first|(go_at_call 81;refine qmm (bb _ _) ?_)|(go_at_call 129;refine qmm (bv _ _) ?_)|(go_at_call 131;refine qmm (dE _ _) ?_)|(go_at_call 130;refine qmm (pg _ _ h0 hl) ?_)|(go_at_call 132;refine qmm (jI _ _ hl) ?_)|(go_at_call 133;refine qmm (jo _ _ h0 hl) ?_)|(go_at_call 134;refine qmm (lK _ _) ?_))
   go_ret3
   exact⟨by rw[HW.out];rfl,I⟩
  ·skip
   have HW:=Lib.hid (show tokenT l=(0,0,2)from by rw[HT.out,if_neg HA.out,if_neg HL.out,if_neg HD.out,if_neg HQ.out,if_neg HE.out,if_neg λh=>hs<|(qd c0).2 h])
   go_wp2_with (first|(go_at_call 81;refine qmm (bb _ _) ?_)|(go_at_call 129;refine qmm (bv _ _) ?_)|(go_at_call 131;refine qmm (dE _ _) ?_)|(go_at_call 130;refine qmm (pg _ _ h0 hl) ?_)|(go_at_call 132;refine qmm (jI _ _ hl) ?_)|(go_at_call 133;refine qmm (jo _ _ h0 hl) ?_)|(go_at_call 134;refine qmm (lK _ _) ?_))
   go_ret3
   exact⟨by rw[HW.out];rfl,I⟩
 by_cases h1:1<l.length
 rotate_left
 ·skip
  have HE:=Lib.hid<|show¬(c0.toNat=61∧1<l.length∧(l.getD 1 0).toNat=61)from λh=>h1 h.2.1;by_cases hs:0<=Fv c0
  ·skip
   have HW:=Lib.hid (show tokenT l=(8,1,0)from by rw[HT.out,if_neg HA.out,if_neg HL.out,if_neg HD.out,if_neg HQ.out,if_neg HE.out,if_pos<|(qd c0).1 hs])
   go_wp2_with (first|(go_at_call 81;refine qmm (bb _ _) ?_)|(go_at_call 129;refine qmm (bv _ _) ?_)|(go_at_call 131;refine qmm (dE _ _) ?_)|(go_at_call 130;refine qmm (pg _ _ h0 hl) ?_)|(go_at_call 132;refine qmm (jI _ _ hl) ?_)|(go_at_call 133;refine qmm (jo _ _ h0 hl) ?_)|(go_at_call 134;refine qmm (lK _ _) ?_))
   go_ret3
   exact⟨by rw[HW.out];rfl,I⟩
  ·skip
   have HW:=Lib.hid (show tokenT l=(0,0,2)from by rw[HT.out,if_neg HA.out,if_neg HL.out,if_neg HD.out,if_neg HQ.out,if_neg HE.out,if_neg λh=>hs<|(qd c0).2 h])
   go_wp2_with (first|(go_at_call 81;refine qmm (bb _ _) ?_)|(go_at_call 129;refine qmm (bv _ _) ?_)|(go_at_call 131;refine qmm (dE _ _) ?_)|(go_at_call 130;refine qmm (pg _ _ h0 hl) ?_)|(go_at_call 132;refine qmm (jI _ _ hl) ?_)|(go_at_call 133;refine qmm (jo _ _ h0 hl) ?_)|(go_at_call 134;refine qmm (lK _ _) ?_))
   go_ret3
   exact⟨by rw[HW.out];rfl,I⟩
 obtain⟨c1,hc1⟩:∃c,({data:=l.toArray}:ByteArray)[1]'h1=c:=⟨_,rfl⟩;have HC1:=Lib.hid<|show l[1]=c1 from hc1;cases U:((c1.toNat:Int)==61)
 ·skip
  have HE:=Lib.hid (show¬(c0.toNat=61∧1<l.length∧(l.getD 1 0).toNat=61)from λh=>bG (m:=61) U (by rw[<-aL h1 HC1.out];exact h.2.2));by_cases hs:0<=Fv c0
  ·skip
   have HW:=Lib.hid (show tokenT l=(8,1,0)from by rw[HT.out,if_neg HA.out,if_neg HL.out,if_neg HD.out,if_neg HQ.out,if_neg HE.out,if_pos<|(qd c0).1 hs])
   go_wp2_with (first|(go_at_call 81;refine qmm (bb _ _) ?_)|(go_at_call 129;refine qmm (bv _ _) ?_)|(go_at_call 131;refine qmm (dE _ _) ?_)|(go_at_call 130;refine qmm (pg _ _ h0 hl) ?_)|(go_at_call 132;refine qmm (jI _ _ hl) ?_)|(go_at_call 133;refine qmm (jo _ _ h0 hl) ?_)|(go_at_call 134;refine qmm (lK _ _) ?_))
   go_ret3
   exact⟨by rw[HW.out];rfl,I⟩
  ·skip
   have HW:=Lib.hid (show tokenT l=(0,0,2)from by rw[HT.out,if_neg HA.out,if_neg HL.out,if_neg HD.out,if_neg HQ.out,if_neg HE.out,if_neg λh=>hs<|(qd c0).2 h])
   go_wp2_with (first|(go_at_call 81;refine qmm (bb _ _) ?_)|(go_at_call 129;refine qmm (bv _ _) ?_)|(go_at_call 131;refine qmm (dE _ _) ?_)|(go_at_call 130;refine qmm (pg _ _ h0 hl) ?_)|(go_at_call 132;refine qmm (jI _ _ hl) ?_)|(go_at_call 133;refine qmm (jo _ _ h0 hl) ?_)|(go_at_call 134;refine qmm (lK _ _) ?_))
   go_ret3
   exact⟨by rw[HW.out];rfl,I⟩
 ·skip
  have HW:=Lib.hid (show tokenT l=(8,2,0)from by rw[HT.out,if_neg HA.out,if_neg HL.out,if_neg HD.out,if_neg HQ.out,if_pos ⟨cJ (m:=61) J,h1,by rw[aL h1 HC1.out];exact cJ (m:=61) U⟩])
  go_wp2_with (first|(go_at_call 81;refine qmm (bb _ _) ?_)|(go_at_call 129;refine qmm (bv _ _) ?_)|(go_at_call 131;refine qmm (dE _ _) ?_)|(go_at_call 130;refine qmm (pg _ _ h0 hl) ?_)|(go_at_call 132;refine qmm (jI _ _ hl) ?_)|(go_at_call 133;refine qmm (jo _ _ h0 hl) ?_)|(go_at_call 134;refine qmm (lK _ _) ?_))
  go_ret3
  exact⟨by rw[HW.out];rfl,I⟩
def cR(l:List TokZ):List Value:=l.flatMap λt=>[.int .i64 t.kind,.string ⟨t.lead.toArray⟩,.string ⟨t.text.toArray⟩]
def vx(w:World)(v:Value)(l:List TokZ):Prop:=∃A c,v=.slice A l.length c∧l.length<=c∧c<=maxLen∧Row w 3 A l.length (cR l)
def ScanPost(l:YB)(w:World)(e:Ending)(w':World):Prop:=
 ∃v,e=.returned (.tuple #[v,.string ⟨(fj l).tail.toArray⟩,.int .i64 ((fj l).place:Nat),.int .i64 ((fj l).err:Nat)])∧vx w' v (fj l).toks∧Ext w w'
theorem He:(prog.info? 93).map (λi=>(i.zero,i.size,i.bytes))=some (some<|.agg #[.int .i64 0,.string ByteArray.empty,.string ByteArray.empty],3,40):=by kernel_rfl
theorem xy(l:List TokZ)(t:TokZ):cR (l++[t])=cR l++[.int .i64 t.kind,.string ⟨t.lead.toArray⟩,.string ⟨t.text.toArray⟩]:=by simp[cR]
variable{v:Value}
theorem yC{w:World}{base:Nat}{l:List TokZ}(h:w.ownsRow base 93 3 v l.length<|cR l):vx w v l:=by obtain⟨A,c,rfl,E,G⟩:=Ld h;exact⟨A,c,I,E,G,Row.of_own h⟩
theorem lX(w:World):vx w (.slice none 0 0) []:=⟨none,0,rfl,aag _,aat _,Row.none_⟩
variable{l:YB}
theorem kC{w:World}{r:Scanned}{tail:YB}{p e:Int}(h:fj l=r)(ht:r.tail=tail)(hp:(r.place:Int)=p)(E:(r.err:Int)=e)(hr:vx w' v r.toks)(hx:Ext w w'):
  ScanPost l w (.returned<|.tuple #[v,.string ⟨tail.toArray⟩,.int .i64 p,.int .i64 e]) w':=by
 subst h;subst ht;subst hp;subst E;exact⟨v,I,hr,hx⟩
def OP (l:List UInt8) (w:World) (R:Scanned) (g:Nat) (s2 s6 s7:Value) (wx:World):Prop:=
  ∃ (i start F:Nat) (acc:List TokZ),start<=i∧i<=l.length∧g=l.length-i∧s6=.int .i64 start∧s7=.int .i64 i∧acc.length<=i∧l.length-start<F∧
    scanT F (l.drop start) start acc=R∧aM false (l.drop start) 0=aM false (l.drop i) (i-start)∧wx.ownsRow w.heap.size 93 3 s2 acc.length (cR acc)∧Ext w wx
set_option maxHeartbeats 4000000 in
theorem St (l:List UInt8) (w:World) (hl:l.length<=281474976710656):Calls prog 45 #[.string ⟨l.toArray⟩] w (ScanPost l w):=by
 have hx:=wZ;have hx2:=nH;by_cases h4:4096<l.length
 ·have HS:=Lib.hid (show fj l=⟨[],[],4096,3⟩from by simp[fj,h4])
  go_enter func45,ntmps45
  go_wp2
  go_step3
  go_wp2
  rw[Exit.noGoto_ret];exact bodyPost_ret (v:=.tuple #[.slice none 0 0,.string ⟨#[]⟩,.int .i64 4096,.int .i64 3]) (by simp[results,results45,go_sem]) rfl<|kC HS.out rfl rfl rfl (lX _)<|Ext.refl _
 ·obtain ⟨R,hR⟩:∃R,fj l=R:=⟨_,rfl⟩;have HS:=Lib.hid hR;have H0:=Lib.hid (show scanT (l.length+1) (l.drop 0) 0 []=R from by rw[<-hR];simp[fj,h4]);clear hR
  go_enter func45,ntmps45
  go_wp2
  go_step3
  go_wp2
  go_step3
  go_wp2
  go_loopg [2,6,7] l.length (λg s2 s6 s7 wx=>OP l w R g s2 s6 s7 wx)
  case atStart=>exact⟨0,0,l.length+1,[],aag _,aat _,by omega,rfl,rfl,aag _,by omega,H0.out,by simp,World.ownsRow_nil _ _ _ _,Ext.refl _⟩
  case round=>
   obtain⟨i,start,F,acc,hsi,hil,rfl,rfl,rfl,hacc,hF,hscan,hlead,hown,hext⟩:=hrel;have HSc:=Lib.hid hscan;clear hscan;have HLd:=Lib.hid hlead;clear hlead;have HO:=Lib.hid hown;clear hown;have HE:=Lib.hid hext;clear hext;by_cases hlt:i<l.length
   ·obtain⟨c,hc⟩:∃c,({data:=l.toArray}:ByteArray)[i]'hlt=c:=⟨_,rfl⟩;have HC:=Lib.hid<|show l[i]=c from hc;cases hw:bH c
    rotate_left
    ·go_wp2_with (first|(go_at_call 80;refine qmm (fX _ _) ?_)|(go_at_call 81;refine qmm (bb _ _) ?_))
     go_roundg (l.length-(i+1))
     case measure=>omega
     case rel=>exact⟨i+1,start,F,acc,by omega,by omega,rfl,rfl,by go_num,by omega,hF,HSc.out,by rw[HLd.out,zA hlt HC.out hw];congr 1;omega,HO.out,HE.out⟩
    cases h35:((c.toNat:Int)==35)
    rotate_left
    ·go_wp2_with (first|(go_at_call 80;refine qmm (fX _ _) ?_)|(go_at_call 81;refine qmm (bb _ _) ?_))
     obtain⟨wo,rfl⟩:∃wo:World,wo=wr:=⟨_,rfl⟩;have HL2:=Lib.hid<|HLd.out.trans<|AO (n:=i-start) hlt HC.out<|cJ (m:=35) h35;have HCI:=Lib.hid<|cJ (m:=35) h35;clear h35 hw hc HLd
     go_loopg [2,7] (l.length-i) (λg t2 t7 wy=>∃j,i<=j∧j<=l.length∧g=l.length-j∧t7=.int .i64 (j:Nat)∧t2=u2∧wy=wo∧Hid (aM false (l.drop start) 0=aM true (l.drop j) (j-start)))
     case atStart=>exact⟨i,aag _,by omega,rfl,rfl,rfl,rfl,HL2⟩
     case round=>
      obtain⟨j,hij,hjl,rfl,rfl,rfl,rfl,HL3⟩:=hrel;by_cases hjt:j<l.length
      ·obtain⟨d,hd⟩:∃c,({data:=l.toArray}:ByteArray)[j]'hjt=c:=⟨_,rfl⟩;have HD:=Lib.hid<|show l[j]=d from hd;cases h10:((d.toNat:Int)==10)
       rotate_left
       ·have hne:i<j:=by
         rcases Nat.lt_or_ge i j with h|h
         ·exact h
         ·have :i=j:=by omega
          subst this;have h1:=cJ (m:=10) h10;have h2:=HCI.out;have h3:c=d:=by rw[<-HC.out,<-HD.out]
          subst h3;omega
        go_wp2_with (first|(go_at_call 80;refine qmm (fX _ _) ?_)|(go_at_call 81;refine qmm (bb _ _) ?_))
        go_roundg (l.length-j)
        case measure=>omega
        case rel=>exact⟨j,start,F,acc,by omega,by omega,rfl,rfl,rfl,by omega,hF,HSc.out,HL3.out.trans<|Be hjt HD.out<|cJ (m:=10) h10,HO.out,HE.out⟩
       cases ha:aT d
       ·go_wp2_with (first|(go_at_call 80;refine qmm (fX _ _) ?_)|(go_at_call 81;refine qmm (bb _ _) ?_))
        rw[Exit.noGoto_ret];exact bodyPost_ret (v:=.tuple #[.slice none 0 0,.string ⟨([]:YB).toArray⟩,.int .i64 j,.int .i64 1]) (by simp[results,results45,go_sem]) rfl (kC (r:=⟨[],[],start+(j-start),1⟩) (by rw[HS.out,<-HSc.out];obtain⟨F',rfl⟩:∃F',F=F'+1:=⟨F-1,by omega⟩;exact CI (n:=j-start) (by rw[HL3.out];exact Cw hjt HD.out (bG (m:=10) h10) ha)) rfl (by simp;omega) rfl (lX _) HE.out)
       ·go_wp2_with (first|(go_at_call 80;refine qmm (fX _ _) ?_)|(go_at_call 81;refine qmm (bb _ _) ?_))
        go_roundg (l.length-(j+1))
        case measure=>omega
        case rel=>exact⟨j+1,by omega,by omega,rfl,by go_num,rfl,rfl,Lib.hid (by rw[HL3.out,Fk hjt HD.out (bG (m:=10) h10) ha];congr 1;omega)⟩
      ·have hb0:(0:Int)<=(start:Int):=by omega
       have hb1:(start:Int)<=(l.length:Int):=by omega
       go_wp2_with (first|(go_at_call 80;refine qmm (fX _ _) ?_)|(go_at_call 81;refine qmm (bb _ _) ?_))
       go_quiet (fail)
       go_wp2
       rw[Exit.noGoto_ret];exact bodyPost_ret (v:=.tuple #[u2,.string ⟨(l.drop start).toArray⟩,.int .i64 0,.int .i64 0]) (by simp[results,results45,go_sem]) rfl (kC (r:=⟨acc,l.drop start,0,0⟩) (by rw[HS.out,<-HSc.out];obtain⟨F',rfl⟩:∃F',F=F'+1:=⟨F-1,by omega⟩;exact yu (n:=j-start) (by rw[HL3.out];exact rb _<|by omega) (by simp;omega)) rfl rfl rfl (yC HO.out)<|Ext.drewN HE.out _)
    ·have HLO:=Lib.hid<|HLd.out.trans<|zB (n:=i-start) hlt HC.out hw<|bG (m:=35) h35;have hd0:0<(l.drop i).length:=by simp;omega
     have hdl:(l.drop i).length<=281474976710656:=by simp;omega
     obtain⟨k,m,e,hT⟩:∃k m e,tokenT (l.drop i)=(k,m,e):=⟨_,_,_,rfl⟩;have hlen:=Bl hd0;rw[hT]at hlen;simp only[aaE]at hlen;obtain⟨hm1,hm2⟩:=hlen;have HM:=Lib.hid hm2;clear hm2;have HT:=Lib.hid hT;clear hT;have hd1:(l.drop start).drop (i-start)=l.drop i:=by rw[List.drop_drop];congr 1;omega
     have HD1:=Lib.hid hd1;clear hd1;have CT:=Lib.hid λw=>Ks (l.drop i) w hd0 hdl;clear hd0 hdl
     go_wp2_with (first|(go_at_call 80;refine qmm (fX _ _) ?_)|(go_at_call 81;refine qmm (bb _ _) ?_))
     refine(CT.out _).mono ?_;rintro e0 w' ⟨rfl,rfl⟩;rw[HT.out];by_cases he:e=0
     rotate_left
     ·have heb:((e:Int)!=0)=true:=by simp;omega
      go_wp2_with (first|(go_at_call 80;refine qmm (fX _ _) ?_)|(go_at_call 81;refine qmm (bb _ _) ?_))
      rw[Exit.noGoto_ret];exact bodyPost_ret (v:=.tuple #[.slice none 0 0,.string ⟨([]:YB).toArray⟩,.int .i64<|(i:Int)+m,.int .i64 e]) (by simp[results,results45,go_sem]) rfl (kC (r:=⟨[],[],start+(i-start)+m,e⟩) (by rw[HS.out,<-HSc.out];obtain⟨F',rfl⟩:∃F',F=F'+1:=⟨F-1,by omega⟩;exact CM (n:=i-start) HLO.out (by simp;omega) (by rw[HD1.out];exact HT.out) he) rfl (by simp;omega) rfl (lX _) HE.out)
     ·subst he;have hmp:0<m:=HM.out rfl
      go_wp2_with (first|(go_at_call 80;refine qmm (fX _ _) ?_)|(go_at_call 81;refine qmm (bb _ _) ?_))
      have hb0:(0:Int)<=(start:Int):=by omega
      have hb1:(start:Int)<=(i:Int):=by omega
      have hb2:(i:Int)<=(l.length:Int):=by omega
      have hb3:(i:Int)+m<=(l.length:Int):=by omega
      have hb4:(i:Int)<=(i:Int)+m:=by omega
      have hwr:IntKind.i64.wrap ((i:Int)+m)=(i:Int)+m:=IntWalk.i64_in _ (by omega);have hb5:(0:Int)<=(i:Int)+m:=by omega
      have hb6:((i:Int)+m).toNat=i+m:=by omega
      have hown:=HO.out;have hsz:=HE.out.size;have hbase:w.heap.size<=wr.heap.size+1:=by omega
      have hsz2:(acc.length+1)*40<=140737488355328:=by omega
      have hsz3:acc.length+1<=maxLen:=by unfold maxLen;omega
      obtain⟨i0,hi0,hz0,hz1,hz2⟩:=ve He
      go_region_held3 (λ_=>True) (trivial)
       ((refine step_append_lies _ (by rfl) _ _ _ (by rfl) w.heap.size 93 i0 _ 3 40 underlying86 hi0 hz0 hz1 hz2 rfl (by omega) u2 acc.length (cR acc) (by rfl) ((hown.alloc _).drew) ⟨wr.heap.size,0,none⟩ 1 1 [.int .i64 k,.string ⟨((l.drop start).take<|i-start).toArray⟩,.string ⟨((l.drop i).take m).toArray⟩] (by rfl) (by rfl) (World.news_of_block (cs:=#[.int .i64 k,.string ⟨((l.drop start).take<|i-start).toArray⟩,.string ⟨((l.drop i).take m).toArray⟩]) (t:=93) (fr:=(0,0))<|heap_alloc_new wr _) (by simp[Value.oneCell']) (by omega) hsz3 hsz2 (by simp;omega) (wr.heap.size+1) (by simp) ?_;intro gg cap w1 hown1 hgrow hat hlt1))
      have HX:=Lib.hid (((HE.out.alloc _).drew).grown hgrow (λk hk=>(hown.lt k hk).1));have HO1:=Lib.hid (show w1.ownsRow w.heap.size 93 3 (.slice (some ⟨gg,0,none⟩) (acc.length+1) cap) (acc++[TokZ.mk k ((l.drop start).take (i-start)) ((l.drop i).take m)]).length (cR (acc++[TokZ.mk k ((l.drop start).take (i-start)) ((l.drop i).take m)]))from by
       rw[xy,aac];exact hown1)
      clear hown1 hgrow hat hown hsz2 hsz3 hi0 hz0 hz1 hz2 hwr hb6
      go_wp2
      go_roundg (l.length-(i+m))
      case measure=>omega
      case rel=>
       obtain⟨F',rfl⟩:∃F',F=F'+1:=⟨F-1,by omega⟩;refine⟨i+m,i+m,F',acc++[TokZ.mk k ((l.drop start).take<|i-start)<|(l.drop i).take m],aag _,by omega,rfl,by go_num,by go_num,by simp;omega,by omega,?_,by simp,HO1.out,HX.out⟩;rw[<-HSc.out,CS (n:=i-start) HLO.out (by simp;omega) (by rw[HD1.out];exact HT.out),HD1.out,List.drop_drop]
       congr 2<;>omega
   ·have hb0:(0:Int)<=(start:Int):=by omega
    have hb1:(start:Int)<=(l.length:Int):=by omega
    go_wp2_with (first|(go_at_call 80;refine qmm (fX _ _) ?_)|(go_at_call 81;refine qmm (bb _ _) ?_))
    go_quiet (fail)
    go_wp2
    rw[Exit.noGoto_ret];exact bodyPost_ret (v:=.tuple #[u2,.string ⟨(l.drop start).toArray⟩,.int .i64 0,.int .i64 0]) (by simp[results,results45,go_sem]) rfl (kC (r:=⟨acc,l.drop start,0,0⟩) (by rw[HS.out,<-HSc.out];obtain⟨F',rfl⟩:∃F',F=F'+1:=⟨F-1,by omega⟩;exact yu (n:=i-start) (by rw[HLd.out];exact rb _<|by omega) (by simp;omega)) rfl rfl rfl (yC HO.out)<|Ext.drewN HE.out _)
variable{m:Nat}
theorem neI(h:((n:Int)!=(m:Int))=false):n=m:=by simp at h;omega
theorem neT(h:((n:Int)!=(m:Int))=true):¬n=m:=by simp at h;omega
def Au(k:Nat):Option Nat->Int
 |none=>-1
 |some p=>((k+p:Nat):Int)
def An(l:YB)(k:Nat)(w:World)(e:Ending)(w':World):Prop:=
 e=.returned (.tuple #[.int .i64 ((aM false (l.drop k) 0).1:Nat),.int .i64<|Au k (aM false (l.drop k) 0).2])∧w=w'
theorem Cr{b:Option Nat}{w:World}{x y:Int}(h:aM false (l.drop k) 0=(n,b))(hx:x=n)(hy:y=Au k b):An l k w (.returned<|.tuple #[.int .i64 x,.int .i64 y]) w:=by subst hx;subst hy;unfold An;rw[h];exact⟨rfl,rfl⟩
set_option maxHeartbeats 2000000 in
theorem Ow(l:YB)(x:Int)(k:Nat)(hxk:x=k)(w:World)(hk:k<=l.length)(hl:l.length<=281474976710656):Calls prog 188 #[.string ⟨l.toArray⟩,.int .i64 x] w (An l k w):=by
 subst hxk
 go_enter func188,ntmps188
 go_wp2_with (first|(go_at_call 191;refine qmm (jx _ _) ?_)|(go_at_call 205;refine qmm (bf _ _) ?_))
 go_loopg [6] (l.length-k) (λg n wx=>∃i:Nat,g=l.length-i∧wx=w∧k<=i∧i<=l.length∧n=.int .i64 i∧Hid (aM false (l.drop k) 0=aM false (l.drop i) (i-k)))
 case atStart=>exact⟨k,rfl,rfl,aag _,hk,rfl,Lib.hid (by congr 1;omega)⟩
 case round=>
  obtain⟨i,rfl,rfl,hki,hil,rfl,HL⟩:=hrel;by_cases hit:i<l.length
  rotate_left
  ·go_wp2_with (first|(go_at_call 191;refine qmm (jx _ _) ?_)|(go_at_call 205;refine qmm (bf _ _) ?_))
   go_ret2
   exact Cr (n:=i-k) (b:=none) (by rw[HL.out,rb _<|by omega]) (by omega) I
  obtain⟨c,hc⟩:∃c,({data:=l.toArray}:ByteArray)[i]'hit=c:=⟨_,rfl⟩;have HC:=Lib.hid<|show l[i]=c from hc;cases hw:bH c
  rotate_left
  ·go_wp2_with (first|(go_at_call 191;refine qmm (jx _ _) ?_)|(go_at_call 205;refine qmm (bf _ _) ?_))
   go_roundg (l.length-(i+1))
   case measure=>omega
   case rel=>exact⟨i+1,rfl,rfl,by omega,by omega,by go_num,Lib.hid (by rw[HL.out,zA hit HC.out hw];congr 1;omega)⟩
  cases h35:((c.toNat:Int)==35)
  ·go_wp2_with (first|(go_at_call 191;refine qmm (jx _ _) ?_)|(go_at_call 205;refine qmm (bf _ _) ?_))
   go_ret2
   exact Cr (n:=i-k) (b:=none) (by rw[HL.out,zB hit HC.out hw<|bG (m:=35) h35]) (by omega) I
  have HL2:=Lib.hid<|HL.out.trans<|AO (n:=i-k) hit HC.out<|cJ (m:=35) h35;have HCI:=Lib.hid<|cJ (m:=35) h35
  go_wp2_with (first|(go_at_call 191;refine qmm (jx _ _) ?_)|(go_at_call 205;refine qmm (bf _ _) ?_))
  clear HL;obtain⟨wo,rfl⟩:∃wo:World,wo=wr:=⟨_,rfl⟩
  go_loopg [6] (l.length-i) (λg n wx=>∃j:Nat,g=l.length-j∧wx=wo∧i<=j∧j<=l.length∧n=.int .i64 j∧Hid (aM false (l.drop k) 0=aM true (l.drop j) (j-k)))
  case atStart=>exact⟨i,rfl,rfl,aag _,by omega,rfl,HL2⟩
  case round=>
   obtain⟨j,rfl,rfl,hij,hjl,rfl,HL3⟩:=hrel;by_cases hjt:j<l.length
   rotate_left
   ·go_wp2_with (first|(go_at_call 191;refine qmm (jx _ _) ?_)|(go_at_call 205;refine qmm (bf _ _) ?_))
    go_roundg (l.length-j)
    case measure=>omega
    case rel=>exact⟨j,rfl,rfl,by omega,by omega,rfl,Lib.hid<|by rw[HL3.out,rb _ (by omega),rb _<|by omega]⟩
   obtain⟨d,hd⟩:∃c,({data:=l.toArray}:ByteArray)[j]'hjt=c:=⟨_,rfl⟩;have HD:=Lib.hid<|show l[j]=d from hd;cases h10:((d.toNat:Int)!=10)
   ·have hne:i<j:=by
     rcases Nat.lt_or_ge i j with h|h
     ·exact h
     ·have :i=j:=by omega
      subst this;have h2:=HCI.out;have h3:c=d:=by rw[<-HC.out,<-HD.out]
      subst h3;simp[h2]at h10
    go_wp2_with (first|(go_at_call 191;refine qmm (jx _ _) ?_)|(go_at_call 205;refine qmm (bf _ _) ?_))
    go_roundg (l.length-j)
    case measure=>omega
    case rel=>exact⟨j,rfl,rfl,by omega,by omega,rfl,Lib.hid<|by rw[HL3.out,Be hjt HD.out<|neI (m:=10) h10]⟩
   cases ha:aT d
   ·go_wp2_with (first|(go_at_call 191;refine qmm (jx _ _) ?_)|(go_at_call 205;refine qmm (bf _ _) ?_))
    go_ret2
    exact Cr (n:=j-k) (b:=some<|j-k) (by rw[HL3.out,Cw hjt HD.out (neT (m:=10) h10) ha]) (by omega) (by simp[Au];omega)
   ·go_wp2_with (first|(go_at_call 191;refine qmm (jx _ _) ?_)|(go_at_call 205;refine qmm (bf _ _) ?_))
    go_roundg (l.length-(j+1))
    case measure=>omega
    case rel=>exact⟨j+1,rfl,rfl,by omega,by omega,by go_num,Lib.hid (by rw[HL3.out,Fk hjt HD.out (neT (m:=10) h10) ha];congr 1;omega)⟩
theorem pY:∀(b:Bool) (l:YB) (n:Nat),(aM b l n).1<=n+l.length
 |_,[],n=>by simp[aM]
 | false,c::r,n=>by
  have h1:=pY false r<|n+1;have h2:=pY true r<|n+1;unfold aM;simp only[aad];split
  ·omega
  ·split
   ·omega
   ·simp
 | true,c::r,n=>by
  have h1:=pY false r<|n+1;have h2:=pY true r<|n+1;unfold aM;simp only[aad];split
  ·omega
  ·split
   ·simp
   ·omega
def Nq (l:List UInt8) (w:World) (Rs:Scanned) (g:Nat) (s6 s7:Value) (wx:World):Prop:=
  ∃ (p F:Nat) (acc:List TokZ),p<=l.length∧g=l.length-p∧s7=.int .i64 p∧acc.length<=p∧l.length-p<F∧
    scanT F (l.drop p) p acc=Rs∧wx.ownsRow w.heap.size 93 3 s6 acc.length (cR acc)∧Ext w wx
def ScanPost0(Rs:Scanned)(w:World)(e:Ending)(w':World):Prop:=
 ∃v,e=.returned (.tuple #[v,.string ⟨Rs.tail.toArray⟩,.int .i64 (Rs.place:Nat),.int .i64 (Rs.err:Nat)])∧vx w' v Rs.toks∧Ext w w'
theorem sk{Rs:Scanned}{w:World}{r:Scanned}{tail:YB}{p e:Int}(h:Rs=r)(ht:r.tail=tail)(hp:(r.place:Int)=p)(E:(r.err:Int)=e)(hr:vx w' v r.toks)(hx:Ext w w'):
  ScanPost0 Rs w (.returned<|.tuple #[v,.string ⟨tail.toArray⟩,.int .i64 p,.int .i64 e]) w':=by
 subst h;subst ht;subst hp;subst E;exact⟨v,I,hr,hx⟩
set_option maxHeartbeats 4000000 in
theorem QY(l:YB)(w:World)(hl:l.length<=4096):Calls prog 193 #[.string ⟨l.toArray⟩] w (ScanPost0 (scanT (l.length+1) l 0 []) w):=by
 obtain⟨Rs,hR⟩:∃Rs,scanT (l.length+1) l 0 []=Rs:=⟨_,rfl⟩;rw[hR];have H0:=Lib.hid (show scanT (l.length+1) (l.drop 0) 0 []=Rs from by rw[<-hR];simp);clear hR;have hx:=wZ;have hx2:=nH
 go_enter func193,ntmps193
 go_wp2_with fail
 go_loopg [6,7] l.length (λg s6 s7 wx=>Nq l w Rs g s6 s7 wx)
 case atStart=>exact⟨0,l.length+1,[],aat _,by omega,rfl,aag _,by omega,H0.out,World.ownsRow_nil _ _ _ _,Ext.refl _⟩
 case round=>
  obtain⟨p,F,acc,hpl,rfl,rfl,hacc,hF,hscan,hown,hext⟩:=hrel;have HSc:=Lib.hid hscan;clear hscan;have HO:=Lib.hid hown;clear hown;have HE:=Lib.hid hext;clear hext;obtain⟨F',rfl⟩:∃F',F=F'+1:=⟨F-1,by omega⟩;obtain⟨n,b,hLd⟩:∃n b,aM false (l.drop p) 0=(n,b):=⟨_,_,rfl⟩;have hnl:p+n<=l.length:=by have h:=pY false (l.drop p) 0;rw[hLd]at h;simp at h;omega
  have HLd:=Lib.hid hLd;clear hLd
  go_wp2_with fail
  refine(Ow _ _ p I _ hpl<|by omega).mono ?_;rintro e w' ⟨rfl,rfl⟩;rw[HLd.out];cases b with
  |some q=>
   have hq:(0:Int)<=((p+q:Nat):Int):=by omega
   have hq2:Au p (some q)=((p+q:Nat):Int):=rfl;rw[hq2];generalize hz:((p+q:Nat):Int)=z at *;have HZ:=Lib.hid hz;clear hz hq2
   go_wp2
   exact bodyPost_ret (v:=.tuple #[.slice none 0 0,.string ⟨([]:YB).toArray⟩,.int .i64 z,.int .i64 1]) (by simp[results,results193,go_sem]) rfl (sk (r:=⟨[],[],p+q,1⟩) (HSc.out.symm.trans<|CI HLd.out) rfl (by rw[HZ.out]) rfl (lX _) HE.out)
  | none=>
   have hq2:Au p none=-1:=rfl;rw[hq2];clear hq2;obtain⟨E,hE⟩:∃E,p+n=E:=⟨_,rfl⟩;have hE1:(p:Int)+n=(E:Nat):=by omega
   have hE2:E-p=n:=by omega
   have HEE:=Lib.hid hE;have hpE:p<=E:=by omega
   have hEl:E<=l.length:=by omega
   clear hE hnl;by_cases hend:E=l.length
   ·have hendb:((E:Int)==(l.length:Int))=true:=by simp;omega
    have hb0:(0:Int)<=(p:Int):=by omega
    have hb1:(p:Int)<=(l.length:Int):=by omega
    have HEnd:=Lib.hid hend;clear hend
    go_wp2
    go_quiet (fail)
    go_wp2
    exact bodyPost_ret (v:=.tuple #[u6,.string ⟨(l.drop p).toArray⟩,.int .i64 0,.int .i64 0]) (by simp[results,results193,go_sem]) rfl (sk (r:=⟨acc,l.drop p,0,0⟩) (HSc.out.symm.trans<|yu HLd.out (by have :=HEnd.out;have :=HEE.out;simp;omega)) rfl rfl rfl (yC HO.out)<|Ext.drewN HE.out _)
   ·have hEt:E<l.length:=by omega
    have hendb:((E:Int)==(l.length:Int))=false:=by simp;omega
    clear hend;obtain⟨kd,m,e,hT⟩:∃kd m e,tokenT (l.drop E)=(kd,m,e):=⟨_,_,_,rfl⟩;have hlen:=Bl (l:=l.drop E) (by simp;omega);rw[hT]at hlen;simp only[aaE]at hlen;obtain⟨hm1,hm2⟩:=hlen;have HM:=Lib.hid hm2;clear hm2;have HT:=Lib.hid hT;clear hT;have HDp:=Lib.hid (show(l.drop p).drop n=l.drop E from by rw[List.drop_drop,HEE.out]);have CN:=Lib.hid (λw=>Oo l (E:Nat) E rfl w hEt<|by omega);have HnE:=Lib.hid (show¬n=(l.drop p).length from by have :=HEE.out;simp;omega)
    go_wp2_with fail
    refine(CN.out _).mono ?_;rintro e0 w1 ⟨rfl,hext1⟩;rw[HT.out];by_cases he:e=0
    rotate_left
    ·have HI:=Lib.hid (show nG E (kd,m,e)=.agg #[.int .i64 0,.int .i64 0,.int .i64 e,.int .i64 ((E+m:Nat):Int)]from by simp[nG,he]);rw[HI.out];have heb:((e:Int)!=0)=true:=by simp;omega
     have HX1:=Lib.hid<|HE.out.trans hext1;clear hext1;generalize hz:((E+m:Nat):Int)=z at *;have HZ:=Lib.hid hz;clear hz;clear HI
     go_wp2
     go_quiet (fail)
     go_wp2
     exact bodyPost_ret (v:=.tuple #[.slice none 0 0,.string ⟨([]:YB).toArray⟩,.int .i64 z,.int .i64 e]) (by simp[results,results193,go_sem]) rfl (sk (r:=⟨[],[],p+n+m,e⟩) (HSc.out.symm.trans<|CM HLd.out HnE.out (by rw[HDp.out];exact HT.out) he) rfl (by rw[<-HZ.out];have :=HEE.out;simp;omega) rfl (lX _)<|Ext.drewN (HX1.out.alloc _) _)
    ·subst he;have HI:=Lib.hid (show nG E (kd,m,0)=.agg #[.int .i64 m,.int .i64 kd,.int .i64 0,.int .i64 0]from by simp[nG]);rw[HI.out];have hmp:0<m:=HM.out rfl;have hown:=PD HO.out hext1;have hx1:=hext1.size;have hsz:=HE.out.size;have HX1:=Lib.hid<|HE.out.trans hext1;have hne:∀k,u6.ownBlock=some k->k<wr.heap.size:=λk hk=>(HO.out.lt k hk).2;have hneB:u6.ownBlock≠some w1.heap.size:=λh=>by have :=hne _ h;omega
     clear hext1 HI CN HM
     go_wp2
     obtain⟨W2,hW2⟩:∃W2,w1.alloc (.cells #[.int .i64 m,.int .i64 kd,.int .i64 0,.int .i64 0] 216)=W2:=⟨_,rfl⟩;rw[hW2];have hc0:W2.cell? ⟨w1.heap.size,0,none⟩=some (.int .i64 m):=by rw[<-hW2];simp
     have hc1:W2.cell? ⟨w1.heap.size,1,none⟩=some (.int .i64 kd):=by rw[<-hW2];simp
     have hown2:W2.ownsRow w.heap.size 93 3 u6 acc.length (cR acc):=by rw[<-hW2];exact hown.alloc _
     have hBW:w1.heap.size<W2.heap.size:=by rw[<-hW2];simp
     have HX2:=Lib.hid (show Ext w W2 from by rw[<-hW2];exact HX1.out.alloc _);obtain⟨B,hB⟩:∃B,w1.heap.size=B:=⟨_,rfl⟩;have hwB:w.heap.size<=B:=by omega
     rw[hB]at hc0 hc1 hBW hneB;rw[hB];clear hW2 hB hown hne hx1 hsz HX1 HE HO;have hb0:(0:Int)<=(p:Int):=by omega
     have hb1:(p:Int)<=(E:Int):=by omega
     have hb2:(E:Int)<=(l.length:Int):=by omega
     have hb3:(E:Int)+m<=(l.length:Int):=by omega
     have hb4:(E:Int)<=(E:Int)+m:=by omega
     have hwr0:IntKind.i64.wrap (E:Int)=(E:Int):=IntWalk.i64_in _ (by omega);have hwr:IntKind.i64.wrap ((E:Int)+m)=(E:Int)+m:=IntWalk.i64_in _ (by omega);have hb5:(0:Int)<=(E:Int)+m:=by omega
     have hb6:((E:Int)+m).toNat=E+m:=by omega
     have hsz2:(acc.length+1)*40<=140737488355328:=by omega
     have hsz3:acc.length+1<=maxLen:=by unfold maxLen;omega
     have hbs:w.heap.size<=W2.heap.size:=by omega
     obtain⟨i0,hi0,hz0,hz1,hz2⟩:=ve He
     go_region_held3 (λw'=>w'.cell? ⟨B,0,none⟩=some (.int .i64 m)∧w'.cell? ⟨B,1,none⟩=some (.int .i64 kd))
      (first|go_keep|(go_split_ands;refine⟨?_,?_⟩<;>(rw[hgrow.cell_far _ (by simp;omega)<|Ne.symm hneB];simp[*])))
      ((refine step_append_lies _ (by rfl) _ _ _ (by rfl) w.heap.size 93 i0 _ 3 40 underlying86 hi0 hz0 hz1 hz2 rfl (by omega) u6 acc.length (cR acc) (by rfl) ((hown2.alloc _).drew) ⟨W2.heap.size,0,none⟩ 1 1 [.int .i64 kd,.string ⟨((l.drop p).take n).toArray⟩,.string ⟨((l.drop E).take m).toArray⟩] (by rfl) (by rfl) (World.news_of_block (cs:=#[.int .i64 kd,.string ⟨((l.drop p).take n).toArray⟩,.string ⟨((l.drop E).take m).toArray⟩]) (t:=93) (fr:=(0,0))<|heap_alloc_new W2 _) (by simp[Value.oneCell']) (by omega) hsz3 hsz2 (by simp;omega) (W2.heap.size+1) (by simp) ?_;intro gg cap w3 hown3 hgrow hat hlt3))
     have hc03:w3.cell? ⟨B,0,none⟩=some (.int .i64 m):=by rename_i hh;exact hh.1
     have HX:=Lib.hid (((HX2.out.alloc _).drew).grown hgrow (λk hk=>(hown2.lt k hk).1));have HO1:=Lib.hid (show w3.ownsRow w.heap.size 93 3 (.slice (some ⟨gg,0,none⟩) (acc.length+1) cap) (acc++[TokZ.mk kd ((l.drop p).take n) ((l.drop E).take m)]).length (cR (acc++[TokZ.mk kd ((l.drop p).take n) ((l.drop E).take m)]))from by
      rw[xy,aac];exact hown3)
     clear hown3 hgrow hat hown2 hsz2 hsz3 hi0 hz0 hz1 hz2 hwr hwr0 hb6 hc0 hc1
     go_wp2
     go_roundg (l.length-(E+m))
     case measure=>omega
     case rel=>
      refine⟨E+m,F',acc++[TokZ.mk kd ((l.drop p).take n)<|(l.drop E).take m],by omega,rfl,by go_num,by simp;omega,by omega,?_,HO1.out,HX.out⟩;rw[<-HSc.out,CS HLd.out HnE.out (by rw[HDp.out];exact HT.out),HDp.out,List.drop_drop,<-HEE.out]
      congr 2<;>omega
theorem SN(l:YB)(w:World)(hl:l.length<=281474976710656):Calls prog 164 #[.string ⟨l.toArray⟩] w (ScanPost l w):=by
 by_cases h4:4096<l.length
 ·have HS:=Lib.hid (show fj l=⟨[],[],4096,3⟩from by simp[fj,h4])
  go_enter func164,ntmps164
  go_wp2
  exact bodyPost_ret (v:=.tuple #[.slice none 0 0,.string ⟨([]:YB).toArray⟩,.int .i64 4096,.int .i64 3]) (by simp[results,results164,go_sem]) rfl<|kC HS.out rfl rfl rfl (lX _)<|Ext.refl _
 ·have HS:=Lib.hid (show fj l=scanT (l.length+1) l 0 []from by simp[fj,h4])
  go_enter func164,ntmps164
  go_wp2_with fail
  refine(QY _ _<|by omega).mono ?_;rintro e w' ⟨v,rfl,U,E⟩;obtain⟨A,c,rfl,J,Z,G⟩:=U;have HR:=Lib.hid G;clear G;have HX:=Lib.hid E;clear E;rw[<-HS.out]at HR J⊢
  go_wp2
  exact bodyPost_ret (v:=.tuple #[.slice A (fj l).toks.length c,.string ⟨(fj l).tail.toArray⟩,.int .i64 ((fj l).place:Nat),.int .i64 ((fj l).err:Nat)]) (by simp[results,results164,go_sem]) rfl ⟨_,rfl,⟨A,c,rfl,J,Z,HR.out⟩,HX.out⟩
theorem zH:∀(l:List TokZ) (k:Nat) (h:k<l.length),(cR l)[k*3]?=some (.int .i64 l[k].kind)∧(cR l)[k*3+1]?=some (.string ⟨l[k].lead.toArray⟩)∧(cR l)[k*3+2]?=some (.string ⟨l[k].text.toArray⟩)
 |t::l,0,_=>⟨rfl,rfl,rfl⟩
 | t::l,k+1,h=>by
  have ih:=zH l k (by simpa using h);have e:cR (t::l)=[.int .i64 t.kind,.string ⟨t.lead.toArray⟩,.string ⟨t.text.toArray⟩]++cR l:=rfl;rw[e];refine⟨?_,?_,?_⟩
  ·rw[List.getElem?_append_right (by simp;omega)];simpa[Nat.succ_mul]using ih.1
  ·rw[List.getElem?_append_right (by simp;omega)];have :(k+1)*3+1-3=k*3+1:=by omega
   simpa[this]using ih.2.1
  ·rw[List.getElem?_append_right (by simp;omega)];have :(k+1)*3+2-3=k*3+2:=by omega
   simpa[this]using ih.2.2
theorem um{w:World}{A:Option Addr}{l:List TokZ}(h:Row w 3 A l.length<|cR l)(G:k<l.length):
  ∃b off,A=some ⟨b,off,none⟩∧b<w.heap.size∧w.cell? ⟨b,off+k*3,none⟩=some (.int .i64 l[k].kind)∧w.cell? ⟨b,off+k*3+1,none⟩=some (.string ⟨l[k].lead.toArray⟩)∧w.cell? ⟨b,off+k*3+2,none⟩=some (.string ⟨l[k].text.toArray⟩):=by
 obtain⟨b,off,rfl,hb,E⟩:=h.2 (by omega);obtain⟨J,h1,h2⟩:=zH l k G;refine⟨b,off,I,hb,?_,?_,?_⟩
 ·rw[E _ (by omega),J]
 ·rw[aav,E _ (by omega),h1]
 ·rw[aav,E _ (by omega),h2]
set_option maxHeartbeats 1000000 in
theorem EQ(l:YB)(w:World)(hl:l.length<=281474976710656):Calls prog 127 #[.string ⟨l.toArray⟩] w λe w'=>e=.returned (.int .i64 (bj l:Nat))∧w=w':=by
 by_cases E:l=[]
 ·subst E
  go_enter func127,ntmps127
  go_wp2
  go_ret
  exact⟨I,I⟩
 ·have Z:(l==[])=false:=by simpa using E
  have hb2:l.isEmpty=false:=by simpa using E
  have G:0<l.length:=List.length_pos_iff.2 E;obtain⟨k,n,e,hT⟩:∃k n e,tokenT l=(k,n,e):=⟨_,_,_,rfl⟩;have HT:=Lib.hid hT;have HC:=Lib.hid (show bj l=if e=0∧n=l.length then k else 0 from by simp only[bj,if_neg E,hT]);clear hT E
  go_enter func127,ntmps127
  go_wp2_with fail
  refine(Ks _ _ G hl).mono ?_;rintro e0 w' ⟨rfl,rfl⟩;rw[HT.out];by_cases U:e=0
  ·subst U;by_cases hn:n=l.length
   ·have J:((n:Int)!=(l.length:Int))=false:=by simp;omega
    have HR:=Lib.hid<|HC.out.trans<|if_pos ⟨rfl,hn⟩;clear hn
    go_wp2
    go_ret
    exact⟨bw (by rw[HR.out]),I⟩
   ·have J:((n:Int)!=(l.length:Int))=true:=by simp;omega
    have HR:=Lib.hid<|HC.out.trans<|if_neg λh=>hn h.2;clear hn
    go_wp2
    go_ret
    exact⟨bw (by rw[HR.out];rfl),I⟩
  ·have heb:((e:Int)!=0)=true:=by simp;omega
   have HR:=Lib.hid<|HC.out.trans<|if_neg λh=>U h.1
   go_wp2
   go_ret
   exact⟨bw (by rw[HR.out];rfl),I⟩
theorem yF{c:UInt8}(E:0<l.length)(G:l[0]=c)(h:bH c=true∨c.toNat=35):tokenT l=(0,0,2):=by
 have hv:c.toNat=9∨c.toNat=10∨c.toNat=13∨c.toNat=32∨c.toNat=35:=by
  rcases h with h|h
  ·simp[bH]at h;omega
  ·omega
 have J:aT c=true:=by
  rcases hv with h|h|h|h|h<;>simp[aT,bH,dM,h]
 have hs:qO.contains c=false:=by
  have h:∀n:UInt8,(c==n)=(c.toNat==n.toNat):=λn=>by rw[Bool.eq_iff_iff];simp[UInt8.toNat_inj]
  simp only[qO,List.contains_cons,List.contains_nil,Bool.or_false,h];rcases hv with h|h|h|h|h<;>rw[h]<;>rfl
 rw[yH E G,if_neg (by simp[J]),if_neg (by simp[bo,cv,upperB];omega),if_neg (by simp[bC];omega),if_neg (by omega),if_neg (by omega),if_neg (by rw[hs];simp)]
set_option maxHeartbeats 1000000 in
theorem DX(l:YB)(w:World)(hl:l.length<=281474976710656):Calls prog 163 #[.string ⟨l.toArray⟩] w λe w'=>e=.returned (.int .i64 (bj l:Nat))∧Ext w w':=by
 by_cases G:l=[]
 ·subst G
  go_enter func163,ntmps163
  go_wp2
  go_ret
  exact⟨I,Ext.refl _⟩
 ·have hb1:(l==[])=false:=by simpa using G
  have hb2:l.isEmpty=false:=by simpa using G
  have hpos:0<l.length:=List.length_pos_iff.2 G;obtain⟨k,n,e,hT⟩:∃k n e,tokenT l=(k,n,e):=⟨_,_,_,rfl⟩;have HT:=Lib.hid hT;have HC:=Lib.hid (show bj l=if e=0∧n=l.length then k else 0 from by simp only[bj,if_neg G,hT]);clear hT G;obtain⟨c,hc⟩:∃c,({data:=l.toArray}:ByteArray)[0]'hpos=c:=⟨_,rfl⟩;have HC0:=Lib.hid<|show l[0]=c from hc;cases hw:bH c
  rotate_left
  ·have hz:(k,n,e)=(0,0,2):=HT.out.symm.trans<|yF hpos HC0.out<|.inl hw;have HR:=Lib.hid (show bj l=0 from by simp only[Prod.mk.injEq]at hz;rw[HC.out,if_neg<|by omega]);clear hz
   go_enter func163,ntmps163
   go_wp2_with (first|(go_at_call 191;refine qmm (jx _ _) ?_))
   go_ret
   exact⟨bw (by rw[HR.out];rfl),Ext.refl _⟩
  cases J:((c.toNat:Int)==35)
  rotate_left
  ·have hz:(k,n,e)=(0,0,2):=HT.out.symm.trans<|yF hpos HC0.out<|.inr<|cJ (m:=35) J;have HR:=Lib.hid (show bj l=0 from by simp only[Prod.mk.injEq]at hz;rw[HC.out,if_neg<|by omega]);clear hz
   go_enter func163,ntmps163
   go_wp2_with (first|(go_at_call 191;refine qmm (jx _ _) ?_))
   go_ret
   exact⟨bw (by rw[HR.out];rfl),Ext.refl _⟩
  have CN:=Lib.hid λw=>Oo l 0 0 rfl w hpos hl
  go_enter func163,ntmps163
  go_wp2_with (first|(go_at_call 191;refine qmm (jx _ _) ?_))
  refine(CN.out _).mono ?_;rintro e0 w1 ⟨rfl,E⟩;rw[List.drop_zero,HT.out];have HX:=Lib.hid E;clear E CN;by_cases U:e=0
  ·subst U;have HI:=Lib.hid (show nG 0 (k,n,0)=.agg #[.int .i64 n,.int .i64 k,.int .i64 0,.int .i64 0]from by simp[nG]);rw[HI.out];clear HI;by_cases hn:n=l.length
   ·have Z:((n:Int)!=(l.length:Int))=false:=by simp;omega
    have HR:=Lib.hid<|HC.out.trans<|if_pos ⟨rfl,hn⟩;clear hn
    go_wp2
    go_ret
    exact⟨bw (by rw[HR.out]),HX.out.alloc _⟩
   ·have Z:((n:Int)!=(l.length:Int))=true:=by simp;omega
    have HR:=Lib.hid<|HC.out.trans<|if_neg λh=>hn h.2;clear hn
    go_wp2
    go_ret
    exact⟨bw (by rw[HR.out];rfl),HX.out.alloc _⟩
  ·have HI:=Lib.hid (show nG 0 (k,n,e)=.agg #[.int .i64 0,.int .i64 0,.int .i64 e,.int .i64 ((0+n:Nat):Int)]from by simp[nG,U]);rw[HI.out];clear HI;have heb:((e:Int)!=0)=true:=by simp;omega
   have HR:=Lib.hid<|HC.out.trans<|if_neg λh=>U h.1
   go_wp2
   go_ret
   exact⟨bw (by rw[HR.out];rfl),HX.out.alloc _⟩
open Go.RowKit Lx Sx
theorem sum0_calls{fid:FuncId}{us:List V}{v:V}(E:pureL us=true)(G:v.pure=true)(h:∀(S:Nat->Prop) w ρ xs,LRel S w ρ us xs->Calls prog fid xs.toArray w λe w'=>∃x,e=.returned x∧VRel S w' ρ v x∧Chg [] w w'):si prog fid us v:=
 ⟨E,G,λS w ρ xs hr hx=>(h S w ρ xs hx).mono λe w' ⟨x,h1,h2,J⟩=>
  ⟨x,S,ρ,v,_,h1,rfl,hr.chg0 J,⟨ChgP.of0 J,λ_ h=>h,λ_ h=>.inl h,λid b hb=>.inl ⟨id,hb⟩,λid x h=>by
   simp only[pU]at h;split at h
   ·exact h
   ·cases h⟩,h2⟩⟩
theorem Cq{w:World}(h:Ext w w'):Chg [] w w':=Chg.of_ext h []
theorem Cj(l:YB)(hl:l.length<=281474976710656):si prog 127 [.str l] (.int .i64 (bj l:Nat)):=
 sum0_calls rfl rfl λS w ρ xs hx=>by simp only[LRel]at hx;obtain⟨x,ys,rfl,h1,rfl⟩:=hx;simp only[VRel]at h1;subst h1;exact(EQ l w hl).mono λe w' ⟨h1,h2⟩=>⟨_,h1,by simp only[VRel],h2▸Chg.refl _ _⟩
theorem MZ(l:YB)(hl:l.length<=281474976710656):si prog 163 [.str l] (.int .i64 (bj l:Nat)):=
 sum0_calls rfl rfl λS w ρ xs hx=>by simp only[LRel]at hx;obtain⟨x,ys,rfl,h1,rfl⟩:=hx;simp only[VRel]at h1;subst h1;exact(DX l w hl).mono λe w' ⟨h1,h2⟩=>⟨_,h1,by simp only[VRel],Cq h2⟩
def eh:List YB->Nat
 |[]=>0
 |l::r=>l.length+1+eh r
mutual
def tbulk:Tree->Nat
 |.node _ s ls ks=>s.length+eh ls+kbulk ks+1
def kbulk:YT->Nat
 |[]=>0
 |t::r=>tbulk t+kbulk r
end
theorem bK(t:Tree):0<tbulk t:=by cases t;simp only[tbulk];omega
theorem it:∀(ks:YT),ks.length<=kbulk ks
 |[]=>aag _
 |t::r=>by have :=it r;have :=bK t;simp only[kbulk,aad];omega
theorem cP:∀{ks:YT} {i:Nat} {t:Tree},ks[i]?=some t->tbulk t<=kbulk ks
 |[],i,t,h=>by simp at h
 |u::r,0,t,h=>by simp only[List.getElem?_cons_zero,aaa]at h;subst h;simp only[kbulk];omega
 |u::r,i+1,t,h=>by have :=cP (ks:=r) (i:=i) (by simpa using h);simp only[kbulk];omega
theorem fD:∀(a b:YT),kbulk (a++b)=kbulk a+kbulk b
 |[],b=>by simp[kbulk]
 |t::r,b=>by simp only[aap,kbulk,fD r b];omega
theorem xu:∀(l:List YB),l.length<=eh l
 |[]=>aag _
 |x::r=>by have :=xu r;simp only[eh,aad];omega
theorem ta:∀{l:List YB} {i:Nat} {x:YB},l[i]?=some x->x.length+1<=eh l
 |[],i,x,h=>by simp at h
 |u::r,0,x,h=>by simp only[List.getElem?_cons_zero,aaa]at h;subst h;simp only[eh];omega
 |u::r,i+1,x,h=>by have :=ta (l:=r) (i:=i) (by simpa using h);simp only[eh];omega
theorem bt(t:Tree):tbulk t=t.text.length+eh t.leads+kbulk t.kids+1:=by cases t;simp[tbulk,Tree.text,Tree.leads,Tree.kids]
variable{u:Tree}{i:Nat}
theorem dx{t:Tree}(h:t.kids[i]?=some u):tbulk u<tbulk t:=by have :=cP h;rw[bt t];omega
theorem cS(t:Tree):t.kids.length<tbulk t:=by have :=it t.kids;rw[bt t];omega
theorem cU(t:Tree):t.text.length<tbulk t:=by rw[bt t];omega
theorem yB(t:Tree):t.leads.length<tbulk t:=by have :=xu t.leads;rw[bt t];omega
theorem df{C:Tree->Prop}(h:∀t:Tree,(∀(i:Nat) (u:Tree),t.kids[i]?=some u->C u)->C t):∀t,C t:=λt=>by
 have :∀n t,tbulk t<=n->C t:=λn=>by
  induction n with
  |zero=>intro t ht;have :=bK t;omega
  |succ n ih=>intro t ht;exact h t λi u E=>ih u (by have :=dx E;omega)
 exact this _ t<|aag _
theorem aZ{α:Type}(l:List α)(i:Nat):(∃x,l[i]?=some x∧i<l.length)∨(¬i<l.length):=by
 by_cases h:i<l.length
 ·exact .inl ⟨l[i],by simp[h],h⟩
 ·exact .inr h
theorem bJ{α:Type}{l:List α}{x:α}(h:l[i]?=some x):l.drop i=x::l.drop (i+1):=by obtain⟨hl,rfl⟩:=List.getElem?_eq_some_iff.1 h;exact aan hl
set_option maxHeartbeats 1000000
def f0(n:Int)(least leads list:Nat)(most:Int):Int:=if 0<=most∧most<n then-1 else if n<least then-1 else if most<0∧(list:Int)<n then leads+(n-list-1)else leads
def bB(k n:Int):Int:=if k=1 then(if n<0 then-1 else 3)else if k=2 then f0 n 2 6 2 (-1)else if k=16 then f0 n 0 3 0 (-1)else if k=18 then f0 n 1 2 0 (-1)else if k=3 then f0 n 1 3 0 1 else if k=4 then f0 n 1 2 0 1 else if k=8 then f0 n 1 2 0 1 else if k=22 then f0 n 1 2 0 1 else if k=17 then f0 n 1 0 0 1 else if k=19 then f0 n 3 3 0 3 else if k=20 then f0 n 2 4 0 2 else if k=21 then f0 n 2 1 0 2 else if k=5∨k=6∨k=7∨k=9∨k=10∨k=11∨k=12∨k=13∨k=14∨k=15 then f0 n 0 1 0 0 else-1
theorem uL(a b c:Int):fh a b c (if a<b then-1 else c):=zq 0 _ _ _ _ ⟨λh=>by rw[if_pos h],λh=>by rw[if_neg h]⟩
theorem Qu(a b c:Int):ce a b c (if a=b then c else-1):=xS 0 _ _ _ _ ⟨λh=>by rw[if_pos h],λh=>by rw[if_neg h]⟩
theorem QU(m:Nat){n:Int}(E:0<=n)(h1:n<=1000000000)(a b c:Nat)(z:Int)(hb:b<=10)(G:c<=2)(hz:¬(0<=z∧z<n)):kX (m+1) n a b c z (f0 n a b c z):=by
 refine Al m _ _ _ _ _ _ ⟨λh=>⟨λh'=>⟨by omega,by omega,by omega,_,uL _ _ _,?_⟩,λh'=>⟨_,uL _ _ _,?_⟩⟩,λh=>⟨_,uL _ _ _,?_⟩⟩
 ·simp only[f0,if_neg hz,h,h',true_and,if_true]
 ·simp only[f0,if_neg hz,h,h',true_and,if_false]
 ·simp only[f0,if_neg hz,h,false_and,if_false]
theorem QG(m:Nat){n:Int}(E:0<=n)(h1:n<=1000000000)(a b c:Nat)(z:Int)(hb:b<=10)(G:c<=2):aQ (m+2) n a b c z (f0 n a b c z):=by
 refine Ak (m+1) _ _ _ _ _ _ ⟨λh=>⟨λh'=>?_,λh'=>QU m E h1 _ _ _ _ hb G<|by omega⟩,λh=>QU m E h1 _ _ _ _ hb G<|by omega⟩;simp[f0,h,h']
theorem Ch{k n:Int}(J:0<=n)(h1:n<=1000000000):mf k n (bB k n):=by
 have U:∀{r:Int} (a b c:Nat) (z:Int),b<=10->c<=2->r=f0 n a b c z->aQ 3 n a b c z r:=λa b c z hb E e=>by rw[e];exact QG 1 J h1 a b c z hb E
 have G:∀{r:Int} (a b c:Nat) (z:Int),b<=10->c<=2->r=f0 n a b c z->aQ 4 n a b c z r:=λa b c z hb E e=>by rw[e];exact QG 2 J h1 a b c z hb E
 refine AE 4 _ _ _ ?_
 repeat' first|(refine⟨_,uL _ _ _,?_⟩)|(refine And.intro (λ_=>?_) λ_=>?_)|(refine Ap 3 _ _ _ _ ?_)
 all_goals first|(refine G _ _ _ _ (by decide) (by decide) ?_)|(refine U _ _ _ _ (by decide) (by decide) ?_)|skip
 all_goals simp_all[bB]
theorem xh{k n:Int}(E:0<=n)(h1:n<=1000000000):eV k n (bB k n):=by
 refine xc 2 _ _ _ ?_
 repeat' first|(refine⟨_,Qu _ _ _,?_⟩)|(refine And.intro (λ_=>?_) λ_=>?_)|(refine vU 1 _ _ _ _ ?_)|(refine vn 0 _ _ _ _ ?_)|(refine And.intro (by omega) ?_)
 all_goals simp_all[bB]
 all_goals (try unfold f0)
 all_goals (repeat' split)
 all_goals omega
def wT(x:YB):Bool:=x==[43]||x==[45]||x==[42]||x==[60]||x==[61,61]
def nE(k:Int)(x:YB):Bool:=if k=1∨k=3 then(bj x:Int)==2 else if k=2∨k=4∨k=12∨k=20 then(bj x:Int)==1 else if k=9 then(bj x:Int)==2||(bj x:Int)==4 else if k=16 then(bj x:Int)==1||(bj x:Int)==3 else if k=10 then(bj x:Int)==5 else if k=11 then(bj x:Int)==6 else if k=21 then wT x else x==[]
theorem JE(x:YB):mP x (wT x):=by
 refine yj 0 _ _ ?_
 repeat' (refine And.intro (λ_=>?_) λ_=>?_)
 all_goals simp_all[wT]
theorem GG(x:YB):gH x (wT x):=by
 refine rM 0 _ _ ?_
 repeat' (refine And.intro (λ_=>?_) λ_=>?_)
 all_goals simp_all[wT]
theorem Oe(k:Int)(x:YB)(hx:x.length<=281474976710656):pB k x (nE k x):=by
 refine zV 2 _ _ _ ?_;refine⟨_,Cj x hx,?_⟩
 repeat' first|(refine⟨_,JE _,?_⟩)|(refine And.intro (λ_=>?_) λ_=>?_)|(refine zr 1 _ _ _ _ _ ?_)|(refine zp 0 _ _ _ _ _ ?_)
 all_goals simp_all[nE]
theorem LY(k:Int)(x:YB)(hx:x.length<=281474976710656):ja k x (nE k x):=by
 refine tI 2 _ _ _ ?_;refine⟨_,MZ x hx,?_⟩
 repeat' first|(refine⟨_,GG _,?_⟩)|(refine And.intro (λ_=>?_) λ_=>?_)|(refine sY 1 _ _ _ _ _ ?_)|(refine te 0 _ _ _ _ _ ?_)
 all_goals simp_all[nE]
def nP(k:Int):Bool:=decide<|5<=k∧k<=9
def mb(k:Int):Bool:=decide<|10<=k∧k<=22∧k≠17
def ux(k:Int):Bool:=mb k&&decide (k≠19∧k≠20∧k≠21)
theorem My(k:Int):lm k (nP k):=zU 0 _ _ ⟨λh=>by simp[nP,h],λh=>by simp[nP,h]⟩
theorem KH(k:Int):gf k (nP k):=vr 0 _ _ ⟨λh=>by simp[nP,h],λh=>by simp[nP,h]⟩
theorem zb(a b:Int):(a !=b)=decide (a≠b):=by by_cases h:a=b<;>simp[h]
theorem FZ(k:Int):dS k (mb k):=vg 0 _ _ ⟨λh=>⟨λh'=>by simp[mb,h,h',zb],λh'=>by simp[mb,h,h']⟩,λh=>by simp[mb,h]⟩
theorem CR(k:Int):ek k (mb k):=vR 0 _ _ ⟨λh=>⟨λh'=>by simp[mb,h,h',zb],λh'=>by simp[mb,h,h']⟩,λh=>by simp[mb,h]⟩
theorem Oi(k:Int):px k (ux k):=by
 refine zW 0 _ _ ⟨_,FZ k,?_⟩
 repeat' (refine And.intro (λ_=>?_) λ_=>?_)
 all_goals simp_all[ux,zb]
theorem yL(k:Int):gk k (ux k):=by
 refine vz 0 _ _ ⟨_,CR k,?_⟩
 repeat' (refine And.intro (λ_=>?_) λ_=>?_)
 all_goals simp_all[ux,zb]
def gZ(k n:Int)(i:Int)(kk:Int):Bool:=if k=1 then kk==2||kk==3 else if k=2 then(if i=n-1 then mb kk else if i=n-2 then nP kk else kk==4)else if k=3∨k=4∨k=8 then nP kk else if k=16 then kk==17 else if k=21 then ux kk||(decide (i=0)&&kk==21)else mb kk
theorem Pw{t:Tree}(E:t.kids[i]?=some u):qp t i (gZ t.kind t.kids.length i u.kind):=by
 refine AU 1 _ _ _ ⟨i,I,u,E,?_⟩
 repeat' first|(refine⟨_,FZ _,?_⟩)|(refine⟨_,My _,?_⟩)|(refine⟨_,Oi _,?_⟩)|(refine And.intro (λ_=>?_) λ_=>?_)|(refine Ay 0 _ _ _ _ _ ?_)
 all_goals simp_all[gZ]
theorem SD(t:Tree)(i:Nat)(kk:Int):mQ t i kk (gZ t.kind t.kids.length i kk):=by
 refine yA 1 _ _ _ _ ?_
 repeat' first|(refine⟨_,CR _,?_⟩)|(refine⟨_,KH _,?_⟩)|(refine⟨_,yL _,?_⟩)|(refine And.intro (λ_=>?_) λ_=>?_)|(refine xR 0 _ _ _ _ _ ?_)
 all_goals simp_all[gZ]
mutual
def shapeK:Tree->Bool
 |.node k s _ ks=>decide (0<=bB k ks.length)&&nE k s&&shapeKs k ks.length 0 ks
def shapeKs(k n:Int):Nat->YT->Bool
 |_,[]=>true
 |i,t::r=>gZ k n i t.kind&&shapeK t&&shapeKs k n (i+1) r
end
theorem dQ(t:Tree):shapeK t=(decide (0<=bB t.kind t.kids.length)&&nE t.kind t.text&&shapeKs t.kind t.kids.length 0 t.kids):=by cases t;simp only[shapeK];rfl
theorem Az:∀t:Tree,tbulk t<=1000000000->fP t (shapeK t):=df λt ih hb=>by
 have hk:=cS t;have ht:=cU t;have loop:∀m i,t.kids.length-i<=m->(0<=bB t.kind t.kids.length∧nE t.kind t.text=true)->kh (m+1) t i (shapeKs t.kind t.kids.length i<|t.kids.drop i):=λm=>by
  induction m with
  |zero=>
   intro i hi hw;refine rH 0 _ _ _ ⟨λh=>by omega,λh=>?_⟩;rw[List.drop_of_length_le (by omega),shapeKs]
  | succ m ihm=>
   intro i hi hw;refine rH (m+1) _ _ _ ⟨λh=>?_,λh=>?_⟩
   ·obtain⟨u,hu,_⟩|h':=aZ t.kids i
    ·rw[bJ hu,shapeKs];have hbu:=dx hu;refine⟨u,hu,_,Pw hu,λh1=>by simp[h1],λh1=>⟨_,ih i u hu (by omega),λh2=>by simp[h1,h2],λh2=>⟨by omega,?_⟩⟩⟩;simp only[h1,h2,Bool.true_and];exact ihm (i+1) (by omega) hw
    ·exact absurd h h'
   ·rw[List.drop_of_length_le (by omega),shapeKs]
 rw[dQ];refine zX (t.kids.length+1) _ _ ⟨_,Ch (by omega) (by omega),λh=>?_,λh=>⟨_,Oe _ _ (by omega),λh1=>by simp[h1],λh1=>?_⟩⟩
 ·rw[decide_eq_false<|by omega];rfl
 ·rw[decide_eq_true (by omega),h1];exact loop _ 0 (by omega) ⟨by omega,h1⟩
theorem CH:∀t:Tree,tbulk t<=1000000000->dZ t (shapeK t):=df λt ih hb=>by
 have hk:=cS t;have ht:=cU t;have loop:∀m i,t.kids.length-i<=m->fN (m+1) t i (shapeKs t.kind t.kids.length i<|t.kids.drop i):=λm=>by
  induction m with
  |zero=>
   intro i hi;refine nf 0 _ _ _ ⟨λh=>by omega,λh=>?_⟩;rw[List.drop_of_length_le (by omega),shapeKs]
  | succ m ihm=>
   intro i hi;refine nf (m+1) _ _ _ ⟨λh=>?_,λh=>?_⟩
   ·obtain⟨u,hu,_⟩|h':=aZ t.kids i
    ·rw[bJ hu,shapeKs];have hbu:=dx hu;refine⟨u,hu,_,SD _ _ _,λh1=>by simp[h1],λh1=>⟨u,hu,_,ih i u hu (by omega),λh2=>by simp[h1,h2],λh2=>?_⟩⟩;simp only[h1,h2,Bool.true_and];exact ihm (i+1) (by omega)
    ·exact absurd h h'
   ·rw[List.drop_of_length_le (by omega),shapeKs]
 rw[dQ];refine wa (t.kids.length+1) _ _ ⟨_,xh (by omega) (by omega),λh=>?_,λh=>⟨_,LY _ _ (by omega),λh1=>by simp[h1],λh1=>?_⟩⟩
 ·rw[decide_eq_false<|by omega];rfl
 ·rw[decide_eq_true (by omega),h1];exact loop _ 0 (by omega)
set_option maxHeartbeats 4000000
def pW(E G:YI):Prop:=qS 149 [.row 1<|List.map (V.int .i64) E]<|.row 1<|List.map (V.int .i64) G
def gK(E G:YI):Prop:=cb [0] prog 149 [.sl 0] ⟨1,[(0,.row 3 1<|List.map (V.int .i64) E)]⟩<|z7 (.row 1<|List.map (V.int .i64) G) ⟨1,[(0,.row 3 1<|List.map (V.int .i64) E)]⟩
theorem Bo(m:Nat)(E G:YI)(h:∀(a:Bool),(a=true->E.length=0)->((a=true)->[]=G)∧((a=false)->E.length<=1000000000∧E=G)):pW E G:=by
 refine⟨I,I,?_⟩;refine qA 8 [] func149 λK J=>?_;refine gR 9 I<|OF (N:=E.length) ac I I I I (az (V.int .i64) E) λa hb=>?_;replace h:=h a hb;refine gR 2 rfl<|qBi 4 rfl rfl rfl h ?_ ?_<;>intro h;refine gR 8 I ?_;subst h;exact go_sub (F':=(mkF 8 0 [(2,.row 1<|List.map (V.int .i64) [])])) (H':=⟨0,[]⟩) [] [] I J ⟨⟨_,I,(.nil 1)⟩,trivial⟩ trivial I<|qN [.tmp 2];refine gR 7 I ?_;obtain⟨hb,h⟩:=h;refine gDo (.repl 0<|.row 3 1<|List.map (V.int .i64) E) (bq ac I I I I I (aal _) (by rw[az];exact hb)) (okR I) I I I<|gR 4 I<|gFR 1 I (eG _ (λ_=>I) _) I I ?_;subst h;exact qN [.tmp 2]
theorem zo(m:Nat)(E G:YI)(h:∀(a:Bool),(a=true->E.length=0)->y7 a ([]=G) (E.length<=1000000000∧E=G)):gK E G:=by
 refine qA 8 [0] func149 λK J=>?_;refine gR 9 I<|OF (N:=E.length) ac I I I I (az (V.int .i64) E) λa hb=>?_;replace h:=h a hb;refine gR 2 rfl<|qBi 4 rfl rfl rfl h ?_ ?_<;>intro h;refine gR 8 I ?_;subst h;exact gE J [] [(2,.row 1<|List.map (V.int .i64) [])] [0] [.tmp 2] ⟨⟨_,I,(.nil 1)⟩,trivial⟩;refine gR 7 I ?_;obtain⟨hb,h⟩:=h;refine gDo (.repl 1<|.row 3 1<|List.map (V.int .i64) E) (bq ac I I I I I (aal _) (by rw[az];exact hb)) (okR I) I I I<|gR 4 I<|gFR 2 I (eG _ (λ_=>I) _) I I ?_;subst h;exact gE J [] [(2,.row 1<|List.map (V.int .i64) E)] [0] [.tmp 2]
mutual
def nodK:Tree->YI->List (YI×Tree)
 |.node k s ls ks,q=>(q,.node k s ls ks)::nodKs ks q 0
def nodKs:YT->YI->Nat->List (YI×Tree)
 |[],_,_=>[]
 |t::r,q,i=>nodK t (q++[(i:Int)])++nodKs r q (i+1)
end
theorem BU(t:Tree)(q:YI):nodK t q=(q,t)::nodKs t.kids q 0:=by cases t;simp only[nodK];rfl
mutual
theorem nodK_len:∀(t:Tree) (q:YI),(nodK t q).length<=tbulk t
 |.node k s ls ks,q=>by have :=nodKs_len ks q 0;simp only[nodK,tbulk,aad];omega
theorem nodKs_len:∀(l:YT) (q:YI) (i:Nat),(nodKs l q i).length<=kbulk l
 |[],_,_=>by simp[nodKs,kbulk]
 |t::r,q,i=>by have :=nodK_len t<|q++[(i:Int)];have :=nodKs_len r q<|i+1;simp only[nodKs,kbulk,aac];omega
end
def atK:Tree->YI->Option Tree
 |t,[]=>some t
 |t,i::r=>if i<0 then none else match t.kids[i.toNat]? with
  |none=>none
  |some u=>atK u r
theorem wj:∀(t:Tree) (q r:YI),atK t (q++r)=(atK t q).bind λu=>atK u r
 |t,[],r=>rfl
 | t,i::q,r=>by
  simp only[aap,atK];split
  ·rfl
  ·split
   ·rfl
   ·rename_i u hu;exact wj u q r
theorem lT{t:Tree}(h:t.kids[i]?=some u):atK t [(i:Int)]=some u:=by simp[atK,h,show¬((i:Int)<0) by omega]
mutual
theorem nodK_at(root:Tree):∀(t:Tree) (q:YI),atK root q=some t->∀x∈nodK t q,atK root x.1=some x.2
 |.node k s ls ks,q,h,x,hx=>by
  simp only[nodK,aai]at hx;rcases hx with rfl|hx
  ·exact h
  ·exact nodKs_at root (.node k s ls ks) q h ks 0 rfl x hx
theorem nodKs_at(root t:Tree)(q:YI)(h:atK root q=some t):∀(l:YT) (i:Nat),t.kids.drop i=l->∀x∈nodKs l q i,atK root x.1=some x.2
 |[],_,_,x,hx=>by simp[nodKs]at hx
 | u::r,i,hd,x,hx=>by
  simp only[nodKs,aaj]at hx;have hu:t.kids[i]?=some u:=by have :=congrArg (·[0]?) hd;simpa using this
  rcases hx with hx|hx
  ·exact nodK_at root u (q++[(i:Int)]) (by rw[wj,h];exact lT hu) x hx
  ·exact nodKs_at root t q h r (i+1) (by rw[<-List.tail_drop,hd];rfl) x hx
end
mutual
theorem nodK_bnd:∀(t:Tree) (q:YI),∀x∈nodK t q,x.1.length+tbulk x.2<=q.length+tbulk t
 |.node k s ls ks,q,x,hx=>by
  simp only[nodK,aai]at hx;rcases hx with rfl|hx
  ·exact aag _
  ·have :=nodKs_bnd ks q 0 x hx;simp only[tbulk];omega
theorem nodKs_bnd:∀(l:YT) (q:YI) (i:Nat),∀x∈nodKs l q i,x.1.length+tbulk x.2<=q.length+kbulk l+1
 |[],_,_,x,hx=>by simp[nodKs]at hx
 |t::r,q,i,x,hx=>by
  simp only[nodKs,aaj]at hx;rcases hx with hx|hx
  ·have :=nodK_bnd t (q++[(i:Int)]) x hx;simp only[kbulk,aac,List.length_singleton]at *;omega
  ·have :=nodKs_bnd r q (i+1) x hx;simp only[kbulk];omega
end
theorem PU(l:YI)(hl:l.length<=1000000000):pW l l:=Bo 0 _ _ λb hb=>⟨λh=>(List.length_eq_zero_iff.1 (hb h)).symm,λ_=>⟨hl,rfl⟩⟩
theorem AD(l:YI)(hl:l.length<=1000000000):gK l l:=zo 0 _ _ λb hb=>⟨λh=>(List.length_eq_zero_iff.1 (hb h)).symm,λ_=>⟨hl,rfl⟩⟩
mutual
def nN:Tree->Nat
 |.node _ _ _ ks=>nNs ks+1
def nNs:YT->Nat
 |[]=>0
 |t::r=>nN t+nNs r
end
theorem DA(t:Tree):nN t=nNs t.kids+1:=by cases t;simp only[nN,Tree.kids]
theorem sV(t:Tree):0<nN t:=by rw[DA];omega
mutual
theorem nN_bulk:∀t:Tree,nN t<=tbulk t
 |.node _ s l ks=>by have :=nNs_bulk ks;simp only[nN,tbulk];omega
theorem nNs_bulk:∀l:YT,nNs l<=kbulk l
 |[]=>aag _
 |t::r=>by have :=nN_bulk t;have :=nNs_bulk r;simp only[nNs,kbulk];omega
end
theorem BQ:∀a b:YT,nNs (a++b)=nNs a+nNs b
 |[],b=>by simp[nNs]
 |t::r,b=>by simp only[aap,nNs,BQ r b];omega
theorem ol{l:YT}(h:l[i]?=some u):nNs (l.take<|i+1)=nNs (l.take i)+nN u:=by rw[List.take_add_one,h,BQ];simp[nNs]
theorem mT:∀(l:YT) (i:Nat),nNs (l.take i)<=nNs l
 |[],i=>by simp[nNs]
 |t::r,0=>by simp[nNs]
 |t::r,i+1=>by have :=mT r i;simp only[List.take_succ_cons,nNs];omega
theorem fy{l:YT}(h:l[i]?=some u):nNs (l.take i)+nN u<=nNs l:=by
 rw[<-ol h];exact mT l<|i+1
theorem wc:∀l:YT,l.length<=nNs l
 |[]=>aag _
 |t::r=>by have :=wc r;have :=sV t;simp only[aad,nNs];omega
def ay:Tree->YI->Nat
 |_,[]=>0
 |t,i::r=>match t.kids[i.toNat]? with
  |some u=>1+nNs (t.kids.take i.toNat)+ay u r
  |none=>0
theorem eC{t:Tree}{i:Int}{r:YI}(h:t.kids[i.toNat]?=some u):ay t (i::r)=1+nNs (t.kids.take i.toNat)+ay u r:=by simp only[ay,h]
theorem Em:∀(q:YI) (t u:Tree) (r:YI),atK t q=some u->ay t (q++r)=ay t q+ay u r
 |[],t,u,r,h=>by simp only[atK,aaa]at h;subst h;simp[ay]
 |i::q,t,u,r,h=>by
  simp only[atK]at h;split at h
  ·cases h
  split at h
  ·cases h
  rename_i y hy;rw[aap,eC hy,eC hy,Em q y u r h];omega
theorem CA{t v:Tree}{q:YI}(h:atK t q=some u)(hi:u.kids[i]?=some v):ay t (q++[(i:Int)])=ay t q+1+nNs (u.kids.take i):=by
 rw[Em q t u _ h,eC (u:=v)<|by simpa using hi];simp[ay];omega
theorem oI:∀(q:YI) (t u:Tree),atK t q=some u->ay t q+nN u<=nN t
 |[],t,u,h=>by simp only[atK,aaa]at h;subst h;simp[ay]
 |i::q,t,u,h=>by
  simp only[atK]at h;split at h
  ·cases h
  split at h
  ·cases h
  rename_i y hy;have :=oI q y u h;have :=fy hy;rw[eC hy,DA t];omega
theorem wO{t:Tree}{q:YI}(h:atK t q=some u):ay t q<nN t:=by have :=oI q t u h;have :=sV u;omega
mutual
theorem nodK_nN:∀(t:Tree) (q:YI),(nodK t q).length=nN t
 |.node k s l ks,q=>by simp only[nodK,nN,aad,nodKs_nN ks q 0]
theorem nodKs_nN:∀(l:YT) (q:YI) (i:Nat),(nodKs l q i).length=nNs l
 |[],_,_=>rfl
 |t::r,q,i=>by simp only[nodKs,nNs,aac,nodK_nN t,nodKs_nN r]
end
mutual
theorem nodK_num:∀(t:Tree) (p:YI) (k:Nat) (x:YI×Tree),(nodK t p)[k]?=some x->∃r,x.1=p++r∧atK t r=some x.2∧ay t r=k
 |.node kd s l ks,p,0,x,h=>by simp only[nodK,List.getElem?_cons_zero,aaa]at h;subst h;exact⟨[],by simp,rfl,rfl⟩
 | .node kd s l ks,p,k+1,x,h=>by
  simp only[nodK,List.getElem?_cons_succ]at h;obtain⟨i,u,r,h1,h2,h3,h4⟩:=nodKs_num ks p 0 k x h;have hk:(Tree.node kd s l ks).kids[((i:Nat):Int).toNat]?=some u:=by simpa[Tree.kids]using h1
  refine⟨(i:Int)::r,by simpa using h2,?_,?_⟩
  ·simp only[atK];rw[if_neg (by omega),hk];exact h3
  ·rw[eC hk];simp only[Tree.kids,Int.toNat_natCast];omega
theorem nodKs_num:∀(l:YT) (p:YI) (i k:Nat) (x:YI×Tree),(nodKs l p i)[k]?=some x->∃(j:Nat) (u:Tree) (r:YI),l[j]?=some u∧x.1=p++((i+j:Nat):Int)::r∧atK u r=some x.2∧nNs (l.take j)+ay u r=k
 |[],p,i,k,x,h=>by simp[nodKs]at h
 | t::l,p,i,k,x,h=>by
  simp only[nodKs]at h;by_cases hk:k<(nodK t<|p++[(i:Int)]).length
  ·rw[List.getElem?_append_left hk]at h;obtain⟨r,h1,h2,h3⟩:=nodK_num t _ k x h;exact⟨0,t,r,rfl,by rw[h1];simp,h2,by simpa[nNs]using h3⟩
  ·rw[List.getElem?_append_right<|by omega]at h;obtain⟨j,u,r,h1,h2,h3,h4⟩:=nodKs_num l p (i+1) _ x h;have hl:=nodK_nN t<|p++[(i:Int)];exact⟨j+1,u,r,by simpa using h1,by rw[h2,show i+1+j=i+(j+1) by omega],h3,by simp only[List.take_succ_cons,nNs];omega⟩
end
theorem AA:∀(q:YI) (t u:Tree) (p:YI),atK t q=some u->(nodK t p)[ay t q]?=some (p++q,u):=λq t u p h=>by
 have hl:ay t q<(nodK t p).length:=by rw[nodK_nN];exact wO h
 obtain⟨x,hx⟩:∃x,(nodK t p)[ay t q]?=some x:=⟨_,List.getElem?_eq_getElem hl⟩;obtain⟨r,h1,h2,h3⟩:=nodK_num t p _ x hx;have key:∀(q r:List Int) (t u v:Tree),atK t q=some u->atK t r=some v->ay t q=ay t r->q=r:=λq=>by
  induction q with
  | nil=>
   intro r t u v hq hr hn;cases r with
   |nil=>rfl
   |cons j r=>
    exfalso;simp only[atK]at hr;split at hr
    ·cases hr
    split at hr
    ·cases hr
    rename_i y hy;rw[eC hy]at hn;simp only[ay]at hn;omega
  | cons i q ih=>
   intro r t u v hq hr hn;cases r with
   |nil=>
    exfalso;simp only[atK]at hq;split at hq
    ·cases hq
    split at hq
    ·cases hq
    rename_i y hy;rw[eC hy]at hn;simp only[ay]at hn;omega
   | cons j r=>
    simp only[atK]at hq hr;split at hq
    ·cases hq
    rename_i hi0;split at hq
    ·cases hq
    rename_i y hy;split at hr
    ·cases hr
    rename_i hj0;split at hr
    ·cases hr
    rename_i z hz;rw[eC hy,eC hz]at hn;have b1:=wO hq;have b2:=wO hr;rcases Nat.lt_trichotomy i.toNat j.toNat with hlt|heq|hlt
    ·exfalso;have m1:nNs (t.kids.take<|i.toNat+1)<=nNs (t.kids.take j.toNat):=by
      have :=mT (t.kids.take j.toNat)<|i.toNat+1
      rwa [List.take_take,aaF<|by omega]at this
     rw[ol hy]at m1;omega
    ·rw[heq]at hy;rw[hy]at hz;have :=Option.some.inj hz;subst this;rw[heq]at hn;rw[ih r y u v hq hr (by omega),show i=j by omega]
    ·exfalso;have m1:nNs (t.kids.take<|j.toNat+1)<=nNs (t.kids.take i.toNat):=by
      have :=mT (t.kids.take i.toNat)<|j.toNat+1
      rwa [List.take_take,aaF<|by omega]at this
     rw[ol hz]at m1;omega
 have e:=key q r t u x.2 h h2 h3.symm;subst e;rw[h]at h2;have :=Option.some.inj h2;rw[hx];obtain⟨a,b⟩:=x;simp only at h1 this;rw[h1,this]
theorem EN{t v:Tree}{q r:YI}(h1:atK t q=some u)(h2:atK t r=some v)(h:ay t q=ay t r):q=r∧u=v:=by have E:=AA q t u [] h1;have G:=AA r t v [] h2;rw[h,G]at E;simp only[aal,aaa,Prod.mk.injEq]at E;exact⟨E.1.symm,E.2.symm⟩
def fG:YT->Nat->YI
 |[],_=>[]
 |t::r,n=>(n:Int)::fG r (n+nN t)
theorem gD:∀(l:YT) (n:Nat),(fG l n).length=l.length
 |[],_=>rfl
 |t::r,n=>by simp[fG,gD r]
theorem Fq:∀(l:YT) (n i:Nat),i<l.length->(fG l n)[i]?=some ((n+nNs (l.take i):Nat):Int)
 |[],n,i,h=>by simp at h
 |t::r,n,0,h=>by simp[fG,nNs]
 |t::r,n,i+1,h=>by
  simp only[fG,List.getElem?_cons_succ,List.take_succ_cons,nNs];rw[Fq r _ i<|by simpa using h]
  congr 2;omega
theorem Da:∀(l:YT) (t:Tree) (n:Nat),fG (l++[t]) n=fG l n++[((n+nNs l:Nat):Int)]
 |[],t,n=>by simp[fG,nNs]
 |u::r,t,n=>by simp only[aap,fG,Da r t,nNs];rw[show n+nN u+nNs r=n+(nN u+nNs r) by omega]
variable{ty:TypeId}{x:Operand}
section
variable{P:Program}{T:Tab}{K:Ctx}{Q:Exit->Act->World->Prop}{s:List EI}{n:Nat}{F:Fm}{H:Hp}{all:Array Oper}{rest:List Oper}{o:Oper}
theorem Sm{f:Nat->Option Value}{a:Act}{w:World}{src dst:TypeId}{k k' k1:IntKind}{m:Int}(h:Fr a n f)(hs:P.underlying src=some (.int k1))(ht:P.underlying dst=some (.int k))(hx:aD f x=some (.int k' m))(E:k.wrap m=m):Runs P a ty (.convert src dst x) w (.value<|.int k m) w:=λ_ _ _ _=>by simp only[execOp,h.eval hx];simp[go_sem,convert,run_underlying hs,run_underlying ht,Conv.intToInt,E]
theorem yCv{src dst:TypeId}{k k' k1:IntKind}{m:Int}(hs:P.underlying src=some (.int k1))(ht:P.underlying dst=some (.int k))(hx:aG F x=some (.int k' m))(E:k.wrap m=m):∀S w ρ a,HRel S w ρ H.get->FRel S w ρ a n F->Yld P S w ρ a ty (.convert src dst x) (.int k m):=λS w ρ a hr hF=>⟨_,by simp only[VRel],λw' _=>Sm hF.fr hs ht (aW<|al hF hx) E⟩
end
section
variable{α β:Type}[DecidableEq α]
def aC(a:α):List (α×β)->Option β
 |[]=>none
 |p::r=>if p.1=a then some p.2 else aC a r
def aR(a:α)(b:β):List (α×β)->List (α×β)
 |[]=>[(a,b)]
 |p::r=>if p.1=a then(a,b)::r else p::aR a b r
theorem ik(a c:α)(b:β):∀l:List<|α×β,aC c (aR a b l)=if c=a then some b else aC c l
 |[]=>by
  simp only[aR,aC];by_cases h:c=a
  ·rw[if_pos h,if_pos h.symm]
  ·rw[if_neg h,if_neg λe=>h e.symm]
 | p::r=>by
  simp only[aR];split
  ·rename_i hp;simp only[aC];by_cases h:c=a
   ·rw[if_pos h,if_pos h.symm]
   ·rw[if_neg h,if_neg λe=>h e.symm,if_neg λe=>h<|by rw[<-e,hp]]
  ·rename_i hp;simp only[aC,ik a c b r];by_cases h:p.1=c
   ·rw[if_pos h,if_pos h,if_neg λe=>hp<|by rw[h,e]]
   ·rw[if_neg h,if_neg h]
def qB(a:α):List (α×β)->List MapEntry->Nat->Option (Nat×Value)
 |p::r,e::es,i=>if p.1=a then some (i,e.val)else qB a r es (i+1)
 |_,_,_=>none
end
structure KeyT (P:Program) (kt:TypeId) (α:Type) [DecidableEq α] (enc:α->V) where
 val:α->Value
 rel:∀a S w ρ x,VRel S w ρ (enc a) x↔x=val a
 chk:∀w em a,(Instr.checkKey em 10000 kt (val a)).run P w=.ok () w
 fnd:∀w a (β:Type) (l:List (α×β)) (es:List MapEntry),es.map (·.key)=l.map (λp=>val p.1)->(Instr.findKey kt (val a) es).run P w=.ok (qB a l es 0) w
 stay:∀w a,(Instr.keyThatStays (val a) (val a)).run P w=.ok (val a) w
variable{t:TypeId}
variable{et:TypeId}
variable{ks vs:List V}
variable{y:Operand}{zv:V}
section
variable{P:Program}{α β:Type}[DecidableEq α]{enc:α->V}{kt:TypeId}
theorem ri(val:α->Value)(a:α):∀(l:List<|α×β) (es:List MapEntry) (i:Nat),es.map (·.key)=l.map (λp=>val p.1)->
  (qB a l es i=none∧aC a l=none∧∀b,aR a b l=l++[(a,b)])∨∃j e d,qB a l es i=some (i+j,e.val)∧es[j]?=some e∧e.key=val a∧l[j]?=some (a,d)∧aC a l=some d∧∀b,aR a b l=l.set j (a,b)
 |[],[],i,h=>.inl ⟨rfl,rfl,λb=>rfl⟩
 |[],e::es,i,h=>by simp at h
 |p::r,[],i,h=>by simp at h
 | p::r,e::es,i,h=>by
  simp only[aah,List.cons.injEq]at h;by_cases hp:p.1=a
  ·refine .inr ⟨0,e,p.2,by simp only[qB,if_pos hp];rfl,rfl,by rw[h.1,hp],by rw[<-hp];rfl,by simp only[aC,if_pos hp],λb=>by simp only[aR,if_pos hp];rfl⟩
  ·rcases ri val a r es (i+1) h.2 with⟨h1,h2,h3⟩|⟨j,e',d,h1,h2,h3,h4,h5,h6⟩
   ·exact .inl ⟨by simp only[qB,if_neg hp,h1],by simp only[aC,if_neg hp,h2],λb=>by simp only[aR,if_neg hp,h3 b];rfl⟩
   ·exact .inr ⟨j+1,e',d,by simp only[qB,if_neg hp,h1,show i+1+j=i+(j+1) by omega],by simpa using h2,h3,by simpa using h4,by simp only[aC,if_neg hp,h5],λb=>by simp only[aR,if_neg hp,h6 b];rfl⟩
theorem CK{d:TypeDesc}{val:α->Value}(hs:∀a b,Instr.sameNow d (val a) (val b)=some (decide<|b=a))(a:α):∀(l:List<|α×β) (es:List MapEntry) (i:Nat),es.map (·.key)=l.map (λp=>val p.1)->Instr.findNow d (val a) es i=some (qB a l es i)
 |[],[],i,h=>rfl
 |[],e::es,i,h=>by simp at h
 |p::r,[],i,h=>by simp at h
 | p::r,e::es,i,h=>by
  simp only[aah,List.cons.injEq]at h;unfold Instr.findNow;rw[h.1,hs];by_cases hp:p.1=a
  ·simp[hp,qB]
  ·simp only[hp,decide_false,qB,if_neg];exact CK hs a r es (i+1) h.2
def QH(E:P.underlying kt=some (.int .i64)):KeyT P kt Int (V.int .i64) where
 val a:=.int .i64 a
 rel a S w ρ x:=by simp only[VRel]
 chk w em a:=by show(Instr.checkKey em (9999+1) kt _).run P w=_;unfold Instr.checkKey;simp[run_underlying E]
 fnd w a β l es h:=MapKept.run_findKey E (CK (val:=λa=>Value.int .i64 a) (λa b=>by
  simp only[Instr.sameNow,if_true]
  congr 1
  by_cases h:a=b
  ·subst h;simp
  ·have h':¬b=a:=λe=>h e.symm;rw[decide_eq_false h'];simpa using h) a l es 0 h)
 stay w a:=by
  have :Instr.sameBits 10000 (.int .i64 a) (.int .i64 a)=true:=by unfold Instr.sameBits;simp
  simp[Instr.keyThatStays,this]
variable{S:Nat->Prop}{w w':World}{ρ ρ':Nat->Option Value}{h h':Nat->Ob}{a:Act}{n:Nat}{ty:TypeId}
theorem Gk:Runs P a ty (.makeMap t none) w (.value<|.map<|some w.heap.size) (w.alloc<|.map #[] 0):=λ_ _ _ _=>by simp only[execOp,Option.map_none];simp[run_makeMap]
theorem e_mkMap{kt:TypeId}{nid:Nat}(hr:HRel S w ρ h)(hf:h nid=.free):Does P S w ρ h a ty (.makeMap t none) (some<|.sl nid) (bi h nid<|.mp kt et [] []) (λ_=>False):=by
 have E:Chg [] w (w.alloc<|.map #[] 0):=Chg.alloc w _;refine⟨_,_,cj ρ nid<|.map<|some w.heap.size,Gk,eff_new hr hf E ⟨w.heap.size,#[],0,aV _ _ _,heap_alloc_new w _,by simp[LRel],by simp[LRel]⟩ λb hb=>?_,_,rfl,?_⟩
 ·simp only[own]at hb;rw[aV]at hb;simp only[aaa,Value.map.injEq]at hb;omega
 ·simp only[VRel];exact⟨aV _ _ _,rfl⟩
def za(c:Bool)(o:Option β)(encV:β->V)(zv:V):V:=match o with
 |some d=>match c with|true=>.tup [encV d,.bool true]|false=>encV d
 |none=>match c with|true=>.tup [zv,.bool false]|false=>zv
theorem Bh{id:Nat}(hr:HRel S w ρ h)(ho:h id=.mp kt et ks vs):∃b es clock,ρ id=some (.map<|some b)∧w.heap[b]?=some (.map es clock)∧LRel S w ρ0 ks (es.toList.map (·.key))∧LRel S w ρ0 vs (es.toList.map (·.val)):=by have :=hr.ob id;rw[ho]at this;exact this
theorem sB(D:KeyT P kt α enc){f:β->α}:∀{l:List β} {xs:List Value},LRel S w ρ0 (l.map λp=>enc<|f p) xs->xs=l.map λp=>D.val (f p)
 |[],xs,h=>by simp only[aau,LRel]at h;simp[h]
 |p::r,xs,h=>by simp only[aah,LRel]at h;obtain⟨x,ys,rfl,h1,h2⟩:=h;rw[(D.rel _ _ _ _ _).1 h1,sB D h2];rfl
theorem At{f:β->V}:∀{l:List β} {xs:List Value} {j:Nat} {x:Value} {d:β},LRel S w ρ0 (l.map f) xs->xs[j]?=some x->l[j]?=some d->VRel S w ρ0 (f d) x
 |[],xs,j,x,d,h,_,E=>by simp at E
 |p::r,xs,0,x,d,h,hx,E=>by simp only[aah,LRel]at h;obtain⟨y,ys,rfl,h1,h2⟩:=h;simp only[List.getElem?_cons_zero,aaa]at hx E;subst hx E;exact h1
 |p::r,xs,j+1,x,d,h,hx,E=>by simp only[aah,LRel]at h;obtain⟨y,ys,rfl,h1,h2⟩:=h;exact At h2 (by simpa using hx) (by simpa using E)
theorem GT(D:KeyT P kt α enc){encV:β->V}{id:Nat}{k:α}{l:List<|α×β}{c:Bool}{z:Value}(hr:HRel S w ρ h)(fr:Fr a n<|fA a)(hx:Opd S w ρ a x<|.sl id)(hy:Opd S w ρ a y<|enc k)(ho:h id=.mp kt et (l.map λp=>enc p.1) (l.map λp=>encV p.2))(ht:P.underlying t=some (.map kt et))(hz:(zeroValue et).run P w=.ok z w)(G:VRel S w ρ zv z):
  Does P S w ρ h a ty (.lookup t x y c) (some<|za c (aC k l) encV zv) h (λ_=>False):=by
 obtain⟨u,k1,U⟩:=hx;obtain⟨q,k3,Z⟩:=hy;simp only[VRel]at U;obtain⟨b,es,ck,h1,h2,h3,h4⟩:=Bh hr ho;rw[U.1]at h1;cases h1;rw[D.rel]at Z;subst Z;have J:=sB D h3;have E:=D.fnd w k β l es.toList J;have key:∀v,(Instr.lookup t (.map<|some b) (D.val k) c).run P w=.ok v w->Runs P a ty (.lookup t x y c) w (.value v) w:=λv hv _ _ _ _=>by simp only[execOp,fr.eval k1,fr.eval k3];simp[hv]
 rcases ri D.val k l es.toList 0 J with⟨g1,g2,_⟩|⟨j,e,d,g1,g2,g3,g4,g5,_⟩
 ·rw[g1]at E;refine⟨_,w,ρ,key (if c then .tuple #[z,.bool false]else z) ?_,Eff.refl hr,_,I,?_⟩
  ·simp[Instr.lookup,run_underlying ht,MapKept.run_getObj_map h2,D.chk,E,hz,Result.andThen]
  ·rw[g2];cases c with
   |true=>simp only[za,if_true,VRel];exact⟨[z,.bool false],rfl,z,_,rfl,G,_,_,rfl,rfl,rfl⟩
   |false=>exact G
 ·rw[g1]at E;have hv:VRel S w ρ (encV d) e.val:=(At (f:=λp:α×β=>encV p.2) h4 (by rw[List.getElem?_map,g2];rfl) g4).up up0;refine⟨_,w,ρ,key (if c then .tuple #[e.val,.bool true]else e.val) ?_,Eff.refl hr,_,I,?_⟩
  ·simp[Instr.lookup,run_underlying ht,MapKept.run_getObj_map h2,D.chk,E,Result.andThen]
  ·rw[g5];cases c with
   |true=>simp only[za,if_true,VRel];exact⟨[e.val,.bool true],rfl,e.val,_,rfl,hv,_,_,rfl,rfl,rfl⟩
   |false=>exact hv
theorem Rm(D:KeyT P kt α enc){encV:β->V}{z:Operand}{id:Nat}{k:α}{d:β}{l:List<|α×β}(hr:HRel S w ρ h)(fr:Fr a n<|fA a)(hx:Opd S w ρ a x<|.sl id)(hy:Opd S w ρ a y<|enc k)(hz:Opd S w ρ a z<|encV d)(hp:(encV d).pure=true)(ho:h id=.mp kt et (l.map λp=>enc p.1) (l.map λp=>encV p.2))(ht:P.underlying t=some (.map kt et)):
  Does P S w ρ h a ty (.mapUpdate t x y z) none (bi h id<|.mp kt et ((aR k d l).map λp=>enc p.1)<|(aR k d l).map λp=>encV p.2) (·=id):=by
 obtain⟨u,k1,Z⟩:=hx;obtain⟨q,k3,k4⟩:=hy;obtain⟨v,k5,k6⟩:=hz;simp only[VRel]at Z;obtain⟨b,es,ck,h1,h2,h3,h4⟩:=Bh hr ho;rw[Z.1]at h1;cases h1;rw[D.rel]at k4;subst k4;have hks:=sB D h3;have G:=D.fnd w k β l es.toList hks;have hlt:b<w.heap.size:=by
  rcases Nat.lt_or_ge b w.heap.size with h5|h5
  ·exact h5
  ·rw[Array.getElem?_eq_none h5]at h2;cases h2
 have key:∀w',(Instr.mapUpdate t (.map<|some b) (D.val k) v).run P w=.ok () w'->Runs P a ty (.mapUpdate t x y z) w .skip w':=λw' hv _ _ _ _=>by simp only[execOp,fr.eval k1,fr.eval k3,fr.eval k5];simp[hv]
 have hX:∀c,c∈[b]->own ρ id (h id) c:=λc U=>by simp only[List.mem_singleton]at U;subst U;rw[ho];exact Z.1
 have U:∀o,Chg [b] w {w with heap:=w.heap.setIfInBounds b o}:=λo=>⟨rfl,rfl,rfl,by simp,λc U E=>by simp only[List.mem_singleton]at E;simp only[Array.getElem?_setIfInBounds];rw[if_neg (λe=>E e.symm)]⟩
 have hob:∀o,({w with heap:=w.heap.setIfInBounds b o}:World).heap[b]?=some o:=λo=>by simp[Array.getElem?_setIfInBounds,hlt]
 have up:∀o,Up S S w {w with heap:=w.heap.setIfInBounds b o} ρ0 ρ0:=λo=>⟨λ_ h=>h,λc hc' hcl=>(U o).block c hcl (λE=>by simp only[List.mem_singleton]at E;subst E;exact hr.sep id c (hX c<|by simp) hc'),λ_ _ h=>h⟩;have J:∀ks vs c,own ρ id (.mp kt et ks vs) c->own ρ id (h id) c:=λks vs c hb=>by rw[ho];exact hb
 have hv0:VRel S w ρ0 (encV d) v:=k6.pure hp;rcases ri D.val k l es.toList 0 hks with⟨g1,_,g3⟩|⟨j,e,d',g1,g2,g3,g4,_,g6⟩
 ·rw[g1]at G;refine⟨_,_,ρ,key {w with heap:=w.heap.setIfInBounds b<|.map (es.push ⟨D.val k,v,ck⟩)<|ck+1} ?_,qx hr (U _) hX ⟨b,_,_,Z.1,hob _,?_,?_⟩<|J _ _,I⟩
  ·simp[Instr.mapUpdate,run_underlying ht,MapKept.run_getObj_map h2,D.chk,G,MapKept.run_setObj_map _ h2,Result.andThen]
  ·rw[g3];simp only[aaq,aah,aau,Array.toList_push];exact(LRel.up (up _) h3).append ⟨_,_,I,(D.rel _ _ _ _ _).2 I,I⟩
  ·rw[g3];simp only[aaq,aah,aau,Array.toList_push];exact(LRel.up (up _) h4).append ⟨_,_,I,VRel.up (up _) hv0,I⟩
 ·rw[g1,Nat.zero_add]at G;have hj:es[j]?=some e:=by simpa using g2
  have hlist:(es.modify j (λe'=>{e' with key:=D.val k,val:=v})).toList=es.toList.set j {e with key:=D.val k,val:=v}:=by rw[Array.toList_modify,ChangeMaps.modify_eq_set _ _ _ _ g2]
  refine⟨_,_,ρ,key {w with heap:=w.heap.setIfInBounds b (.map (es.modify j (λe'=>{e' with key:=D.val k,val:=v})) ck)} ?_,qx hr (U _) hX ⟨b,_,_,Z.1,hob _,?_,?_⟩<|J _ _,I⟩
  ·simp[Instr.mapUpdate,run_underlying ht,MapKept.run_getObj_map h2,D.chk,G,hj,g3,D.stay,MapKept.run_setObj_map _ h2,Result.andThen]
  ·rw[g6,hlist];simp only[List.map_set];exact(LRel.up (up _) h3).set<|(D.rel _ _ _ _ _).2 I
  ·rw[g6,hlist];simp only[List.map_set];exact(LRel.up (up _) h4).set<|VRel.up (up _) hv0
end
variable{o':Ob}
section
variable{P:Program}{T:Tab}{K:Ctx}{Q:Exit->Act->World->Prop}{p:EP}{s:List EI}{n:Nat}{F F1:Fm}{H H1:Hp}{α β:Type}[DecidableEq α]{enc:α->V}{kt:TypeId}
theorem dMM(kt et:TypeId):∀S w ρ a,HRel S w ρ H.get->FRel S w ρ a n F->Does P S w ρ H.get a ty (.makeMap t none) (some<|.sl H.nx) ((ED.new<|.mp kt et [] []).app H.get H.nx) (ED.new<|.mp kt et [] []).tch:=λS w ρ a hr hF=>
 e_mkMap hr H.get_free
theorem od(D:KeyT P kt α enc){encV:β->V}{id:Nat}{k:α}{l:List<|α×β}{c:Bool}{v:V}{z:Value}{ty:TypeId}(hq:aC k l=none)(ht:P.underlying t=some (.map kt et))(hz:∀w,(zeroValue et).run P w=.ok z w)(E:zEq z zv=true)(hx:aG F x=some (.sl id))(hy:aG F y=some (enc k))(ho:H.get id=.mp kt et (l.map λp=>enc p.1) (l.map λp=>encV p.2))(hv:(match c with|true=>V.tup [zv,.bool false]|false=>zv)=v):
  ∀S w ρ a,HRel S w ρ H.get->FRel S w ρ a n F->Does P S w ρ H.get a ty (.lookup t x y c) (some v) (ED.nop.app H.get H.nx) ED.nop.tch:=λS w ρ a hr hF=>by
 have :=GT (ty:=ty) (c:=c) (zv:=zv) D hr hF.fr (al hF hx) (al hF hy) ho ht (hz w)<|yb E;rw[hq]at this;subst hv;exact this
theorem nX(D:KeyT P kt α enc){encV:β->V}{id:Nat}{k:α}{l:List<|α×β}{c:Bool}{v:V}{z:Value}{ty:TypeId}{d:β}(hq:aC k l=some d)(ht:P.underlying t=some (.map kt et))(hz:∀w,(zeroValue et).run P w=.ok z w)(E:zEq z zv=true)(hx:aG F x=some (.sl id))(hy:aG F y=some (enc k))(ho:H.get id=.mp kt et (l.map λp=>enc p.1) (l.map λp=>encV p.2))(hv:(match c with|true=>V.tup [encV d,.bool true]|false=>encV d)=v):
  ∀S w ρ a,HRel S w ρ H.get->FRel S w ρ a n F->Does P S w ρ H.get a ty (.lookup t x y c) (some v) (ED.nop.app H.get H.nx) ED.nop.tch:=λS w ρ a hr hF=>by
 have :=GT (ty:=ty) (c:=c) (zv:=zv) D hr hF.fr (al hF hx) (al hF hy) ho ht (hz w)<|yb E;rw[hq]at this;subst hv;exact this
theorem pj(D:KeyT P kt α enc){encV:β->V}{z:Operand}{id:Nat}{k:α}{d:β}{l:List<|α×β}{v:V}{ty:TypeId}(ht:P.underlying t=some (.map kt et))(hx:aG F x=some (.sl id))(hy:aG F y=some (enc k))(hz:aG F z=some v)(hv:v=encV d)(hp:v.pure=true)(ho:H.get id=.mp kt et (l.map λp=>enc p.1) (l.map λp=>encV p.2))(G:((aR k d l).map λp=>enc p.1)=ks)(E:((aR k d l).map λp=>encV p.2)=vs):
  ∀S w ρ a,HRel S w ρ H.get->FRel S w ρ a n F->Does P S w ρ H.get a ty (.mapUpdate t x y z) none ((ED.set id<|.mp kt et ks vs).app H.get H.nx) (ED.set id<|.mp kt et ks vs).tch:=λS w ρ a hr hF=>by
 subst hv G E;exact Rm D hr hF.fr (al hF hx) (al hF hy) (al hF hz) hp ho ht
theorem okM{kt:TypeId}{id:Nat}(ho:H.get id=.mp kt et ks vs):(ED.set id o').ok H.get:=by exact⟨by rw[ho];simp,by rw[ho];simp⟩
theorem gHM{kt:TypeId}(id:Nat)(ks' vs':List V)(ho:H.get id=.mp kt et ks vs)(h1:ks=ks')(h2:vs=vs')(E:H.ap (.set id<|.mp kt et ks' vs') _root_.id=H1)(k:Go P K Q p s n F H1):Go P K Q p s n F H:=by
 subst h1 h2;rw[Hp.ap_eq]at E;subst E;have G:(H.app<|.set id<|.mp kt et ks vs).get=H.get:=by
  rw[Hp.get_app<|by exact⟨by rw[ho];simp,by rw[ho];simp⟩];exact Ae ho
 intro S w ρ a hr hi hF;exact k S w ρ a (by rw[id_eq,G];exact hr) (by rw[id_eq,G];exact hi) hF
section
variable{t e u ty:TypeId}{x:Operand}
end
end
variable{bs:YN}
section
variable{P:Program}{S:Nat->Prop}{w w':World}{ρ ρ':Nat->Option Value}{h h':Nat->Ob}{a:Act}{n:Nat}{ty:TypeId}{kt et e:TypeId}{ms:List (List V×List V)}{id nid:Nat}
theorem we(hr:HRel S w ρ h)(ho:h id=.mps e kt et ms):∃v bs,ρ id=some (.tuple (v::mpV bs).toArray)∧w.ownsRow 0 e 1 v ms.length (mpV bs)∧bs.Nodup∧(∀b∈bs,v.ownBlock≠some b)∧LS S w bs ms:=by have :=hr.ob id;rw[ho]at this;exact this
theorem vu{k:MK}{z y:Value}(hx:Opd S w ρ a x<|.mm id k)(hz:ρ id=some z)(hy:mmV (some z) k=some y):aD (fA a) x=some y:=by obtain⟨u,h1,h2⟩:=hx;simp only[VRel]at h2;rw[hz,hy]at h2;rw[h1];exact h2.1.symm
theorem rW{xs:List Value}:mmV (some<|.tuple (v::xs).toArray) .row=some v:=by simp[mmV]
theorem Kt{g c:Nat}{xs:List Value}:mmV (some<|.tuple (Value.slice (some ⟨g,0,none⟩) m c::xs).toArray) (.ix i)=some (.pointer<|some ⟨g,i,none⟩):=by simp[mmV]
theorem Bj{b:Nat}(hb:bs[i]?=some b):mmV (some<|.tuple (v::mpV bs).toArray) (.mp i)=some (.map<|some b):=by simp[mmV,mpV,hb]
theorem p_idxM{E:TypeId}(hr:HRel S w ρ h)(ho:h id=.mps e kt et ms)(fr:Fr a n<|fA a)(ht:P.underlying t=some (.slice E))(hz:dr P E=some 1)(hx:Opd S w ρ a x<|.mm id .row)(hy:Opd S w ρ a y<|.int .i64 (i:Int))(hi:i<ms.length):
  Yld P S w ρ a ty (.indexAddr t x y) (.mm id<|.ix i):=by
 obtain⟨v,bs,h1,h2,_,_,G,_⟩:=we hr ho;obtain⟨g,cap,rfl,_⟩:=h2.form (by omega);exact⟨_,by simp only[VRel];exact⟨by rw[h1];exact Kt,rfl⟩,λw' _=>pT fr ht hz (vu hx h1 rW) (aW hy) rfl hi<|by simp⟩
theorem Gb(hr:HRel S w ρ h)(fr:Fr a n<|fA a)(hx:Opd S w ρ a x<|.mm id<|.ix i)(ho:h id=.mps e kt et ms)(ht:cM P t=true)(hi:i<ms.length):
  ∃E u b,VRel S w ρ (.mm id<|.mp i) E∧ρ id=some u∧sJ u=some b∧∀w',w'.heap[b]?=w.heap[b]?->Runs P a ty (.load t x) w' (.value E) w':=by
 obtain⟨v,bs,h1,h2,_,_,U,_⟩:=we hr ho;obtain⟨g,cap,rfl,_⟩:=h2.form (by omega);have hb:=List.getElem?_eq_getElem (l:=bs) (i:=i) (by omega);refine⟨.map<|some bs[i],_,g,by simp only[VRel];exact⟨by rw[h1];exact Bj hb,rfl⟩,h1,by simp[sJ],λw' G=>?_⟩;have J:w.cell? ⟨g,i,none⟩=some (.map<|some bs[i]):=by rw[fW h2<|by omega];simp[mpV,hb]
 exact ex_load fr (vu hx h1 Kt) ht (by rw[World.cell?_of_block (a:=⟨g,i,none⟩) G];exact J)
theorem e_loadM(hr:HRel S w ρ h)(fr:Fr a n<|fA a)(hx:Opd S w ρ a x<|.mm id<|.ix i)(ho:h id=.mps e kt et ms)(ht:cM P t=true)(hi:i<ms.length):Does P S w ρ h a ty (.load t x) (some<|.mm id<|.mp i) h (λ_=>False):=by obtain⟨E,u,b,h1,_,_,G⟩:=Gb (P:=P) (ty:=ty) hr fr hx ho ht hi;exact⟨_,w,ρ,G w I,Eff.refl hr,E,I,h1⟩
theorem LR(hr:HRel S w ρ h)(ho:h id=.mps e kt et ms)(E:ms[i]?=some (ks,vs)):∃v bs b es clock,ρ id=some (.tuple (v::mpV bs).toArray)∧bs[i]?=some b∧bs.Nodup∧bs.length=ms.length∧v.ownBlock≠some b∧mmV (ρ id) (.mp i)=some (.map<|some b)∧w.heap[b]?=some (.map es clock)∧LRel S w ρ0 ks (es.toList.map (·.key))∧LRel S w ρ0 vs (es.toList.map (·.val)):=by
 obtain⟨v,bs,h1,h2,G,J,U,Z⟩:=we hr ho;have hi:=(List.getElem?_eq_some_iff.1 E).1;have hb:=List.getElem?_eq_getElem (l:=bs) (i:=i) (by omega);obtain⟨es,ck,g1,g2,g3⟩:=Z i _ _ hb E;exact⟨v,bs,_,es,ck,h1,hb,G,U,J _<|List.mem_of_getElem? hb,by rw[h1];exact Bj hb,g1,g2,g3⟩
variable{α β:Type}[DecidableEq α]{enc:α->V}
def bA(enc:α->V)(encV:β->V)(l:List<|α×β):List V×List V:=(l.map λp=>enc p.1,l.map λp=>encV p.2)
omit [DecidableEq α]in
theorem xo{encV:β->V}{L:List<|List<|α×β}{l:List<|α×β}(h:L[i]?=some l):(L.map<|bA enc encV)[i]?=some (l.map λp=>enc p.1,l.map λp=>encV p.2):=by rw[List.getElem?_map,h];rfl
theorem Il(D:KeyT P kt α enc){encV:β->V}{k:α}{L:List<|List<|α×β}{l:List<|α×β}{c:Bool}{z:Value}(hr:HRel S w ρ h)(fr:Fr a n<|fA a)(hx:Opd S w ρ a x<|.mm id<|.mp i)(hy:Opd S w ρ a y<|enc k)(ho:h id=.mps e kt et (L.map<|bA enc encV))(hl:L[i]?=some l)(ht:P.underlying t=some (.map kt et))(hz:(zeroValue et).run P w=.ok z w)(G:VRel S w ρ zv z):
  Does P S w ρ h a ty (.lookup t x y c) (some<|za c (aC k l) encV zv) h (λ_=>False):=by
 obtain⟨q,k3,Z⟩:=hy;obtain⟨v0,bs,b,es,ck,h1,U,_,_,_,hmm,h2,h3,h4⟩:=LR hr ho<|xo hl;have k1:aD (fA a) x=some (.map<|some b):=vu hx h1<|Bj U;rw[D.rel]at Z;subst Z;have J:=sB D h3;have E:=D.fnd w k β l es.toList J;have key:∀v,(Instr.lookup t (.map<|some b) (D.val k) c).run P w=.ok v w->Runs P a ty (.lookup t x y c) w (.value v) w:=λv hv _ _ _ _=>by simp only[execOp,fr.eval k1,fr.eval k3];simp[hv]
 rcases ri D.val k l es.toList 0 J with⟨g1,g2,_⟩|⟨j,e,d,g1,g2,g3,g4,g5,_⟩
 ·rw[g1]at E;refine⟨_,w,ρ,key (if c then .tuple #[z,.bool false]else z) ?_,Eff.refl hr,_,I,?_⟩
  ·simp[Instr.lookup,run_underlying ht,MapKept.run_getObj_map h2,D.chk,E,hz,Result.andThen]
  ·rw[g2];cases c with
   |true=>simp only[za,if_true,VRel];exact⟨[z,.bool false],rfl,z,_,rfl,G,_,_,rfl,rfl,rfl⟩
   |false=>exact G
 ·rw[g1]at E;have hv:VRel S w ρ (encV d) e.val:=(At (f:=λp:α×β=>encV p.2) h4 (by rw[List.getElem?_map,g2];rfl) g4).up up0;refine⟨_,w,ρ,key (if c then .tuple #[e.val,.bool true]else e.val) ?_,Eff.refl hr,_,I,?_⟩
  ·simp[Instr.lookup,run_underlying ht,MapKept.run_getObj_map h2,D.chk,E,Result.andThen]
  ·rw[g5];cases c with
   |true=>simp only[za,if_true,VRel];exact⟨[e.val,.bool true],rfl,e.val,_,rfl,hv,_,_,rfl,rfl,rfl⟩
   |false=>exact hv
theorem HY{b:Nat}{v0:Value}{o:Obj}{es:Array MapEntry}{ck:Nat}{ks' vs':List V}(hr:HRel S w ρ h)(ho:h id=.mps e kt et ms)(h1:ρ id=some (.tuple (v0::mpV bs).toArray))(J:bs[i]?=some b)(hm:ms[i]?=some (ks,vs))
  (h3:LRel S {w with heap:=w.heap.setIfInBounds b<|.map es ck} ρ0 ks' (es.toList.map (·.key))) (h4:LRel S {w with heap:=w.heap.setIfInBounds b<|.map es ck} ρ0 vs' (es.toList.map (·.val))):
  Eff S w {w with heap:=w.heap.setIfInBounds b<|.map es ck} ρ ρ h (bi h id<|.mps e kt et<|ms.set i (ks',vs')) (·=id):=by
 obtain⟨v1,bs1,g1,g2,g3,g4,g5,g6⟩:=we hr ho;rw[h1]at g1;have e1:v0=v1∧bs=bs1:=by
  simp only[aaa,Value.tuple.injEq,Array.mk.injEq,List.cons.injEq,mpV]at g1;exact⟨g1.1,by
   have :=congrArg (List.map λx:Value=>match x with|.map (some b)=>b|_=>0) g1.2;simpa[Function.comp_def]using this⟩
 obtain⟨rfl,rfl⟩:=e1;have G:own ρ id (h id) b:=by rw[ho];exact⟨_,h1,.inr ⟨i,by simp[mpV,J]⟩⟩
 have hlt:=cY (hr.ob id) G;have hX:∀c,c∈[b]->own ρ id (h id) c:=λc U=>by simp only[List.mem_singleton]at U;subst U;exact G
 have U:Chg [b] w {w with heap:=w.heap.setIfInBounds b (.map es ck)}:=⟨rfl,rfl,rfl,by simp,λc U E=>by simp only[List.mem_singleton]at E;simp only[Array.getElem?_setIfInBounds];rw[if_neg (λe=>E e.symm)]⟩
 have hob:({w with heap:=w.heap.setIfInBounds b<|.map es ck}:World).heap[b]?=some (.map es ck):=by simp[Array.getElem?_setIfInBounds,hlt]
 have hne:∀c,c<w.heap.size->c≠b->({w with heap:=w.heap.setIfInBounds b<|.map es ck}:World).heap[c]?=w.heap[c]?:=λc hcl E=>U.block c hcl (by simpa using E);have up:Up S S w {w with heap:=w.heap.setIfInBounds b<|.map es ck} ρ0 ρ0:=⟨λ_ h=>h,λc Z hcl=>U.block c hcl (λE=>by simp only[List.mem_singleton]at E;subst E;exact hr.sep id c G Z),λ_ _ h=>h⟩;refine qx hr U hX ⟨v0,bs,h1,?_,g3,g4,by rw[aay];exact g5,λj b' m' hj hm'=>?_⟩ (λc U=>by rw[ho];exact U)
 ·rw[aay];exact cf g2 λc Z=>hne c (g2.lt c Z).2 (λe=>g4 b (List.mem_of_getElem? J)<|by rw[Z,e])
 ·by_cases hij:i=j
  ·subst hij;rw[J]at hj;cases hj;have hil:=(List.getElem?_eq_some_iff.1 hm).1;rw[List.getElem?_set_self hil]at hm';cases hm';exact⟨es,ck,hob,h3,h4⟩
  ·rw[List.getElem?_set_ne hij]at hm';obtain⟨es',ck',q1,q2,q3⟩:=g6 j b' m' hj hm';have hbb:b'≠b:=λe=>by
    subst e;have hj1:=(List.getElem?_eq_some_iff.1 J);have hj2:=(List.getElem?_eq_some_iff.1 hj);have he:bs[i]'hj1.1=bs[j]'hj2.1:=hj1.2.trans hj2.2.symm;rcases Nat.lt_trichotomy i j with q|q|q
    ·exact List.pairwise_iff_getElem.1 g3 i j hj1.1 hj2.1 q he
    ·exact hij q
    ·exact List.pairwise_iff_getElem.1 g3 j i hj2.1 hj1.1 q he.symm
   have hbl:b'<w.heap.size:=by
    rcases Nat.lt_or_ge b' w.heap.size with h5|h5
    ·exact h5
    ·rw[Array.getElem?_eq_none h5]at q1;cases q1
   exact⟨es',ck',(hne b' hbl hbb).trans q1,LRel.up up q2,LRel.up up q3⟩
theorem RS(D:KeyT P kt α enc){encV:β->V}{z:Operand}{k:α}{d:β}{L:List<|List<|α×β}{l:List<|α×β}(hr:HRel S w ρ h)(fr:Fr a n<|fA a)(hx:Opd S w ρ a x<|.mm id<|.mp i)(hy:Opd S w ρ a y<|enc k)(hz:Opd S w ρ a z<|encV d)(hp:(encV d).pure=true)(ho:h id=.mps e kt et (L.map<|bA enc encV))(hl:L[i]?=some l)(ht:P.underlying t=some (.map kt et)):
  Does P S w ρ h a ty (.mapUpdate t x y z) none (bi h id<|.mps e kt et<|(L.set i<|aR k d l).map<|bA enc encV) (·=id):=by
 obtain⟨q,k3,k4⟩:=hy;obtain⟨v,k5,k6⟩:=hz;obtain⟨v0,bs,b,es,ck,h1,G,_,_,_,hmm,h2,h3,h4⟩:=LR hr ho<|xo hl;have k1:aD (fA a) x=some (.map<|some b):=vu hx h1<|Bj G;rw[D.rel]at k4;subst k4;have hks:=sB D h3;have J:=D.fnd w k β l es.toList hks;have U:own ρ id (h id) b:=by rw[ho];exact⟨_,h1,.inr ⟨i,by simp[mpV,G]⟩⟩
 have hlt:=cY (hr.ob id) U;have key:∀w',(Instr.mapUpdate t (.map<|some b) (D.val k) v).run P w=.ok () w'->Runs P a ty (.mapUpdate t x y z) w .skip w':=λw' hv _ _ _ _=>by simp only[execOp,fr.eval k1,fr.eval k3,fr.eval k5];simp[hv]
 have hc:∀o,Chg [b] w {w with heap:=w.heap.setIfInBounds b o}:=λo=>⟨rfl,rfl,rfl,by simp,λc hc E=>by simp only[List.mem_singleton]at E;simp only[Array.getElem?_setIfInBounds];rw[if_neg (λe=>E e.symm)]⟩
 have up:∀o,Up S S w {w with heap:=w.heap.setIfInBounds b o} ρ0 ρ0:=λo=>⟨λ_ h=>h,λc hc' hcl=>(hc o).block c hcl (λE=>by simp only[List.mem_singleton]at E;subst E;exact hr.sep id c U hc'),λ_ _ h=>h⟩;have hv0:VRel S w ρ0 (encV d) v:=k6.pure hp;have hset:(L.set i<|aR k d l).map (bA enc encV)=(L.map<|bA enc encV).set i ((aR k d l).map λp=>enc p.1,(aR k d l).map λp=>encV p.2):=by rw[List.map_set];rfl
 rw[hset];rcases ri D.val k l es.toList 0 hks with⟨g1,_,g3⟩|⟨j,Z,d',g1,g2,g3,g4,_,g6⟩
 ·rw[g1]at J;refine⟨_,_,ρ,key {w with heap:=w.heap.setIfInBounds b<|.map (es.push ⟨D.val k,v,ck⟩)<|ck+1} ?_,HY (o:=.map es ck) hr ho h1 G (xo hl) ?_ ?_,I⟩
  ·simp[Instr.mapUpdate,run_underlying ht,MapKept.run_getObj_map h2,D.chk,J,MapKept.run_setObj_map _ h2,Result.andThen]
  ·rw[g3];simp only[aaq,aah,aau,Array.toList_push];exact(LRel.up (up _) h3).append ⟨_,_,I,(D.rel _ _ _ _ _).2 I,I⟩
  ·rw[g3];simp only[aaq,aah,aau,Array.toList_push];exact(LRel.up (up _) h4).append ⟨_,_,I,VRel.up (up _) hv0,I⟩
 ·rw[g1,Nat.zero_add]at J;have hj:es[j]?=some Z:=by simpa using g2
  have hlist:(es.modify j (λZ=>{Z with key:=D.val k,val:=v})).toList=es.toList.set j {Z with key:=D.val k,val:=v}:=by rw[Array.toList_modify,ChangeMaps.modify_eq_set _ _ _ _ g2]
  refine⟨_,_,ρ,key {w with heap:=w.heap.setIfInBounds b (.map (es.modify j (λZ=>{Z with key:=D.val k,val:=v})) ck)} ?_,HY (o:=.map es ck) hr ho h1 G (xo hl) ?_ ?_,I⟩
  ·simp[Instr.mapUpdate,run_underlying ht,MapKept.run_getObj_map h2,D.chk,J,hj,g3,D.stay,MapKept.run_setObj_map _ h2,Result.andThen]
  ·rw[g6,hlist];simp only[List.map_set];exact(LRel.up (up _) h3).set<|(D.rel _ _ _ _ _).2 I
  ·rw[g6,hlist];simp only[List.map_set];exact(LRel.up (up _) h4).set<|VRel.up (up _) hv0
end
section
variable{P:Program}{S:Nat->Prop}{w w':World}{ρ ρ':Nat->Option Value}{h h':Nat->Ob}{a:Act}{n:Nat}{ty:TypeId}{kt et e:TypeId}{ms:List (List V×List V)}{id nid:Nat}
theorem wh{ρ:Nat->Option Value}{b:Nat}(hρ:ρ id=some (.tuple (v::mpV bs).toArray)):own ρ id (.mps e kt et ms) b↔v.ownBlock=some b∨b∈bs:=by
 simp only[own];constructor
 ·rintro⟨xs,h1,h2⟩;rw[hρ]at h1;simp only[aaa,Value.tuple.injEq]at h1;subst h1;rcases h2 with⟨u,E,G⟩|⟨i,E⟩
  ·simp only[List.getElem?_toArray,List.getElem?_cons_zero,aaa]at E;subst E;exact .inl G
  ·simp only[List.getElem?_toArray,List.getElem?_cons_succ,mpV,List.getElem?_map,Option.map_eq_some_iff,Value.map.injEq,aaa]at E;obtain⟨c,J,rfl⟩:=E;exact .inr<|List.mem_of_getElem? J
 ·rintro(h1|h1)
  ·exact⟨_,hρ,.inl ⟨v,by simp,h1⟩⟩
  ·obtain⟨i,hi,rfl⟩:=aaC h1;exact⟨_,hρ,.inr ⟨i,by simp[mpV,hi]⟩⟩
theorem e_bsM{mid:Nat}{z:List Value}(hr:HRel S w ρ h)(fr:Fr a n<|fA a)(hf:h nid=.free)(hx:Opd S w ρ a x<|.sl mid)(ho:h mid=.mp kt et ks vs)(ht:P.underlying t=some (.slice e))(hz:dr P e=some 1)(hzero:lY P e=some z):
  Does P S w ρ h a ty (.buildSlice t 1 #[(0,x)]) (some<|.mm nid .row) (bi (bi h mid .gone) nid<|.mps e kt et [(ks,vs)]) (·=mid):=by
 obtain⟨u,k1,Z⟩:=hx;simp only[VRel]at Z;obtain⟨b,es,ck,h1,h2,h3,h4⟩:=Bh hr ho;rw[Z.1]at h1;cases h1;have G:own ρ mid (h mid) b:=by rw[ho];exact Z.1
 have hlt:=cY (hr.ob mid) G;obtain⟨w',g,g1,g2,g3,g4,g5⟩:=ra (P:=P) (t:=t) (m:=1) (ps:=[(0,x)]) (vs:=[(0,.map<|some b)]) (sz:=1) fr (by simp[eb,k1]) ht hz hzero (by rfl) (by rfl) (by rfl) rfl w ty;have E:∀c,c<w.heap.size->w'.heap[c]?=w.heap[c]?:=λc E=>g3.block c E nm0;have up:Up S S w w' ρ0 ρ0:=⟨λ_ h=>h,λc _ hcl=>E c hcl,λ_ _ h=>h⟩;have hρ':cj ρ nid (.tuple (Value.slice (some ⟨g,0,none⟩) 1 1::mpV [b]).toArray) nid=some (.tuple (Value.slice (some ⟨g,0,none⟩) 1 1::mpV [b]).toArray):=aV _ _ _;refine⟨_,w',cj ρ nid<|.tuple (Value.slice (some ⟨g,0,none⟩) 1 1::mpV [b]).toArray,g1,AC (X:=[]) hr hf (by rw[ho];simp) g3 (by simp) ⟨_,[b],hρ',wF (base:=0) g2 (aat _) (m:=1) (size:=1) rfl (by decide),by simp,λc E=>?_,rfl,λi c m hi J=>?_⟩ λc E=>?_,_,rfl,?_⟩
 ·simp only[List.mem_singleton]at E;subst E;simp only[Value.ownBlock,ne_eq,aaa];omega
 ·match i,hi,J with
  |0,hi,J=>
   simp only[List.getElem?_cons_zero,aaa]at hi J;subst hi J;exact⟨es,ck,(E _ hlt).trans h2,LRel.up up h3,LRel.up up h4⟩
  |i+1,hi,J=>simp at hi
 ·rcases(wh hρ').1 E with U|U
  ·simp only[Value.ownBlock,aaa]at U;exact .inr (by omega)
  ·simp only[List.mem_singleton]at U;subst U;exact .inl G
 ·simp only[VRel];exact⟨by rw[hρ'];exact rW,I⟩
theorem Am{ρ:Nat->Option Value}:∀{xs:List Value},(∀x∈xs,x.oneCell'=true)->CRel S w ρ 1 (xs.map V.raw) xs
 |[],_=>by simp[CRel]
 |x::r,hx=>by
  have h1:=hx x (by simp);simp only[aah,CRel,VRel];refine⟨x,r,by rw[oB h1];rfl,⟨by rw[oB h1];rfl,by rw[oB h1];simp[h1]⟩,⟨rfl,h1⟩,Am λy hy=>hx y<|by simp[hy]⟩
theorem Bx{ρ:Nat->Option Value}:∀{xs ys:List Value},CRel S w ρ 1 (xs.map V.raw) ys->ys=xs
 |[],ys,h=>by simpa[CRel]using h
 |x::r,ys,h=>by simp only[aah,CRel,VRel]at h;obtain⟨y,zs,rfl,_,⟨rfl,h1⟩,h2⟩:=h;rw[Bx h2,oB h1];rfl
theorem Hd(bs:YN):∀x∈mpV bs,x.oneCell'=true:=λx hx=>by simp only[mpV,List.mem_map]at hx;obtain⟨_,_,rfl⟩:=hx;rfl
theorem vK(bs:YN):(mpV bs).length=bs.length:=by simp[mpV]
theorem PR{y:Value}(h2:w.ownsRow 0 e 1 v m<|mpV bs)(G:bs.length=m):rm S w ρ 1 ((mpV bs).map V.raw) v:=by
 obtain⟨A,c,rfl,_⟩:=bY h2;refine⟨A,c,mpV bs,by simp[vK,G],Am<|Hd bs,λhn=>?_⟩;simp only[aam,vK]at hn;obtain⟨g,cap,hv,_⟩:=h2.form (by omega);injection hv with E _ J
 subst E;exact⟨g,0,rfl,λj U=>by rw[Nat.zero_add];simp only[aam,vK]at U;exact fW h2<|by omega⟩
theorem SC{t:TypeId}{E by_:Nat}{z:Value}{U:List<|List V×List V}(hr:HRel S w ρ h)(fr:Fr a n<|fA a)(hf:h nid=.free)(hx:Opd S w ρ a x<|.mm id .row)(hy:Opd S w ρ a y<|.mm E .row)(ho:h id=.mps e kt et ms)(ho2:h E=.mps e kt et U)(hne:id≠E)
  (ht:P.underlying t=some (.slice e)) (hi:(P.info? e).map (λi=>(i.zero,i.size,i.bytes))=some (some z,1,by_)) (hzs:z.cells.size=1) (h63:ms.length+U.length<=maxLen) (hby:(ms.length+U.length)*by_<=140737488355328):
  Does P S w ρ h a ty (.call {callee:=.builtin .append,args:=#[x,y],argTypes:=#[t,t]}) (some<|.mm nid .row) (bi (bi (bi h id .gone) E .gone) nid<|.mps e kt et<|ms++U) (λi=>i=id∨i=E):=by
 obtain⟨v1,G,a1,a2,a3,a4,a5,a6⟩:=we hr ho;obtain⟨v2,J,b1,b2,b3,b4,b5,b6⟩:=we hr ho2;have k1:=vu hx a1 rW;have k2:=vu hy b1 rW;have l1:((mpV G).map V.raw).length=ms.length:=by simp[vK,a5]
 have l2:((mpV J).map V.raw).length=U.length:=by simp[vK,b5]
 obtain⟨v',w',ys,c1,c2,c3,c4,Z⟩:=rN (P:=P) (ty:=ty) (S:=S) (ρ:=ρ) (els:=(mpV G).map V.raw) (news:=(mpV J).map V.raw) fr k1 k2 (by rw[l1];exact a2) (Am<|Hd G) (PR (y:=v2) b2 b5) ht hi hzs (Nat.one_pos) (by rw[l1,l2];exact h63) (by rw[l1,l2];exact hby);rw[l1,l2]at c2;rw[<-aaq]at c3;have hy':=Bx c3;have hmp:mpV G++mpV J=mpV (G++J):=by simp[mpV]
 rw[hmp]at hy';subst hy';have o1:∀b,own ρ id (h id) b↔v1.ownBlock=some b∨b∈G:=λb=>by rw[ho];exact wh a1
 have o2:∀b,own ρ E (h E) b↔v2.ownBlock=some b∨b∈J:=λb=>by rw[ho2];exact wh b1
 have hn:ρ nid=none:=by have :=hr.ob nid;rw[hf]at this;exact this
 have hnid:id≠nid:=λe=>by subst e;rw[hf]at ho;cases ho
 have hnid2:E≠nid:=λe=>by subst e;rw[hf]at ho2;cases ho2
 have lt1:∀b∈G,b<w.heap.size:=λb hb=>cY (hr.ob id)<|(o1 b).2 (.inr hb);have lt2:∀b∈J,b<w.heap.size:=λb hb=>cY (hr.ob E)<|(o2 b).2 (.inr hb);have dj:∀b,own ρ id (h id) b->own ρ E (h E) b->False:=λb q1 q2=>hne<|hr.dis id E b q1 q2;have kp1:∀b∈G,w'.heap[b]?=w.heap[b]?:=λb hb=>c4.block b (lt1 b hb) (λhc=>a4 b hb<|by simpa using hc);have kp2:∀b∈J,w'.heap[b]?=w.heap[b]?:=λb hb=>c4.block b (lt2 b hb) (λhc=>dj b ((o1 b).2 (.inl<|by simpa using hc))<|(o2 b).2 (.inr hb));have hX:∀b,b∈v1.ownBlock.toList->own ρ id (h id) b:=λb hb=>(o1 b).2 (.inl<|by simpa using hb);have up:Up S S w w' ρ0 ρ0:=⟨λ_ h=>h,λb hb hlt=>c4.block b hlt λhc=>hr.sep id b (hX b hc) hb,λ_ _ h=>h⟩;have hv':∀b∈G++J,v'.ownBlock≠some b:=λb hb e=>by
  rcases Z with Z|Z
  ·rw[Z]at e;rcases List.mem_append.1 hb with hb|hb
   ·exact a4 b hb e
   ·exact dj b ((o1 b).2 (.inl e))<|(o2 b).2 (.inr hb)
  ·rw[Z]at e;simp only[aaa]at e;rcases List.mem_append.1 hb with hb|hb
   ·have :=lt1 b hb;omega
   ·have :=lt2 b hb;omega
 have hρ':cj ρ nid (.tuple (v'::mpV (G++J)).toArray) nid=some (.tuple (v'::mpV (G++J)).toArray):=aV _ _ _;refine⟨_,w',cj ρ nid<|.tuple (v'::mpV (G++J)).toArray,c1,PC (X:=(·∈v1.ownBlock.toList)) nid (λs=>s=id∨s=E) hr (ChgP.of c4) (λi q hq=>?_) (λb hb=>⟨id,.inl I,hX b hb⟩) ?_ (λb hb=>?_) (λs hs hsn=>?_) λi hin=>?_,_,I,?_⟩
 ·have :i≠nid:=λe=>by subst e;rw[hn]at hq;cases hq
  rw[lU _ _ this];exact hq
 ·rw[aP];refine⟨v',G++J,hρ',by rw[aac];exact c2,?_,hv',by simp[a5,b5],λi b m hb hm=>?_⟩
  ·exact List.nodup_append.2 ⟨a3,b3,λb hb c hc e=>by subst e;exact dj b ((o1 b).2 (.inr hb))<|(o2 b).2 (.inr hc)⟩
  ·by_cases hil:i<G.length
   ·rw[List.getElem?_append_left hil]at hb;rw[List.getElem?_append_left<|by omega]at hm;obtain⟨es,ck,q1,q2,q3⟩:=a6 i b m hb hm;exact⟨es,ck,(kp1 b<|List.mem_of_getElem? hb).trans q1,LRel.up up q2,LRel.up up q3⟩
   ·rw[List.getElem?_append_right<|by omega]at hb;rw[List.getElem?_append_right (by omega),<-a5]at hm;obtain⟨es,ck,q1,q2,q3⟩:=b6 _ b m hb hm;exact⟨es,ck,(kp2 b<|List.mem_of_getElem? hb).trans q1,LRel.up up q2,LRel.up up q3⟩
 ·rw[aP]at hb;rcases(wh hρ').1 hb with q|q
  ·rcases Z with Z|Z
   ·exact .inr ⟨id,.inl I,(o1 b).2 (.inl (by rw[<-Z];exact q))⟩
   ·rw[Z]at q;simp only[aaa]at q;exact .inl (by omega)
  ·rcases List.mem_append.1 q with q|q
   ·exact .inr ⟨id,.inl I,(o1 b).2 (.inr q)⟩
   ·exact .inr ⟨E,.inr I,(o2 b).2 (.inr q)⟩
 ·rw[aY _ _ hsn];rcases hs with rfl|rfl
  ·rw[aY _ _ hne,aP]
  ·rw[aP]
 ·rw[aY _ _ hin];by_cases h1:i=E
  ·subst h1;rw[aP];exact .inl rfl
  ·rw[aY _ _ h1];by_cases h2:i=id
   ·subst h2;rw[aP];exact .inl rfl
   ·rw[aY _ _ h2];refine .inr ⟨I,λhfi=>?_,λb hob hx=>h2<|hr.dis i id b hob<|hX b hx⟩;rw[lU _ _ hin];have :=hr.ob i;rw[hfi]at this;exact this
 ·simp only[VRel];exact⟨by rw[hρ'];exact rW,rU c2⟩
theorem Ni(e kt et:TypeId)(hr:HRel S w ρ h)(hf:h nid=.free):Eff S w w ρ (cj ρ nid<|.tuple (Value.slice none 0 0::mpV []).toArray) h (bi h nid<|.mps e kt et []) (λ_=>False):=
 eff_new hr hf (Chg.refl _ _) ⟨_,[],aV _ _ _,⟨by simp[mpV],.inl ⟨rfl,rfl⟩⟩,by simp,by simp,rfl,λi b m hb=>by simp at hb⟩ (λb hb=>by
  rcases(wh (aV _ _ _)).1 hb with q|q
  ·cases q
  ·cases q)
end
section
variable{P:Program}{T:Tab}{K:Ctx}{Q:Exit->Act->World->Prop}{p:EP}{s:List EI}{n:Nat}{F F1:Fm}{H H1:Hp}{kt et e:TypeId}{ms:List (List V×List V)}{α β:Type}[DecidableEq α]{enc:α->V}
theorem TF{cs:List V}(id o:Nat)(e kt et:TypeId)(hp:p.still=true)(ho:H.get id=.var t cs)(hc:cs[o]?=some .nils)(h2:(H.ap (.new<|.mps e kt et []) λH1=>H1.ap (.set id<|.var t<|cs.set o<|.mm H.nx .row) _root_.id)=H1)(k:Go P K Q p s n F H1):Go P K Q p s n F H:=by
 rw[Hp.ap_eq,Hp.ap_eq]at h2;subst h2;intro S w ρ a hr hi hF;have Z:=Ni e kt et hr H.get_free;obtain⟨R,hR⟩:∃R,R=Value.tuple (Value.slice none 0 0::mpV []).toArray:=⟨_,rfl⟩;rw[<-hR]at Z;have hg:(H.app<|.new<|.mps e kt et []).get=bi H.get H.nx (.mps e kt et []):=Hp.get_app trivial;have hne:id≠H.nx:=λe1=>by subst e1;rw[H.get_free]at ho;cases ho
 have E:(H.app<|.new<|.mps e kt et []).get id=.var t cs:=by rw[hg,aY _ _ hne,ho]
 have J:((H.app<|.new<|.mps e kt et []).app<|.set id<|.var t<|cs.set o<|.mm H.nx .row).get=bi (H.app<|.new<|.mps e kt et []).get id (.var t<|cs.set o<|.mm H.nx .row):=Hp.get_app (by exact⟨by rw[E];simp,by rw[E];simp⟩);have h1:HRel S w (cj ρ H.nx R) (H.app<|.new<|.mps e kt et []).get:=by rw[hg];exact Z.hr
 have h2:Inv K S w (cj ρ H.nx R) (H.app<|.new<|.mps e kt et []).get:=by rw[hg];exact hi.eff Z
 have G:∀i b,own (cj ρ H.nx R) i (bi (H.app<|.new<|.mps e kt et []).get id (.var t<|cs.set o<|.mm H.nx .row) i) b↔own (cj ρ H.nx R) i ((H.app<|.new<|.mps e kt et []).get i) b:=λi b=>by
  by_cases hi:i=id
  ·subst hi;rw[aP,E];rfl
  ·rw[aY _ _ hi]
 have :=k S w (cj ρ H.nx R) a (by
  rw[id_eq,J];refine⟨λi=>?_,λi b hb=>h1.sep i b<|(G i b).1 hb,λi j b q1 q2=>h1.dis i j b ((G i b).1 q1)<|(G j b).1 q2,h1.slt⟩;by_cases U:i=id
  ·subst U;rw[aP];obtain⟨b,xs,q1,q2,q3⟩:=qP h1 E;obtain⟨x,q4,q5⟩:=q3.get hc;simp only[VRel]at q5;subst q5;refine⟨b,xs,q1,q2,?_⟩;have :=q3.set (i:=o) (v:=.mm H.nx .row) (x:=.slice none 0 0) (by simp only[VRel];exact⟨by rw[aV,hR];exact rW,rfl⟩);have e2:xs.set o (.slice none 0 0)=xs:=by
    obtain⟨hl,q6⟩:=List.getElem?_eq_some_iff.1 q4;rw[<-q6];exact List.set_getElem_self ..
   rw[e2]at this;exact this
  ·rw[aY _ _ U];exact h1.ob i) (by
  rw[id_eq,J];exact⟨h2.chg,h2.s0,h2.s1,λi b hb=>h2.ow i b ((G i b).1 hb),h2.pin⟩) (hF.up Z.up)
 cases p with
 |drw all L m left listed=>cases hp
 |code c=>exact this
 |ops all rest=>exact this
 |ex e=>exact this
theorem IM{E:TypeId}{id:Nat}(ht:P.underlying t=some (.slice E))(hz:dr P E=some 1)(hx:aG F x=some (.mm id .row))(hy:aG F y=some (.int .i64 (i:Int)))(ho:H.get id=.mps e kt et ms)(hi:i<ms.length):∀S w ρ a,HRel S w ρ H.get->FRel S w ρ a n F->Yld P S w ρ a ty (.indexAddr t x y) (.mm id<|.ix i):=λS w ρ a hr hF=>
 p_idxM hr ho hF.fr ht hz (al hF hx) (al hF hy) hi
theorem Tl{id:Nat}(ht:cM P t=true)(hx:aG F x=some (.mm id<|.ix i))(ho:H.get id=.mps e kt et ms)(hi:i<ms.length):∀S w ρ a,HRel S w ρ H.get->FRel S w ρ a n F->Does P S w ρ H.get a ty (.load t x) (some<|.mm id<|.mp i) (ED.nop.app H.get H.nx) ED.nop.tch:=λS w ρ a hr hF=>
 e_loadM hr hF.fr (al hF hx) ho ht hi
theorem Sp(D:KeyT P kt α enc){encV:β->V}{ty:TypeId}{id:Nat}{k:α}{L:List<|List<|α×β}{l:List<|α×β}{c:Bool}{v:V}{z:Value}(hq:aC k l=none)(ht:P.underlying t=some (.map kt et))(hz:∀w,(zeroValue et).run P w=.ok z w)(E:zEq z zv=true)(hx:aG F x=some (.mm id<|.mp i))(hy:aG F y=some (enc k))(ho:H.get id=.mps e kt et (L.map<|bA enc encV))(hl:L[i]?=some l)(hv:(match c with|true=>V.tup [zv,.bool false]|false=>zv)=v):
  ∀S w ρ a,HRel S w ρ H.get->FRel S w ρ a n F->Does P S w ρ H.get a ty (.lookup t x y c) (some v) (ED.nop.app H.get H.nx) ED.nop.tch:=λS w ρ a hr hF=>by
 have :=Il (ty:=ty) (c:=c) (zv:=zv) D hr hF.fr (al hF hx) (al hF hy) ho hl ht (hz w)<|yb E;rw[hq]at this;subst hv;exact this
theorem SK(D:KeyT P kt α enc){encV:β->V}{ty:TypeId}{id:Nat}{k:α}{L:List<|List<|α×β}{l:List<|α×β}{c:Bool}{v:V}{z:Value}{d:β}(hq:aC k l=some d)(ht:P.underlying t=some (.map kt et))(hz:∀w,(zeroValue et).run P w=.ok z w)(E:zEq z zv=true)(hx:aG F x=some (.mm id<|.mp i))(hy:aG F y=some (enc k))(ho:H.get id=.mps e kt et (L.map<|bA enc encV))(hl:L[i]?=some l)(hv:(match c with|true=>V.tup [encV d,.bool true]|false=>encV d)=v):
  ∀S w ρ a,HRel S w ρ H.get->FRel S w ρ a n F->Does P S w ρ H.get a ty (.lookup t x y c) (some v) (ED.nop.app H.get H.nx) ED.nop.tch:=λS w ρ a hr hF=>by
 have :=Il (ty:=ty) (c:=c) (zv:=zv) D hr hF.fr (al hF hx) (al hF hy) ho hl ht (hz w)<|yb E;rw[hq]at this;subst hv;exact this
theorem JR(D:KeyT P kt α enc){encV:β->V}{ty:TypeId}{z:Operand}{id:Nat}{k:α}{d:β}{L:List<|List<|α×β}{l:List<|α×β}{v:V}{ms':List<|List V×List V}(ht:P.underlying t=some (.map kt et))(hx:aG F x=some (.mm id<|.mp i))(hy:aG F y=some (enc k))(hz:aG F z=some v)(hv:v=encV d)(hp:v.pure=true)(ho:H.get id=.mps e kt et (L.map<|bA enc encV))(hl:L[i]?=some l)(E:(L.set i<|aR k d l).map (bA enc encV)=ms'):
  ∀S w ρ a,HRel S w ρ H.get->FRel S w ρ a n F->Does P S w ρ H.get a ty (.mapUpdate t x y z) none ((ED.set id<|.mps e kt et ms').app H.get H.nx) (ED.set id<|.mps e kt et ms').tch:=λS w ρ a hr hF=>by
 subst hv E;exact RS D hr hF.fr (al hF hx) (al hF hy) (al hF hz) hp ho hl ht
theorem Td{ty:TypeId}{mid:Nat}{z:List Value}(ht:P.underlying t=some (.slice e))(hz:dr P e=some 1)(hzero:lY P e=some z)(hx:aG F x=some (.sl mid))(ho:H.get mid=.mp kt et ks vs):
  ∀S w ρ a,HRel S w ρ H.get->FRel S w ρ a n F->Does P S w ρ H.get a ty (.buildSlice t 1 #[(0,x)]) (some<|.mm H.nx .row) ((ED.repl mid<|.mps e kt et [(ks,vs)]).app H.get H.nx) (ED.repl mid<|.mps e kt et [(ks,vs)]).tch:=λS w ρ a hr hF=>
 e_bsM hr hF.fr H.get_free (al hF hx) ho ht hz hzero
theorem Ti{ty:TypeId}{id E by_:Nat}{z:Value}{G ms':List<|List V×List V}(U:id≠E)(ht:P.underlying t=some (.slice e))(hi:(P.info? e).map (λi=>(i.zero,i.size,i.bytes))=some (some z,1,by_))(hzs:z.cells.size=1)(Z:Nat.ble by_ 100000=true)(hx:aG F x=some (.mm id .row))(hy:aG F y=some (.mm E .row))(ho:H.get id=.mps e kt et ms)(ho2:H.get E=.mps e kt et G)(hm:ms++G=ms')(hb:ms'.length<=1000000000):
  ∀S w ρ a,HRel S w ρ H.get->FRel S w ρ a n F->Does P S w ρ H.get a ty (.call {callee:=.builtin .append,args:=#[x,y],argTypes:=#[t,t]}) (some<|.mm H.nx .row) ((ED.repl2 id E<|.mps e kt et ms').app H.get H.nx) (ED.repl2 id E<|.mps e kt et ms').tch:=λS w ρ a hr hF=>by
 subst hm;rw[aac]at hb;have J:by_<=100000:=Nat.le_of_ble_eq_true Z;have hmul:=Nat.mul_le_mul hb J;exact SC hr hF.fr H.get_free (al hF hx) (al hF hy) ho ho2 U ht hi hzs (by simp only[maxLen];omega) (by omega)
theorem Np{id:Nat}(ho:H.get id=.mps e kt et ms):(ED.set id o').ok H.get:=by exact⟨by rw[ho];simp,by rw[ho];simp⟩
theorem TC{id:Nat}(ho:H.get id=.mp kt et ks vs):(ED.repl id o').ok H.get:=by exact⟨by rw[ho];simp,by rw[ho];simp⟩
theorem Th{J:List<|List V×List V}{id E:Nat}(ho:H.get id=.mps e kt et ms)(G:H.get E=.mps e kt et J):(ED.repl2 id E o').ok H.get:=by exact⟨⟨by rw[ho];simp,by rw[ho];simp⟩,by rw[G];simp,by rw[G];simp⟩
theorem QJ(id:Nat)(ms':List<|List V×List V)(ho:H.get id=.mps e kt et ms)(h1:ms=ms')(E:H.ap (.set id<|.mps e kt et ms') _root_.id=H1)(k:Go P K Q p s n F H1):Go P K Q p s n F H:=by
 subst h1;rw[Hp.ap_eq]at E;subst E;have G:(H.app<|.set id<|.mps e kt et ms).get=H.get:=by
  rw[Hp.get_app<|by exact⟨by rw[ho];simp,by rw[ho];simp⟩];exact Ae ho
 intro S w ρ a hr hi hF;exact k S w ρ a (by rw[id_eq,G];exact hr) (by rw[id_eq,G];exact hi) hF
end
section
variable{P:Program}{T:Tab}{K:Ctx}{Q:Exit->Act->World->Prop}{s:List EI}{n:Nat}{F F1:Fm}{H:Hp}{all:Array Oper}{L:YN}{m fuel:Nat}{listed:Array Bool}{kt et e:TypeId}{ms:List (List V×List V)}
theorem MP{id j:Nat}{d:Option Tmp}{ps:String}{af:Array Edge}{g:Option<|Nat×Bool}(i:Nat)(hi:all[i]?=some ⟨d,.load t x,ty,ps,af,g⟩)
  (G:(!Nat.beq i m&&zf .any all m i&&!(listed.getD m false)&&Region.free .any all listed i&&(Region.ready .any all listed).contains i&&L.contains id&&Region.noSelect all)=true) (J:bd F all g=some true) (ht:cM P t=true) (hx:aG F x=some (.mm id<|.ix j)) (ho:H.get id=.mps e kt et ms) (U:j<ms.length)
  (h1:F.puto d (some<|.mm id<|.mp j) _root_.id=F1) (k:Go P K Q (.drw all L m fuel<|listed.setIfInBounds i true) s n F1 H):Go P K Q (.drw all L m (fuel+1) listed) s n F H:=by
 rw[Fm.puto_eq]at h1;subst h1;simp only[aab,Bool.not_eq_true']at G;obtain⟨⟨⟨⟨⟨⟨Z,c2⟩,c3⟩,c4⟩,c5⟩,c6⟩,c7⟩:=G;intro S w ρ a hr E hF hs;obtain⟨x',u,b,h1,h2,h3,h4⟩:=Gb (P:=P) (ty:=ty) hr hF.fr (al hF hx) ho ht U;refine FT (Nat.ne_of_beq_eq_false Z) c2 hi (Region.noSelect_spec c7) (λ_ _ _ h=>h.elim) fuel listed a w (Region.free_spec hi c4) (by simpa using c5) (.inl ⟨cg hF J,λw' hA=>?_⟩) Agree.refl oJ c3<|k S w ρ _ hr E (cI hF d h1) hs;have hb:=hA.2 id (by simpa using c6) u b h2 h3;exact h4 w' hb _ _ _ _
end
variable{d:Nat}
variable{a:Int}
variable{b:Bool}
section
variable{P:Program}
def EqV(P:Program)(d:Nat)(t:TypeId)(x y:Value)(r:Bool):Prop:=∀w,(Op.equalIn d t x y).run P w=.ok r w
def Gd(P:Program)(d:Nat)(xs ys:Array Value):List Field->List Bool->Prop
 |[],rs=>rs=[]
 |f::fs,rs=>∃r q,rs=r::q∧f.name≠ "_" ∧(∃a b,(∀w,(part f.type xs f.offset).run P w=.ok a w)∧(∀w,(part f.type ys f.offset).run P w=.ok b w)∧EqV P d f.type a b r)∧Gd P d xs ys fs q
theorem Hh{d:Nat}{xs ys:Array Value}:∀{fs:List Field} {rs:List Bool},Gd P d xs ys fs rs->∀w,(Op.eqFields d xs ys fs).run P w=.ok (rs.all id) w
 |[],rs,h,w=>by simp only[Gd]at h;subst h;simp[Op.eqFields]
 |f::fs,rs,h,w=>by simp only[Gd]at h;obtain⟨r,q,rfl,hn,⟨a,b,h1,h2,E⟩,G⟩:=h;have ih:=Hh G w;cases r<;>simp[Op.eqFields,hn,h1,h2,E w,ih,Result.andThen]
theorem KU{fs:Array Field}{xs ys:Array Value}{rs:List Bool}(ht:P.underlying t=some (.struct fs))(hs:P.stoodInHeld t=false)(h:Gd P d xs ys fs.toList rs):EqV P (d+1) t (.agg xs) (.agg ys) (rs.all id):=λw=>by
 have hf:P.fieldsOf t=fs:=by simp[Program.fieldsOf,ht]
 rw[run_equalIn_struct w d t xs ys (by rw[ht,hf]) hs,hf];exact Hh h w
theorem lv{xs:Array Value}{o:Nat}(hp:P.plainKey t=true)(h:xs[o]?=some v):∀w,(part t xs o).run P w=.ok v w:=λw=>run_part_plain w hp h
theorem If{b:Int}(h:P.underlying t=some (.int .i64)):EqV P (d+1) t (.int .i64 a) (.int .i64 b) (a==b):=λw=>run_equalIn_int w d t _ _ a b h
theorem MD{a:Bool}(h:P.underlying t=some .bool):EqV P (d+1) t (.bool a) (.bool b) (a==b):=λw=>run_equalIn_bool w d t a b h
theorem Pz{a b:YB}(h:P.underlying t=some .string):EqV P (d+1) t (.string ⟨a.toArray⟩) (.string ⟨b.toArray⟩) (a==b):=λw=>by have :=run_equalIn_string w d t ⟨a.toArray⟩ ⟨b.toArray⟩ h;simpa using this
abbrev JB(n:Int)(f:Bool)(t:YB)(r:Int):List Value:=[.int .i64 n,.bool f,.string ⟨t.toArray⟩,.int .i64 r]
abbrev ds(a:Int)(b:Bool)(c:YB)(d:Int)(a':Int)(b':Bool)(c':YB)(d':Int):Bool:=a==a'&&(b==b'&&(c==c'&&d==d'))
section
variable{t:TypeId}{f0 f1 f2 f3:Field}(ht:P.underlying t=some (.struct #[f0,f1,f2,f3]))(hs:P.stoodInHeld t=false) (hn:(f0.name != "_" &&f1.name != "_" &&f2.name != "_" &&f3.name != "_")=true) (ho:f0.offset=0∧f1.offset=1∧f2.offset=2∧f3.offset=3)
  (u0:P.underlying f0.type=some (.int .i64)) (u1:P.underlying f1.type=some .bool) (u2:P.underlying f2.type=some .string) (u3:P.underlying f3.type=some (.int .i64))
include ht hs hn ho u0 u1 u2 u3
theorem lA(a0:Int)(a1:Bool)(a2:YB)(a3:Int)(E:Int)(G:Bool)(J:YB)(U:Int):EqV P (d+2) t (.agg (JB a0 a1 a2 a3).toArray) (.agg (JB E G J U).toArray) (ds a0 a1 a2 a3 E G J U):=by
 simp only[aab,bne_iff_ne,ne_eq]at hn;obtain⟨⟨⟨n0,n1⟩,n2⟩,n3⟩:=hn;obtain⟨Z,o1,o2,o3⟩:=ho;have p0:P.plainKey f0.type=true:=by simp[Program.plainKey,u0]
 have p1:P.plainKey f1.type=true:=by simp[Program.plainKey,u1]
 have p2:P.plainKey f2.type=true:=by simp[Program.plainKey,u2]
 have p3:P.plainKey f3.type=true:=by simp[Program.plainKey,u3]
 have :=KU (d:=d+1) (xs:=(JB a0 a1 a2 a3).toArray) (ys:=(JB E G J U).toArray) (rs:=[a0==E,a1==G,a2==J,a3==U]) ht hs ⟨_,_,rfl,n0,⟨_,_,lv p0 (by rw[Z];rfl),lv p0 (by rw[Z];rfl),If u0⟩,_,_,rfl,n1,⟨_,_,lv p1 (by rw[o1];rfl),lv p1 (by rw[o1];rfl),MD u1⟩,_,_,rfl,n2,⟨_,_,lv p2 (by rw[o2];rfl),lv p2 (by rw[o2];rfl),Pz u2⟩,_,_,rfl,n3,⟨_,_,lv p3 (by rw[o3];rfl),lv p3 (by rw[o3];rfl),If u3⟩,rfl⟩;simpa[ds]using this
variable{t':TypeId}{g0 g1 g2:Field}(ht':P.underlying t'=some (.struct #[g0,g1,g2]))(hs':P.stoodInHeld t'=false) (hn':(g0.name != "_" &&g1.name != "_" &&g2.name != "_")=true) (ho':g0.offset=0∧g1.offset=1∧g2.offset=2) (v0:P.underlying g0.type=some (.int .i64)) (v1:P.underlying g1.type=some (.int .i64)) (v2:g2.type=t) (hz:dr P t=some 4)
include ht' hs' hn' ho' v0 v1 v2 hz
end
end
section
variable{P:Program}{n:Nat}{F:Fm}{H:Hp}
def JT:V->Option Value
 |.int k z=>some<|.int k z
 |.bool b=>some<|.bool b
 |.str l=>some<|.string ⟨l.toArray⟩
 |_=>none
def wl:List V->Option (List Value)
 |[]=>some []
 |v::r=>match JT v,wl r with
  |some x,some q=>some<|x::q
  |_,_=>none
theorem Mt{S:Nat->Prop}{w:World}{ρ:Nat->Option Value}{v:V}{x y:Value}(h:JT v=some x)(hv:VRel S w ρ v y):y=x:=by
 cases v<;>simp only[JT,aaa]at h<;>try (cases h;done)
 all_goals (subst h;simpa only[VRel]using hv)
theorem yO{S:Nat->Prop}{w:World}{ρ:Nat->Option Value}:∀{vs:List V} {xs ys:List Value},wl vs=some xs->LRel S w ρ vs ys->ys=xs
 |[],xs,ys,h,hl=>by simp only[wl,aaa]at h;subst h;simpa only[LRel]using hl
 | v::r,xs,ys,h,hl=>by
  simp only[wl]at h;split at h
  ·rename_i x q h1 h2;simp only[aaa]at h;subst h;simp only[LRel]at hl;obtain⟨z,zs,rfl,h3,h4⟩:=hl;rw[Mt h1 h3,yO h2 h4]
  ·cases h
theorem sD{neg:Bool}{u ty:TypeId}{ua ub:List V}{xs ys:List Value}{r:Bool}(E:P.eqGuardType P.depth t=false)(hx:aG F x=some (.agg ua))(hy:aG F y=some (.agg ub))(Z:wl ua=some xs)(hb:wl ub=some ys)(G:EqV P 10000 t (.agg xs.toArray) (.agg ys.toArray) r):
  ∀S w ρ a,HRel S w ρ H.get->FRel S w ρ a n F->Yld P S w ρ a ty (.binOp (if neg then .neq else .eql) t x y u) (.bool<|if neg then !r else r):=λS w ρ a hr hF=>by
 obtain⟨v,k1,J⟩:=al hF hx;obtain⟨v',k3,U⟩:=al hF hy;simp only[VRel]at J U;obtain⟨xs',rfl,m1⟩:=J;obtain⟨ys',rfl,m2⟩:=U;have e1:=yO Z m1;have e2:=yO hb m2;subst e1 e2;refine⟨.bool<|if neg then !r else r,by simp only[VRel],λw' _ _ _ _ _=>?_⟩;simp only[execOp,hF.fr.eval k1,hF.fr.eval k3];cases neg
 ·simp[run_eqGuard_agg _ _ _ _ _ _ _ E,run_eql_struct,G w',Result.andThen]
 ·simp[run_eqGuard_agg _ _ _ _ _ _ _ E,run_neq_struct,G w',Result.andThen]
theorem qX{c:YB}{d:Int}{a':Int}{b':Bool}{E:YB}{G:Int}(h:ds a b c d a' b' E G=true):a=a'∧b=b'∧c=E∧d=G:=by simpa[ds]using h
theorem qU{c:YB}{d:Int}{a':Int}{b':Bool}{E:YB}{G:Int}(h:ds a b c d a' b' E G=false):¬(a=a'∧b=b'∧c=E∧d=G):=λ⟨J,U,Z,e4⟩=>by subst J U Z e4;simp[ds]at h
end
section
variable{P:Program}{T:Tab}{n:Nat}{F:Fm}{H:Hp}
theorem yMn:∀S w ρ a,HRel S w ρ H.get->FRel S w ρ a n F->Yld P S w ρ a ty (.assign<|.const<|.map none) (.raw<|.map none):=λS w ρ a hr hF=>
 ⟨.map none,by simp only[VRel];exact⟨trivial,rfl⟩,λw' _ _ _ _ _=>by simp only[execOp,hF.fr.eval (x:=.const<|.map none) rfl];rfl⟩
theorem DG{m:Int}(h:0<=m∧m<=255):IntKind.u8.wrap m=m:=by simp only[IntKind.wrap,IntKind.bits,IntKind.signed];simp;omega
end
section
variable{P:Program}{f:Nat->Option Value}{a:Act}{w:World}{n:Nat}{ty t u:TypeId}{x y:Operand}{k':IntKind}{m l:Int}
theorem yN(n:Int)(h₀:0<=n)(h₁:n<2^63):IntKind.i64.wrap n=n:=IntWalk.i64_in _ (by omega)
theorem Mq(h:Fr a n f)(hx:aD f x=some (.int .i64 m))(hy:aD f y=some (.int k' 20)):Runs P a ty (.binOp .shr t x y u) w (.value<|.int .i64<|m/1048576) w:=λ_ _ _ _=>by have e:=shift_shr .i64 k' m 20 (by decide) (by decide);simp only[execOp,h.eval hx,h.eval hy];simp[go_sem,eqGuard,e]
theorem NR(h:Fr a n f)(hx:aD f x=some (.int .i64 m))(hy:aD f y=some (.int k' 20))(hb:InI<|m*1048576):Runs P a ty (.binOp .shl t x y u) w (.value<|.int .i64<|m*1048576) w:=λ_ _ _ _=>by have e:=shift_shl .i64 k' m 20 (by decide) (by decide);have E:IntKind.i64.wrap (m*1048576)=m*1048576:=IntWalk.i64_in _ (by omega);simp only[execOp,h.eval hx,h.eval hy];simp[go_sem,eqGuard,e,E]
theorem Ng(h:Fr a n f)(hx:aD f x=some (.int .i64 m))(hy:aD f y=some (.int .i64 1048575))(E:0<=m)(h1:m<=9223372036854775807):Runs P a ty (.binOp .and t x y u) w (.value<|.int .i64<|m%1048576) w:=λ_ _ _ _=>by have e:bits .and .i64 m 1048575=m%1048576:=bits_mask .i64 63 (by decide) yN 20 (by decide) m E (by omega);simp only[execOp,h.eval hx,h.eval hy];simp[go_sem,eqGuard,e]
theorem PI(h:Fr a n f)(hx:aD f x=some (.int .i64 m))(hy:aD f y=some (.int .i64 l))(E:0<=m)(h1:m<=4611686018427387904)(h2:m%1048576=0)(G:0<=l)(J:l<1048576):Runs P a ty (.binOp .or t x y u) w (.value<|.int .i64<|m+l) w:=λ_ _ _ _=>by have e:bits .or .i64 m l=m+l:=bits_join .i64 63 (by decide) yN 20 m l E h2 (by omega) G (by omega) (by omega);simp only[execOp,h.eval hx,h.eval hy];simp[go_sem,eqGuard,e]
end
section
variable{P:Program}{n:Nat}{F:Fm}{H:Hp}{ty t u:TypeId}{x y:Operand}{k':IntKind}{m l:Int}
theorem FO(hx:aG F x=some (.int .i64 m))(hy:aG F y=some (.int k' 20)):∀S w ρ a,HRel S w ρ H.get->FRel S w ρ a n F->Yld P S w ρ a ty (.binOp .shr t x y u) (.int .i64<|m/1048576):=λS w ρ a hr hF=>⟨_,by simp only[VRel],λw' _=>Mq hF.fr (aW<|al hF hx)<|aW<|al hF hy⟩
theorem Qm(hx:aG F x=some (.int .i64 m))(hy:aG F y=some (.int k' 20))(hb:InI<|m*1048576):∀S w ρ a,HRel S w ρ H.get->FRel S w ρ a n F->Yld P S w ρ a ty (.binOp .shl t x y u) (.int .i64<|m*1048576):=λS w ρ a hr hF=>⟨_,by simp only[VRel],λw' _=>NR hF.fr (aW<|al hF hx) (aW<|al hF hy) hb⟩
theorem Ge(hx:aG F x=some (.int .i64 m))(hy:aG F y=some (.int .i64 1048575))(hb:0<=m∧m<=9223372036854775807):∀S w ρ a,HRel S w ρ H.get->FRel S w ρ a n F->Yld P S w ρ a ty (.binOp .and t x y u) (.int .i64<|m%1048576):=λS w ρ a hr hF=>⟨_,by simp only[VRel],λw' _=>Ng hF.fr (aW<|al hF hx) (aW<|al hF hy) hb.1 hb.2⟩
theorem SS(hx:aG F x=some (.int .i64 m))(hy:aG F y=some (.int .i64 l))(hb:0<=m∧m<=4611686018427387904∧m%1048576=0∧0<=l∧l<1048576):∀S w ρ a,HRel S w ρ H.get->FRel S w ρ a n F->Yld P S w ρ a ty (.binOp .or t x y u) (.int .i64<|m+l):=λS w ρ a hr hF=>⟨_,by simp only[VRel],λw' _=>PI hF.fr (aW<|al hF hx) (aW<|al hF hy) hb.1 hb.2.1 hb.2.2.1 hb.2.2.2.1 hb.2.2.2.2⟩
theorem Tn{src dst e G ty:TypeId}{x:Operand}{id:Nat}{m l:Int}(hs:P.underlying src=some (.slice G))(he:P.underlying G=some (.int .u8))(hd:P.underlying dst=some .string)(hx:aG F x=some (.sl id))(ho:H.get id=.row e 1 [.int .u8 m,.int .u8 l]):
  ∀S w ρ a,HRel S w ρ H.get->FRel S w ρ a n F->Does P S w ρ H.get a ty (.convert src dst x) (some<|.str [UInt8.ofNat m.toNat,UInt8.ofNat l.toNat]) (ED.nop.app H.get H.nx) ED.nop.tch:=λS w ρ a hr hF=>by
 obtain⟨u,k1,U⟩:=al hF hx;simp only[VRel]at U;obtain⟨u',xs,h1,h2,Z⟩:=jp hr ho;rw[U.1]at h1;cases h1;simp only[CRel,VRel]at Z;obtain⟨z,zs,hz,hzs,rfl,z2,zs2,J,hzs2,rfl,rfl⟩:=Z;have E:xs=[.int .u8 m,.int .u8 l]:=by rw[hz,J];rfl
 have hl:[V.int .u8 m,V.int .u8 l].length=2:=rfl;rw[hl]at h2;rcases h2.2 with⟨_,h0⟩|⟨g,cap,cur,rfl,hb,hg,h4,h5,h6,h7⟩
 ·cases h0
 have c0:w.cell? ⟨g,0,none⟩=some (.int .u8 m):=by rw[fW h2 (j:=0) (by omega),E];rfl
 have c1:w.cell? ⟨g,1,none⟩=some (.int .u8 l):=by rw[fW h2 (j:=1) (by omega),E];rfl
 have fr:=hF.fr;refine⟨.value (.string ⟨[UInt8.ofNat m.toNat,UInt8.ofNat l.toNat].toArray⟩),w,ρ,λ_ _ _ _=>?_,Eff.refl hr,_,rfl,by simp only[VRel]⟩;have :=run_convert_bytes_arg (P:=P) w src G hs he g 0 2 cap [m,l] rfl (λi hi=>by
  rcases(by omega:i=0∨i=1)with rfl|rfl
  ·exact c0
  ·exact c1) dst hd
 simp only[execOp,fr.eval k1];simp[this,strOfNums]
end
def nI(E:Int)(G:Bool):Prop:=qS 52 [qi E]<|.bool G
def yg(E G J U:Int):Prop:=qS 53 [qi E,qi G]<|.tup [qi J,qi U]
def lL(E G J U:Int):Prop:=qS 22 [qi E,qi G]<|.tup [qi J,qi U]
def mR(E:Int)(G:(List YB)):Prop:=qS 100 [qi E]<|.row 1<|List.map V.str G
theorem BO(m:Nat)(E:Int)(G:Bool)(h:((1<=(E/1048576))->decide ((E/1048576)<=32)=G)∧((¬1<=(E/1048576))->false=G)):nI E G:=by
 refine⟨I,I,?_⟩;refine qA 11 [] func52 λK J=>?_;refine gR 8 rfl<|gY (FO rfl rfl) rfl rfl<|gR 2 rfl<|qBdZ 6 5 rfl rfl rfl rfl h ?_ ?_<;>intro h;refine gR 1 I<|gY (FO I I) I I<|gR 6 I ?_;subst h;exact qN [.tmp 2];refine gR 8 I ?_;subst h;exact qN [.tmp 2]
theorem Dt(m:Nat)(E G J U:Int)(h:((E<1)->0=J∧5=U)∧((¬E<1)->((32<E)->0=J∧5=U)∧((¬32<E)->((G<1)->0=J∧5=U)∧((¬G<1)->((1048575<G)->0=J∧5=U)∧((¬1048575<G)->InI (E*1048576)∧(0<=(E*1048576)∧(E*1048576)<=4611686018427387904∧(E*1048576)%1048576=0∧0<=G∧G<1048576)∧((E*1048576)+G)=J∧0=U))))):yg E G J U:=by
 refine⟨I,I,?_⟩;refine qA 24 [] func53 λK Z=>?_;refine gR 12 rfl<|qBdZ 8 7 rfl rfl rfl rfl h ?_ ?_<;>intro h;refine gR 22 I ?_;obtain⟨rfl,rfl⟩:=h;exact qN [.tmp 4,.tmp 5];refine gR 4 rfl<|qBdZ 12 11 rfl rfl rfl rfl h ?_ ?_<;>intro h;refine gR 18 I ?_;obtain⟨rfl,rfl⟩:=h;exact qN [.tmp 4,.tmp 5];refine gR 4 rfl<|qBdZ 16 15 rfl rfl rfl rfl h ?_ ?_<;>intro h;refine gR 14 I ?_;obtain⟨rfl,rfl⟩:=h;exact qN [.tmp 4,.tmp 5];refine gR 5 rfl<|qBd 19 rfl rfl rfl h ?_ ?_<;>intro h;refine gR 9 I ?_;obtain⟨rfl,rfl⟩:=h;exact qN [.tmp 4,.tmp 5];refine gR 6 I ?_;obtain⟨hb,h⟩:=h;refine gY (Qm I I hb) I I<|gR 1 I ?_;obtain⟨hb,h⟩:=h;refine gY (SS I I hb) I I<|gR 5 I ?_;obtain⟨rfl,rfl⟩:=h;exact qN [.tmp 4,.tmp 5]
theorem Do(m:Nat)(E G J U:Int)(h:∃a,nI E a∧((a=false)->0=J∧5=U)∧((a=true)->((G<0)->0=J∧5=U)∧((¬G<0)->(0<=E∧E<=9223372036854775807)∧InI (1048575-(E%1048576))∧(((1048575-(E%1048576))<G)->0=J∧17=U)∧((¬(1048575-(E%1048576))<G)->(0<=E∧E<=9223372036854775807)∧InI ((E%1048576)+G)∧∃b c,yg (E/1048576) ((E%1048576)+G) b c∧b=J∧c=U)))):lL E G J U:=by
 refine⟨I,I,?_⟩;refine qA 27 [] func22 λK Z=>?_;refine gR 10 I ?_;obtain⟨a,d,h⟩:=h;refine qC0 d rfl<|gR 2 rfl<|qBhZ 9 8 rfl rfl rfl rfl h bz bx ?_ ?_<;>intro h;refine gR 14 I ?_;obtain⟨rfl,rfl⟩:=h;exact qN [.tmp 4,.tmp 5];refine gR 5 rfl<|qBd 12 rfl rfl rfl h ?_ ?_<;>intro h;refine gR 9 I ?_;obtain⟨rfl,rfl⟩:=h;exact qN [.tmp 4,.tmp 5];refine gR 8 I ?_;obtain⟨hb,h⟩:=h;refine gY (Ge I I hb) I I ?_;obtain⟨hb,h⟩:=h;refine gR 1 rfl<|gV 16 (qi<|1048575-(E%1048576)) rfl (am hb rfl) rfl<|gR 3 rfl<|qBd 17 rfl rfl rfl h ?_ ?_<;>intro h;refine gR 9 I ?_;obtain⟨rfl,rfl⟩:=h;exact qN [.tmp 4,.tmp 5];refine gR 6 I<|gY (FO I I) I I<|gR 1 I ?_;obtain⟨hb,h⟩:=h;refine gY (Ge I I hb) I I<|gR 1 I ?_;obtain⟨hb,h⟩:=h;refine gR 1 I<|gV 23 (qi<|(E%1048576)+G) I (am hb I) I ?_;obtain⟨b,c,e,h⟩:=h;refine qC0 e I<|gR 7 I ?_;obtain⟨rfl,rfl⟩:=h;exact qN [.tmp 4,.tmp 5]
def iz(m:Nat)(E:Int)(a:(List YB))(b:Nat)(G:(List YB)):Prop:=z8 m [] f100 (z6<|.row 1<|List.map V.str G) (xL<|ab f100) [.blk 0,.seq<|xD<|cB<|ab f100] 40 [(3,qi<|Int.tdiv 650<|E+1),(4,.sl 0),(16,qi E),(17,qi (b:Int))] ⟨1,[(0,.row 9 1<|List.map V.str a)]⟩
theorem yy(m:Nat)(p0:Int)(r0:(List YB))(h:((p0<0)->[]=r0)∧((¬p0<0)->((400<p0)->[]=r0)∧((¬400<p0)->InI (p0+1)∧(((p0+1):Int)≠0∧InI (Int.tdiv 650<|p0+1))∧iz m p0 ([]:List YB) 0 r0))):mR p0 r0:=by
 refine⟨I,I,?_⟩;refine qA 40 [] func100 λK hK=>?_;refine gR 11 rfl<|qXdZ 9 8 rfl rfl rfl rfl h ?_ ?_<;>intro hd h;refine gR 13 I ?_;subst h;exact go_sub (F':=(mkF 40 0 [(2,.row 1<|List.map V.str [])])) (H':=⟨0,[]⟩) [] [] I hK ⟨⟨_,I,(.nil 1)⟩,trivial⟩ trivial I<|qN [.tmp 2];refine gR 5 rfl<|qXd 12 rfl rfl rfl h ?_ ?_<;>intro hd h;refine gR 8 I ?_;subst h;exact go_sub (F':=(mkF 40 0 [(2,.row 1<|List.map V.str [])])) (H':=⟨0,[]⟩) [] [] I hK ⟨⟨_,I,(.nil 1)⟩,trivial⟩ trivial I<|qN [.tmp 2];refine gR 6 I ?_;obtain⟨hb,h⟩:=h;refine gR 1 I<|gV 14 (qi<|p0+1) I (am hb I) I ?_;obtain⟨hb,h⟩:=h;exact gY (RY I I hb.1 hb.2) I I<|gR 16 I<|go_loop m<|gNS 4 9 1 I I I I<|qW hK h [0]
theorem pQ(m:Nat)(E:Int)(b:(List YB))(a:Nat)(G:(List YB))(h:y6 ((a:Int)<E) (a+1<=9223372036854775807∧InI (((a+1:Nat):Int)*(Int.tdiv 650<|E+1))∧((25:Int)≠0∧InI (Int.tdiv (((a+1:Nat):Int)*(Int.tdiv 650<|E+1)) 25))∧(0<=(Int.tdiv (((a+1:Nat):Int)*(Int.tdiv 650<|E+1)) 25)∧(Int.tdiv (((a+1:Nat):Int)*(Int.tdiv 650<|E+1)) 25)<=255)∧(0<=97+(Int.tdiv (((a+1:Nat):Int)*(Int.tdiv 650<|E+1)) 25)∧97+(Int.tdiv (((a+1:Nat):Int)*(Int.tdiv 650<|E+1)) 25)<=255)∧(25:Int)≠0∧InI (1+(Int.tmod (((a+1:Nat):Int)*(Int.tdiv 650<|E+1)) 25))∧(0<=(1+(Int.tmod (((a+1:Nat):Int)*(Int.tdiv 650<|E+1)) 25))∧(1+(Int.tmod (((a+1:Nat):Int)*(Int.tdiv 650<|E+1)) 25))<=255)∧(0<=97+(1+(Int.tmod (((a+1:Nat):Int)*(Int.tdiv 650<|E+1)) 25))∧97+(1+(Int.tmod (((a+1:Nat):Int)*(Int.tdiv 650<|E+1)) 25))<=255)∧(b++[[UInt8.ofNat (97+(Int.tdiv (((a+1:Nat):Int)*(Int.tdiv 650<|E+1)) 25)).toNat,UInt8.ofNat (97+(1+(Int.tmod (((a+1:Nat):Int)*(Int.tdiv 650<|E+1)) 25))).toNat]]).length<=1000000000∧a+1<=9223372036854775807∧iz m E (b++[[UInt8.ofNat (97+(Int.tdiv (((a+1:Nat):Int)*(Int.tdiv 650<|E+1)) 25)).toNat,UInt8.ofNat (97+(1+(Int.tmod (((a+1:Nat):Int)*(Int.tdiv 650<|E+1)) 25))).toNat]]) (a+1) G)<|b=G):iz (m+1) E b a G:=by
 refine qj λK U J c=>?_;refine gR 6 rfl<|qXd 18 rfl rfl rfl h ?_ ?_<;>intro Z h;refine gR 14 I ?_;obtain⟨hb,h⟩:=h;refine gR 1 I<|gV 21 (qi ((a+1:Nat):Int)) I (am (by omega)<|by omega) I<|gR 1 I ?_;obtain⟨hb,h⟩:=h;refine gY (Tq I I hb) I I<|gR 6 I ?_;obtain⟨hb,h⟩:=h;refine gY (RY I I hb.1 hb.2) I I ?_;obtain⟨hb,h⟩:=h;refine gY (yCv underlying3 underlying5 I<|DG hb) I I ?_;obtain⟨hb,h⟩:=h;refine gR 1 I<|gV 28 (.int .u8<|97+(Int.tdiv (((a+1:Nat):Int)*(Int.tdiv 650<|E+1)) 25)) I (congrArg (V.int .u8)<|DG hb) I<|gR 1 I ?_;obtain⟨hb,h⟩:=h;refine gY (Qx I I hb) I I ?_;obtain⟨hb,h⟩:=h;refine gR 1 I<|gV 31 (qi<|1+(Int.tmod (((a+1:Nat):Int)*(Int.tdiv 650<|E+1)) 25)) I (am hb I) I ?_;obtain⟨hb,h⟩:=h;refine gY (yCv underlying3 underlying5 I<|DG hb) I I ?_;obtain⟨hb,h⟩:=h;refine gR 1 I<|gV 33 (.int .u8<|97+(1+(Int.tmod (((a+1:Nat):Int)*(Int.tdiv 650<|E+1)) 25))) I (congrArg (V.int .u8)<|DG hb) I<|gR 1 I<|gDo (.nop) (Tn underlying115 underlying5 underlying9 I I) trivial I I I<|gR 1 I ?_;obtain⟨hb,h⟩:=h;refine gDo (.repl 0<|.row 9 1<|List.map V.str<|b++[[UInt8.ofNat (97+(Int.tdiv (((a+1:Nat):Int)*(Int.tdiv 650<|E+1)) 25)).toNat,UInt8.ofNat (97+(1+(Int.tmod (((a+1:Nat):Int)*(Int.tdiv 650<|E+1)) 25))).toNat]]) (bq ac I I I I I (apM V.str b [UInt8.ofNat (97+(Int.tdiv (((a+1:Nat):Int)*(Int.tdiv 650<|E+1)) 25)).toNat,UInt8.ofNat (97+(1+(Int.tmod (((a+1:Nat):Int)*(Int.tdiv 650<|E+1)) 25))).toNat]) (by rw[az];exact hb)) (okR I) I I I<|gR 5 I ?_;obtain⟨hb,h⟩:=h;exact gR 1 I<|gV 38 (qi ((a+1:Nat):Int)) I (am (by omega)<|by omega) I<|gR 2 I<|go_xloop<|qW J h [3];refine gR 3 I<|go_xloopE<|gR 9 I<|gFR 0 I (eG _ (λ_=>I) _) I I ?_;subst h;exact qN [.tmp 2]
structure ye where
 Module:Int
 Path:(List Int)
structure aE where
 Use:ye
 Module:Int
 Def:Int
 Free:Bool
abbrev aE.c(x:aE):List V:=[.int .i64 x.Use.Module,.row 1 (List.map (V.int .i64) x.Use.Path),.int .i64 x.Module,.int .i64 x.Def,.bool x.Free]
abbrev aE.w(x:aE):V:=.agg x.c
def gy(E:YB)(G J:Int):Prop:=qS 176 [.str E,.int .u8 G]<|qi J
def ql(E:YT)(G:Bool):Prop:=qS 97 [.row 4<|kidsV E]<|.bool G
def rz(E:YT)(G:Int)(J:YB)(U Z:Int)(r2:Bool):Prop:=qS 150 [.row 4<|kidsV E,qi G,.str J]<|.tup [qi U,qi Z,.bool r2]
def pR(E:YT)(G:List aE):Prop:=qS 56 [.row 4<|kidsV E]<|.row 5<|List.map aE.w G
def oM(E:YT)(G:YB)(J:Int):Prop:=qS 181 [.row 4<|kidsV E,.str G]<|qi J
def qy(E:Tree)(G:YB)(J:Bool):Prop:=qS 201 [.agg<|an E,.box [.str G] 0]<|.bool J
def fv(g:YT)(a:Int)(e:YI)(c:List aE)(E:Tree)(i:YT)(b:Int)(f:YI)(d:List aE):Prop:=cb [] prog 98 [.ptr 0 0,.agg<|an E] ⟨3,[(2,.row 111 5<|List.map aE.w c),(1,.row 3 1<|List.map (V.int .i64) e),(0,.var 150 [.row 4<|kidsV g,qi a,.sl 1,.sl 2])]⟩<|z7 (.tup []) ⟨3,[(2,.row 111 5<|List.map aE.w d),(1,.row 3 1<|List.map (V.int .i64) f),(0,.var 150 [.row 4<|kidsV i,qi b,.sl 1,.sl 2])]⟩
def ln(E:YT)(a:YB)(G:Int):Prop:=qS 200 [.row 4<|kidsV E,.clo 201 [.box [.str a] 0]]<|qi G
def mM(E G J:YB)(U:Bool):Prop:=qS 180 [.str E,.str [46]]<|.tup [.str G,.str J,.bool U]
def iG(E G J:YB)(U:Bool):Prop:=qS 199 [.str E,.str [46]]<|.tup [.str G,.str J,.bool U]
def cF(E:YB)(G:Int):Prop:=qS 182 [.str E,.str [46]]<|qi G
def fz(E:YB)(G:Bool):Prop:=qS 101 [.str E,.str [46]]<|.bool G
def pL(E:YB)(G:Int):Prop:=qS 151 [.str E,.str [46]]<|qi G
def kU(m:Nat)(E:YT)(a:Nat)(G:Bool):Prop:=z8 m [] f97 (z6<|.bool G) (xI<|cB<|ab f97) [.blk 0,.seq<|xA<|ab f97] 20 [(5,.row 4<|kidsV E),(6,qi (E.length:Int)),(7,qi (a:Int))] ⟨0,[]⟩
theorem AJ(m:Nat)(p0:YT)(r0:Bool)(h:kU m p0 0 r0):ql p0 r0:=by
 refine⟨I,I,?_⟩;refine qA 20 [] func97 λK hK=>?_;exact gR 10 I<|gV 6 (qi (p0.length:Int)) I (aN<|aO _) I<|gLB 5 I (aO _) λa=>gR 4 I<|go_loop m<|qW hK h []
theorem sQ(m:Nat)(G:YT)(a:Nat)(E:Bool)(h:y6 (a<G.length) (∃b,G[a]?=some b∧q3a b.kind 1 (false=E) (∃c,fP b c∧y8 c (false=E) (a+1<=9223372036854775807∧kU m G (a+1) E)))<|true=E):kU (m+1) G a E:=by
 refine qj λK Z U f=>?_;refine gR 6 rfl<|qXh 8 rfl rfl rfl h bQ bS ?_ ?_<;>intro J h;refine gR 7 I ?_;obtain⟨b,d,h⟩:=h;refine gY (ax (aB d) ac rfl rfl rfl rfl) rfl rfl<|gR 11 rfl<|qXhZ 14 13 rfl rfl rfl rfl h ig eP ?_ ?_<;>intro J h;refine gR 15 I<|go_xloopR<|gR 2 I ?_;subst h;exact qN [.tmp 2];refine gR 1 I ?_;obtain⟨c,e,h⟩:=h;refine qC0 e rfl<|gR 4 rfl<|qXh 18 rfl rfl rfl h bz bx ?_ ?_<;>intro J h;refine gR 9 I<|go_xloopR<|gR 2 I ?_;subst h;exact qN [.tmp 2];refine gR 5 I ?_;obtain⟨hb,h⟩:=h;exact gR 1 I<|gV 19 (qi ((a+1:Nat):Int)) I (am (by omega)<|by omega) I<|gR 2 I<|go_xloop<|qW U h [];refine gR 3 I<|go_xloopE<|gR 8 I ?_;subst h;exact qN [.tmp 2]
def lW(m:Nat)(E:YT)(a:Int)(b:YB)(G J:Int)(U:Bool):Prop:=y4 [] f150 (z6<|.tup [qi G,qi J,.bool U]) (xH<|ab f150) [] 45 [(0,.row 4<|kidsV E),(1,qi a),(2,.str b)] ⟨0,[]⟩
theorem BK(m:Nat)(E:YT)(G:Int)(p2:YB)(U Z:Int)(r2:Bool)(h:((G<0)->0=U∧0=Z∧false=r2)∧((¬G<0)->(((E.length:Int)<=G)->0=U∧0=Z∧false=r2)∧((¬(E.length:Int)<=G)->∃b c a,mM p2 b c a∧((a=true)->∃d,oM E b d∧lW m E d c U Z r2)∧((a=false)->lW m E G p2 U Z r2)))):rz E G p2 U Z r2:=by
 refine⟨I,I,?_⟩;refine qA 45 [] func150 λK hK=>?_;refine gR 13 rfl<|qBdZ 15 14 rfl rfl rfl rfl h ?_ ?_<;>intro h;refine gR 17 I ?_;obtain⟨rfl,rfl,rfl⟩:=h;exact qN [.tmp 6,.tmp 7,.tmp 8];refine gR 3 rfl<|gV 18 (qi (E.length:Int)) rfl (aN<|aO _) rfl<|gLB 17 rfl (aO _) λg=>gR 4 rfl<|qBd 20 rfl rfl rfl h ?_ ?_<;>intro h;refine gR 10 I ?_;obtain⟨rfl,rfl,rfl⟩:=h;exact qN [.tmp 6,.tmp 7,.tmp 8];refine gR 7 I ?_;obtain⟨b,c,a,e,h⟩:=h;refine qC0 e rfl<|gR 14 rfl<|gB 27 rfl rfl rfl ?_ ?_<;>intro J;refine gT 11 I J I ?_;refine gT 26 I J I ?_;replace h:=h.1 J;refine gR 4 I ?_;obtain⟨d,f,h⟩:=h;exact qC0 f I<|gR 5 I<|qJ hK (h K hK) [];refine gF 11 I J I ?_;refine gF 26 I J I ?_;replace h:=h.2 J;exact gR 3 I<|qJ hK (h K hK) []
theorem AK(m:Nat)(U:YT)(a:Int)(f:YB)(E G:Int)(J:Bool)(h:y6 (a<0) (0=E∧0=G∧false=J) (∃c,a=((c:Nat):Int)∧∃d,U[c]?=some d∧∃b,oM d.kids f b∧y6 (b<0) (0=E∧0=G∧false=J) (a=E∧b=G∧true=J))):lW (m+1) U a f E G J:=by
 intro K Z;refine gR 7 rfl<|qBd 33 rfl rfl rfl h ?_ ?_<;>intro h;refine gR 10 I ?_;obtain⟨rfl,rfl,rfl⟩:=h;exact qN [.tmp 6,.tmp 7,.tmp 8];refine gR 7 I ?_;obtain⟨c,g,h⟩:=h;refine gV 35 (qi ((c:Nat):Int)) I (bc g) I ?_;obtain⟨d,e,h⟩:=h;refine gY (ax (aB e) ac I I I I) I I<|gR 3 I ?_;obtain⟨b,i,h⟩:=h;refine qC0 i rfl<|gR 10 rfl<|qBd 42 rfl rfl rfl h ?_ ?_<;>intro h;refine gR 10 I ?_;obtain⟨rfl,rfl,rfl⟩:=h;exact qN [.tmp 6,.tmp 7,.tmp 8];refine gR 13 I ?_;obtain⟨rfl,rfl,rfl⟩:=h;exact qN [.tmp 6,.tmp 7,.tmp 8]
def ll(m:Nat)(E a:YT)(b:Int)(c:YI)(d:List aE)(e:Nat)(G:List aE):Prop:=z8 m [] f56 (z6<|.row 5<|List.map aE.w G) (xI<|xH<|ab f56) [.blk 0,.seq<|xD<|ab f56] 25 [(3,.ptr 0 0),(11,.row 4<|kidsV E),(12,qi (E.length:Int)),(13,qi (e:Int))] ⟨3,[(2,.row 111 5<|List.map aE.w d),(1,.row 3 1<|List.map (V.int .i64) c),(0,.var 150 [.row 4<|kidsV a,qi b,.sl 1,.sl 2])]⟩
theorem AX(m:Nat)(p0:YT)(r0:List aE)(h:∃a,ql p0 a∧((a=false)->[]=r0)∧((a=true)->ll m p0 p0 0 ([]:YI) ([]:List aE) 0 r0)):pR p0 r0:=by
 refine⟨I,I,?_⟩;refine qA 25 [] func56 λK hK=>?_;refine gR 9 I ?_;obtain⟨a,b,h⟩:=h;refine qC0 b rfl<|gR 3 rfl<|qXh 8 rfl rfl rfl h bz bx ?_ ?_<;>intro hd h;refine gR 8 I ?_;subst h;exact go_sub (F':=(mkF 25 0 [(2,.row 5<|List.map aE.w [])])) (H':=⟨0,[]⟩) [] [] I hK ⟨⟨_,I,(.nil 5)⟩,trivial⟩ trivial I<|qN [.tmp 2];exact gR 16 I<|gV 12 (qi (p0.length:Int)) I (aN<|aO _) I<|gLB 11 I (aO _) λc=>gR 4 I<|go_loop m<|gNC 0 2 3 1 I I I I<|gNC 0 3 111 5 I I I I<|qW hK h [0,1,2]
theorem sw(m:Nat)(E j:YT)(l:Int)(k:YI)(d:List aE)(a:Nat)(G:List aE)(h:y6 (a<E.length) (∃e,E[a]?=some e∧∃f g b c,fv j (a:Int) k d e f g b c∧a+1<=9223372036854775807∧ll m E f g b c (a+1) G)<|d=G):ll (m+1) E j l k d a G:=by
 refine qj λK U J o=>?_;refine gR 6 rfl<|qXh 14 rfl rfl rfl h bQ bS ?_ ?_<;>intro Z h;refine gR 8 I ?_;obtain⟨e,i,h⟩:=h;refine gY (ax (aB i) ac I I I I) I I<|gR 15 I ?_;obtain⟨f,g,b,c,n,h⟩:=h;refine qC n [0,1,2] ?_;refine gHR 5 (List.map (V.int .i64) b) I (dH _ (V.int .i64) (λ_=>I) b) I<|gHR 6 (List.map aE.w c) I (dH _ aE.w (λ_=>I) c) I<|gR 4 I ?_;obtain⟨hb,h⟩:=h;exact gR 1 I<|gV 22 (qi ((a+1:Nat):Int)) I (am (by omega)<|by omega) I<|gR 2 I<|go_xloop<|qW J h [0,5,6];refine gR 3 I<|go_xloopE<|gR 10 I<|gFR 2 I (eG _ (λ_=>I) _) I I ?_;subst h;exact qN [.tmp 2]
theorem Dr(m:Nat)(E:YT)(G:YB)(J:Int)(h:∃a,ln E G a∧a=J):oM E G J:=by
 refine⟨I,I,?_⟩;refine qA 8 [] func181 λK U=>?_;refine gR 9 I<|gFP 0 I I I I<|gY (yMF I) I I ?_;obtain⟨a,b,h⟩:=h;refine qC0 b I<|gR 4 I ?_;subst h;exact qN [.tmp 4]
theorem AZ(m:Nat)(E:Tree)(G:YB)(J:Bool)(h:(E.text==G)=J):qy E G J:=by
 refine⟨I,I,?_⟩;refine qA 8 [] func201 λK U=>?_;refine gR 3 I<|gFP 0 I I I I<|gR 13 I ?_;subst h;exact qN [.tmp 3]
def eL(m:Nat)(g:YT)(a:Int)(e:YI)(c:List aE)(E:Tree)(i:Bool)(j:YT)(b:Int)(f:YI)(d:List aE):Prop:=y4 [0] f98 (z7 (.tup []) ⟨3,[(2,.row 111 5<|List.map aE.w d),(1,.row 3 1<|List.map (V.int .i64) f),(0,.var 150 [.row 4<|kidsV j,qi b,.sl 1,.sl 2])]⟩) (cB<|cA<|cB<|ab f98) [.seq<|xA<|ab f98] 94 [(0,.ptr 0 0),(3,.box (an E) 0),(17,.bool i)] ⟨3,[(2,.row 111 5<|List.map aE.w c),(1,.row 3 1<|List.map (V.int .i64) e),(0,.var 150 [.row 4<|kidsV g,qi a,.sl 1,.sl 2])]⟩
def mg(m:Nat)(g:YT)(a:Int)(e:YI)(c:List aE)(E:Tree)(i j:Int)(k:Bool)(l:YI)(n:YT)(b:Int)(f:YI)(d:List aE):Prop:=y5 [0] f98 (z7 (.tup []) ⟨3,[(2,.row 111 5<|List.map aE.w d),(1,.row 3 1<|List.map (V.int .i64) f),(0,.var 150 [.row 4<|kidsV n,qi b,.sl 1,.sl 2])]⟩) [.seq<|xA<|xJ<|cA<|cB<|ab f98,.seq<|xA<|ab f98] 94 [(0,.ptr 0 0),(3,.box (an E) 0),(4,qi i),(5,qi j),(6,.bool k),(7,.ptr 1 0)] ⟨4,[(3,.row 111 5<|List.map aE.w c),(2,.row 3 1<|List.map (V.int .i64) e),(1,.var 109 [qi a,.row 1<|List.map (V.int .i64) l]),(0,.var 150 [.row 4<|kidsV g,qi a,.sl 2,.sl 3])]⟩
def du(m:Nat)(E:Tree)(d:List aE)(e:YT)(f:Int)(g:YI)(i:Nat)(j:YT)(a:Int)(c:YI)(b:List aE):Prop:=z8 m [0] f98 (z7 (.tup []) ⟨3,[(2,.row 111 5<|List.map aE.w b),(1,.row 3 1<|List.map (V.int .i64) c),(0,.var 150 [.row 4<|kidsV j,qi a,.sl 1,.sl 2])]⟩) (xK<|xH<|ab f98) [.blk 0] 94 [(0,.ptr 0 0),(59,.row 4<|kidsV E.kids),(60,qi (E.kids.length:Int)),(61,qi (i:Int))] ⟨3,[(2,.row 111 5<|List.map aE.w d),(1,.row 3 1<|List.map (V.int .i64) g),(0,.var 150 [.row 4<|kidsV e,qi f,.sl 1,.sl 2])]⟩
theorem tr(m:Nat)(g:YT)(a:Int)(e:YI)(c:List aE)(E:Tree)(i:YT)(b:Int)(f:YI)(d:List aE)(h:y9 E.kind 16 (eL m g a e c E true i b f d)<|eL m g a e c E (E.kind==9) i b f d):fv g a e c E i b f d:=by
 refine qA 94 [0] func98 λK G=>?_;refine gR 3 rfl<|gFP 3 rfl rfl rfl rfl<|gR 9 rfl<|qBeZ 13 12 rfl rfl rfl rfl h ?_ ?_<;>intro h;exact gR 6 I<|qJ G (h K G) [0,1,2];exact gR 6 I<|qJ G (h K G) [0,1,2]
theorem sR(m:Nat)(g:YT)(b:Int)(a:YI)(c:List aE)(p1:Tree)(k:Bool)(l:YT)(d:Int)(f:YI)(e:List aE)(h:y7 k (∃n o p,rz g b p1.text n o p∧∃q,gK a q∧mg m g b a c p1 n o p q l d f e)<|du m p1 c g b a 0 l d f e):eL (m+1) g b a c p1 k l d f e:=by
 intro K hK;refine qXi 17 rfl rfl rfl h ?_ ?_<;>intro hd h;refine gR 2 I<|qDs [0] 10 18<|qDr (qR 0 3 2 ((3,3)::(qR 4 3 2 [(7,3),(8,0),(9,0)]))) I I ?_;obtain⟨n,o,p,s,h⟩:=h;refine bM 10 s (by kernel_rfl) I (by kernel_rfl) I I .rfl I I ?_;refine qDr ((11,1)::(qR 12 3 2 (qR 15 3 1 []))) I I<|qDe<|gR 2 I<|qDs [0] 11 12<|qDr (qR 0 3 2 ((3,3)::(qR 4 3 2 [(7,3)]))) I I ?_;obtain⟨q,r,h⟩:=h;apply qq (i:=8) (j:=10) (by kernel_rfl) rfl rfl rfl rfl;exact(qQ (L':=[0]) (by kernel_rfl) I I (CV (H:=⟨3,[(2,.row 111 5 (List.map aE.w c)),(1,.row 3 1 (List.map (V.int .i64) a)),(0,.var 150 [.row 4 (kidsV g),qi b,.sl 1,.sl 2])]⟩) r [1] .rfl ⟨⟨_,I,⟨I,I,(dH _ (V.int .i64) (λ_=>I) a).symm⟩⟩,trivial⟩ I [0] I) (.inl I));exact(qm ac I I);exact gHR 1 (List.map (V.int .i64) a) I (dH _ (V.int .i64) (λ_=>I) a) I<|qDr [(9,2),(10,0),(11,1)] I I<|qDe<|qJ hK (h K hK) [0,4,1,2];refine qDC 8 r [1] I ?_;exact gHR 1 (List.map (V.int .i64) a) I (dH _ (V.int .i64) (λ_=>I) a) I<|qDr [(9,0),(11,1)] I I<|qDe<|qJ hK (h K hK) [0,3,1,2];exact gR 8 I<|gV 60 (qi (p1.kids.length:Int)) I (aN<|aO _) I<|gLB 59 I (aO _) λt=>gR 4 I<|go_loop m<|qW hK h [0,1,2]
theorem sX(m:Nat)(l:YT)(a:Int)(e:YI)(b:List aE)(p1:Tree)(f g:Int)(i:Bool)(j:YI)(n:YT)(c:Int)(k:YI)(d:List aE)(h:(b++[(aE.mk (ye.mk a j) f g<|!i)]).length<=1000000000∧du m p1 (b++[(aE.mk (ye.mk a j) f g<|!i)]) l a e 0 n c k d):mg (m+1) l a e b p1 f g i j n c k d:=by
 intro K hK;refine gR 1 I<|qDs [0,1] 15 16<|qDr (qR 0 4 2 ((4,3)::(5,3)::(6,2)::(7,2)::(qR 8 4 0 []))) I I ?_;obtain⟨hb,h⟩:=h;refine bW 12 (.repl 3 (.row 111 5 (List.map aE.w (b++[(aE.mk (ye.mk a j) f g (!i))])))) I (by kernel_rfl) (bq ac I I I I I (apM aE.w b (aE.mk (ye.mk a j) f g (!i))) (by rw[az];exact hb)) (okR I) I (by kernel_rfl) I I ?_;exact qDr [(13,0),(14,0),(15,1)] I I<|qDe<|gR 6 I<|gV 60 (qi (p1.kids.length:Int)) I (aN (aO _)) I<|gLB 59 I (aO _) λo=>gR 4 I<|go_loop m<|qW hK h [0,2,5]
theorem lI(m:Nat)(E:Tree)(j:List aE)(k:YT)(l:Int)(f:YI)(a:Nat)(n:YT)(c:Int)(e:YI)(d:List aE)(h:y6 (a<E.kids.length) (∃o,E.kids[a]?=some o∧(f++[(a:Int)]).length<=1000000000∧∃p q b i,fv k l (f++[(a:Int)]) j o p q b i∧∃g,((b.length:Int)-1)=((g:Nat):Int)∧g<=b.length∧a+1<=9223372036854775807∧du m E i p q (b.take g) (a+1) n c e d)<|k=n∧l=c∧f=e∧j=d):du (m+1) E j k l f a n c e d:=by
 refine qj λK J G x=>?_;refine gR 6 rfl<|qXh 62 rfl rfl rfl h bQ bS ?_ ?_<;>intro U h;refine gR 8 I ?_;obtain⟨o,r,h⟩:=h;refine gY (ax (aB r) ac I I I I) I I<|gR 15 I ?_;obtain⟨hb,h⟩:=h;refine gDo (.repl 1<|.row 3 1<|List.map (V.int .i64)<|f++[(a:Int)]) (bq ac I I I I I (apM (V.int .i64) f (a:Int)) (by rw[az];exact hb)) (okR I) I I I<|gR 9 I ?_;obtain⟨p,q,b,i,t,h⟩:=h;refine qC t [0,5,2] ?_;refine gHR 7 (List.map (V.int .i64) b) I (dH _ (V.int .i64) (λ_=>I) b) I<|gHR 8 (List.map aE.w i) I (dH _ aE.w (λ_=>I) i) I<|gR 2 I<|qDs [0] 14 15<|qDr (qR 0 4 2<|(4,3)::(qR 5 5 0 [])) I I<|gV 88 (qi (b.length:Int)) I (aN<|az (V.int .i64) _) I<|gLO 7 I (az (V.int .i64) _) λv=>qDr [(10,0)] I I<|gV 89 (qi<|(b.length:Int)-1) I (am (by have :=v;omega) I) I ?_;obtain⟨g,s,h⟩:=h;refine gV 89 (qi ((g:Nat):Int)) I (bc s) I ?_;obtain⟨hb,h⟩:=h;refine bW 11 (.repl 7<|.row 3 1<|List.map (V.int .i64)<|b.take g) I (by kernel_rfl) (dTr ac I I I I (by rw[az];exact hb)<|DE _ _ _) (okR I) I (by kernel_rfl) I I ?_;refine qDr [(12,0),(13,0),(14,1)] I I<|qDe<|gR 3 I ?_;obtain⟨hb,h⟩:=h;exact gR 1 I<|gV 93 (qi ((a+1:Nat):Int)) I (am (by omega)<|by omega) I<|gR 2 I<|go_xloop<|qW G h [0,9,8];refine gR 3 I<|go_xloopE<|gR 1 I ?_;obtain⟨rfl,rfl,rfl,rfl⟩:=h;exact gE G [] [] [0,1,2] []
def gQ(m:Nat)(E:YT)(a:YB)(b:Nat)(G:Int):Prop:=z8 m [] f200 (z6<|qi G) (xI<|cB<|ab f200) [.blk 0,.seq<|xA<|ab f200] 19 [(0,.row 4<|kidsV E),(1,.clo 201 [.box [.str a] 0]),(7,qi (E.length:Int)),(8,qi (b:Int))] ⟨0,[]⟩
theorem xU(m:Nat)(p0:YT)(a:YB)(r0:Int)(h:gQ m p0 a 0 r0):ln p0 a r0:=by
 refine⟨I,I,?_⟩;refine qA 19 [] func200 λK hK=>?_;exact gR 10 I<|gV 7 (qi (p0.length:Int)) I (aN<|aO _) I<|gLB 6 I (aO _) λb=>gR 4 I<|go_loop m<|qW hK h []
theorem pz(m:Nat)(E:YT)(b:YB)(a:Nat)(G:Int)(h:y6 (a<E.length) (∃d,E[a]?=some d∧∃c,qy d b c∧y7 c ((a:Int)=G) (a+1<=9223372036854775807∧gQ m E b (a+1) G))<|(-1)=G):gQ (m+1) E b a G:=by
 refine qj λK Z J g=>?_;refine gR 6 rfl<|qXh 9 rfl rfl rfl h bQ bS ?_ ?_<;>intro U h;refine gR 16 I ?_;obtain⟨d,e,h⟩:=h;refine gY (ax (aB e) ac I I I I) I I<|gR 1 I ?_;obtain⟨c,f,h⟩:=h;refine Tr f (by kernel_rfl) I I I .rfl I ?_;refine gR 2 rfl<|qXi 16 rfl rfl rfl h ?_ ?_<;>intro U h;refine gR 10 I<|go_xloopR<|gR 2 I ?_;subst h;exact qN [.tmp 4];refine gR 5 I ?_;obtain⟨hb,h⟩:=h;exact gR 1 I<|gV 18 (qi ((a+1:Nat):Int)) I (am (by omega)<|by omega) I<|gR 2 I<|go_xloop<|qW J h [];refine gR 3 I<|go_xloopE<|gR 8 I ?_;subst h;exact qN [.tmp 4]
theorem yf(m:Nat)(E G J:YB)(U:Bool)(h:∃a b c,iG E a b c∧a=G∧b=J∧c=U):mM E G J U:=by
 refine⟨I,I,?_⟩;refine qA 13 [] func180 λK Z=>?_;refine gR 11 I ?_;obtain⟨a,b,c,d,h⟩:=h;refine qC0 d I<|gR 9 I ?_;obtain⟨rfl,rfl,rfl⟩:=h;exact qN [.tmp 4,.tmp 5,.tmp 6]
theorem oL(m:Nat)(E G J:YB)(U:Bool)(h:∃a,cF E a∧((0<=a)->∃b,a=((b:Nat):Int)∧b<=E.length∧InI (a+1)∧∃c,(a+1)=((c:Nat):Int)∧c<=E.length∧(E.take b)=G∧(E.drop c)=J∧true=U)∧((¬0<=a)->E=G∧[]=J∧false=U)):iG E G J U:=by
 refine⟨I,I,?_⟩;refine qA 23 [] func199 λK hK=>?_;refine gR 12 I ?_;obtain⟨a,f,h⟩:=h;refine qC0 f rfl<|gR 9 rfl<|qBd 12 rfl rfl rfl h ?_ ?_<;>intro h;refine gR 2 I<|qDs [] 12 12<|qDr [(0,2),(1,2)] I I ?_;obtain⟨b,d,h⟩:=h;refine gV 14 (qi ((b:Nat):Int)) I (bc d) I ?_;obtain⟨Z,h⟩:=h;refine gYd 2 I (by kernel_rfl) (ySS ac I I NS (MH I) (aat _) Z<|FX _ _) I I<|qDr (qR 3 4 2 []) I I ?_;obtain⟨hb,h⟩:=h;refine qDr [(7,2)] I I<|gV 20 (qi<|a+1) I (am hb I) I ?_;obtain⟨c,e,h⟩:=h;refine gV 20 (qi ((c:Nat):Int)) I (bc e) I ?_;obtain⟨hb,h⟩:=h;refine gYd 8 I (by kernel_rfl) (ySS ac I I (MH I) NS hb (aag _)<|MN _ _) I I<|qDr (qR 9 3 0 []) I I<|qDe<|gR 3 I ?_;obtain⟨rfl,rfl,rfl⟩:=h;exact qN [.tmp 4,.tmp 5,.tmp 6];refine gR 12 I ?_;obtain⟨rfl,rfl,rfl⟩:=h;exact qN [.tmp 4,.tmp 5,.tmp 6]
def gp(m:Nat)(E:YB)(G:Int):Prop:=y4 [] f182 (z6<|qi G) (xB<|cK<|cA<|xA<|ab f182) [.blk 0,.seq<|xH<|ab f182] 143 [(0,.str E),(1,.str [46]),(5,qi 1)] ⟨0,[]⟩
theorem nu(m:Nat)(E:YB)(G:Int)(h:(([46]=E)->0=G)∧(([46]≠E)->gp m E G)):cF E G:=by
 refine⟨I,I,?_⟩;refine qA 143 [] func182 λK J=>?_;refine gR 26 rfl<|qBeZ 16 23 rfl rfl rfl rfl h ?_ ?_<;>intro h;refine gR 9 I ?_;subst h;exact qN [.tmp 4];exact gR 1 I<|qJ J (h K J) []
theorem mO(m:Nat)(E:YB)(G:Int)(h:∃a,gy E 46 a∧a=G):gp (m+1) E G:=by
 intro K J;refine gR 13 I ?_;obtain⟨a,b,h⟩:=h;refine qC0 b I<|gR 6 I ?_;subst h;exact qN [.tmp 4]
theorem tv(m:Nat)(E:YB)(G:Bool)(h:∃a,pL E a∧decide (0<=a)=G):fz E G:=by
 refine⟨I,I,?_⟩;refine qA 9 [] func101 λK J=>?_;refine gR 9 I ?_;obtain⟨a,b,h⟩:=h;refine qC0 b I<|gR 5 I ?_;subst h;exact qN [.tmp 4]
theorem wv(m:Nat)(E:YB)(G:Int)(h:∃a,cF E a∧a=G):pL E G:=by
 refine⟨I,I,?_⟩;refine qA 8 [] func151 λK J=>?_;refine gR 9 I ?_;obtain⟨a,b,h⟩:=h;refine qC0 b I<|gR 4 I ?_;subst h;exact qN [.tmp 4]
section
variable{P:Program}{T:Tab}{K:Ctx}{Q:Exit->Act->World->Prop}{s:List EI}{n:Nat}{F F1:Fm}{H H1:Hp}{all:Array Oper}{rest:List Oper}{L:YN}{m fuel:Nat}{listed:Array Bool}{p:EP}
theorem Tw{PL:YN}{fid:FuncId}{args:List Operand}{tys:Array TypeId}{vs us:List V}{H0:Hp}{Post:V->Hp->Prop}{d:Option Tmp}{ty:TypeId}{ps:String}{af:Array Edge}{g:Option<|Nat×Bool}(i:Nat)(G:cb PL P fid us H0 Post)(σ:YN)(J:bZ P fid=true)(hi:all[i]?=some ⟨d,.call {callee:=.value<|.func fid,args:=args.toArray,argTypes:=tys},ty,ps,af,g⟩)(E:Region.ready .any all listed=[i])(U:bd F all g=some true)(hv:fk F args=some vs)(hs:aU vs<|renL σ us)(hH:leH σ H H0.es)(Z:(ci σ&&Nat.beq σ.length H0.nx&&σ.all λi=>Nat.blt i H.nx)=true)(hm:(listed.setIfInBounds i true).getD m false=true)
  (k:∀v H',Post v H'->Go P K Q (.drw all L m fuel<|listed.setIfInBounds i true) s n (F.seto d<|some<|v.ren<|sgN PL H.nx H0.get H'.nx σ 0) (lN PL H σ H0 H')):Go P K Q (.drw all L m (fuel+1) listed) s n F H:=
 go_d1C J E hi rfl U hv (tj G σ hs hH Z [] rfl) (.inr hm) λv' H'' ⟨v,H',hP,e1,e2⟩=>by subst e1 e2;exact k v H' hP
end
section
variable{P:Program}{K:Ctx}{Q:Exit->Act->World->Prop}{p:EP}{s:List EI}{n:Nat}{F:Fm}{H:Hp}
end
structure ai where
 name:(List UInt8)
 path:(List Int)
abbrev ai.c(x:ai):List V:=[.str x.name,.row 1 (List.map (V.int .i64) x.path)]
abbrev ai.w(x:ai):V:=.agg x.c
structure aF where
 Path:(List Int)
 Binder:(List Int)
 Free:Bool
abbrev aF.c(x:aF):List V:=[.row 1 (List.map (V.int .i64) x.Path),.row 1 (List.map (V.int .i64) x.Binder),.bool x.Free]
abbrev aF.w(x:aF):V:=.agg x.c
def ot(E:Tree)(G:Bool):Prop:=qS 94 [.agg<|an E]<|.bool G
def pZ(E:Tree)(G:List ai):Prop:=cb [] prog 95 [.agg<|an E] ⟨0,[]⟩<|z7 (.sl 0) ⟨1,[(0,.row 189 2<|List.map ai.w G)]⟩
def kI(E:List ai)(G:YB)(J:YI)(U:Bool):Prop:=cb [0] prog 148 [.sl 0,.str G] ⟨1,[(0,.row 189 2<|List.map ai.w E)]⟩<|z7 (.tup [.row 1<|List.map (V.int .i64) J,.bool U]) ⟨1,[(0,.row 189 2<|List.map ai.w E)]⟩
def mJ(E:Tree)(G:List aF):Prop:=qS 54 [.agg<|an E]<|.row 3<|List.map aF.w G
def eF(a:List ai)(e:YI)(b:List aF)(E:Tree)(c:List ai)(f:YI)(d:List aF):Prop:=cb [] prog 96 [.ptr 0 0,.agg<|an E] ⟨4,[(3,.row 102 3<|List.map aF.w b),(2,.row 3 1<|List.map (V.int .i64) e),(1,.row 189 2<|List.map ai.w a),(0,.var 148 [.sl 1,.sl 2,.sl 3])]⟩<|z7 (.tup []) ⟨4,[(3,.row 102 3<|List.map aF.w d),(2,.row 3 1<|List.map (V.int .i64) f),(1,.row 189 2<|List.map ai.w c),(0,.var 148 [.sl 1,.sl 2,.sl 3])]⟩
theorem zy(m:Nat)(E:Tree)(G:Bool)(h:((E.kind=2)->∃a,fP E a∧a=G)∧((E.kind≠2)->false=G)):ot E G:=by
 refine⟨I,I,?_⟩;refine qA 10 [] func94 λK J=>?_;refine gR 3 rfl<|gFP 0 rfl rfl rfl rfl<|gR 9 rfl<|qBeZ 6 5 rfl rfl rfl rfl h ?_ ?_<;>intro h;refine gR 1 I ?_;obtain⟨a,b,h⟩:=h;refine qC0 b I<|gR 5 I ?_;subst h;exact qN [.tmp 2];refine gR 7 I ?_;subst h;exact qN [.tmp 2]
def lc(m:Nat)(E:Tree)(a:List ai)(b:Int)(G:List ai):Prop:=z8 m [] f95 (z7 (.sl 0) ⟨1,[(0,.row 189 2<|List.map ai.w G)]⟩) (xI<|xA<|ab f95) [.blk 0,.seq<|xH<|ab f95] 26 [(1,.box (an E) 0),(3,.sl 0),(4,qi b)] ⟨1,[(0,.row 189 2<|List.map ai.w a)]⟩
theorem Bu(m:Nat)(p0:Tree)(r0:List ai)(h:lc m p0 ([]:List ai) ((p0.kids.length:Int)-3) r0):pZ p0 r0:=by
 refine qA 26 [] func95 λK hK=>?_;exact gR 3 I<|gFP 0 I I I I<|gR 14 I<|gV 7 (qi (p0.kids.length:Int)) I (aN<|aO _) I<|gLB 6 I (aO _) λa=>gR 1 I<|gV 8 (qi<|(p0.kids.length:Int)-3) I (am (by have :=a;omega) I) I<|gR 4 I<|go_loop m<|gNS 3 189 2 I I I I<|qW hK h [1]
theorem sh(m:Nat)(E:Tree)(b:List ai)(a:Int)(G:List ai)(h:y6 (0<=a) (∃d,a=((d:Nat):Int)∧∃c,E.kids[d]?=some c∧(b++[(ai.mk c.text [a])]).length<=1000000000∧InI (a-1)∧lc m E (b++[(ai.mk c.text [a])]) (a-1) G)<|b=G):lc (m+1) E b a G:=by
 refine qj λK U J g=>?_;refine gR 7 rfl<|qXd 10 rfl rfl rfl h ?_ ?_<;>intro Z h;refine gR 10 I ?_;obtain⟨d,f,h⟩:=h;refine gV 16 (qi ((d:Nat):Int)) I (bc f) I ?_;obtain⟨c,e,h⟩:=h;refine gY (ax (aB e) ac I I I I) I I<|gR 5 I<|gFR 1 I I I I<|gR 1 I ?_;obtain⟨hb,h⟩:=h;refine gDo (.repl 0<|.row 189 2<|List.map ai.w<|b++[(ai.mk c.text [a])]) (bq ac I I I I I (apM ai.w b<|ai.mk c.text [a]) (by rw[az];exact hb)) (okR I) I I I<|gR 6 I ?_;obtain⟨hb,h⟩:=h;exact gR 1 I<|gV 12 (qi<|a-1) I (am hb I) I<|gR 2 I<|go_xloop<|qW J h [3];refine gR 3 I<|go_xloopE<|gR 9 I ?_;subst h;exact gE J [] [(2,.sl 0)] [0] [.tmp 2]
def gi(m:Nat)(E:List ai)(G:YB)(a:Int)(J:YI)(U:Bool):Prop:=z8 m [0] f148 (z7 (.tup [.row 1<|List.map (V.int .i64) J,.bool U]) ⟨1,[(0,.row 189 2<|List.map ai.w E)]⟩) (xI<|cB<|ab f148) [.blk 0,.seq<|xA<|ab f148] 27 [(0,.sl 0),(1,.str G),(6,qi a)] ⟨1,[(0,.row 189 2<|List.map ai.w E)]⟩
theorem xd(m:Nat)(p0:List ai)(p1:YB)(r0:YI)(r1:Bool)(h:gi m p0 p1 ((p0.length:Int)-1) r0 r1):kI p0 p1 r0 r1:=by
 refine qA 27 [0] func148 λK hK=>?_;exact gR 11 I<|gV 8 (qi (p0.length:Int)) I (aN<|az ai.w _) I<|gLO 0 I (az ai.w _) λa=>gR 1 I<|gV 9 (qi<|(p0.length:Int)-1) I (am (by have :=a;omega) I) I<|gR 4 I<|go_loop m<|qW hK h [0]
theorem oC(m:Nat)(E:List ai)(U:YB)(a:Int)(G:YI)(J:Bool)(h:y6 (0<=a) (∃b,a=((b:Nat):Int)∧∃c,E[b]?=some c∧y9 c.name U (∃d,a=((d:Nat):Int)∧∃j,E[d]?=some j∧∃e,pW j.path e∧e=G∧true=J) (InI (a-1)∧gi m E U (a-1) G J))<|[]=G∧false=J):gi (m+1) E U a G J:=by
 refine qj λK j1 Z o=>?_;refine gR 7 rfl<|qXd 11 rfl rfl rfl h ?_ ?_<;>intro hd h;refine gR 9 I ?_;obtain⟨b,k,h⟩:=h;refine gV 15 (qi ((b:Nat):Int)) I (bc k) I ?_;obtain⟨c,g,h⟩:=h;refine gY (yIO ac I I I I<|qG<|av (f:=ai.w) g) I I ?_;refine gR 1 rfl<|gDo (.nop) (dLe ac rfl rfl rfl (av (f:=ai.w) g) rfl) trivial rfl rfl rfl<|gR 4 rfl<|qXe 20 rfl rfl rfl h ?_ ?_<;>intro hd h;refine gR 5 I ?_;obtain⟨d,l,h⟩:=h;refine gV 22 (qi ((d:Nat):Int)) I (bc l) I ?_;obtain⟨j,i,h⟩:=h;refine gY (yIO ac I I I I<|qG<|av (f:=ai.w) i) I I ?_;refine gR 1 I<|gDo (.nop) (dLe ac I I I (av (f:=ai.w) i) I) trivial I I I ?_;obtain⟨e,n,h⟩:=h;refine qC0 n I<|gR 7 I<|go_xloopR<|gR 2 I ?_;obtain⟨rfl,rfl⟩:=h;exact gE Z [] [(4,.row 1<|List.map (V.int .i64) e),(5,.bool true)] [0] [.tmp 4,.tmp 5];refine gR 6 I ?_;obtain⟨hb,h⟩:=h;exact gR 1 I<|gV 13 (qi<|a-1) I (am hb I) I<|gR 2 I<|go_xloop<|qW Z h [0];refine gR 3 I<|go_xloopE<|gR 9 I ?_;obtain⟨rfl,rfl⟩:=h;exact gE Z [] [(4,.row 1<|List.map (V.int .i64) []),(5,.bool false)] [0] [.tmp 4,.tmp 5] ⟨⟨_,I,(.nil 1)⟩,⟨_,I,.rfl⟩,trivial⟩
theorem yM(m:Nat)(E:Tree)(G:List aF)(h:∃c,ot E c∧((c=false)->[]=G)∧((c=true)->∃a,pZ E a∧∃d,((E.kids.length:Int)-1)=((d:Nat):Int)∧∃g,E.kids[d]?=some g∧∃e f b,eF a [((E.kids.length:Int)-1)] ([]:List aF) g e f b∧b=G)):mJ E G:=by
 refine⟨I,I,?_⟩;refine qA 25 [] func54 λK J=>?_;refine gR 3 I<|gFP 0 I I I I<|gR 7 I ?_;obtain⟨c,k,h⟩:=h;refine qC0 k rfl<|gR 3 rfl<|qXh 7 rfl rfl rfl h bz bx ?_ ?_<;>intro U h;refine gR 8 I ?_;subst h;exact go_sub (F':=(mkF 25 0 [(2,.row 3<|List.map aF.w [])])) (H':=⟨0,[]⟩) [] [] I J ⟨⟨_,I,(.nil 3)⟩,trivial⟩ trivial I<|qN [.tmp 2];refine gR 8 I<|gV 10 (qi (E.kids.length:Int)) I (aN<|aO _) I<|gLB 9 I (aO _) λl=>gR 1 I<|gV 11 (qi<|(E.kids.length:Int)-1) I (am (by have :=l;omega) I) I<|gR 6 I ?_;obtain⟨a,n,h⟩:=h;refine qC n [] ?_;refine gHR 1 (List.map ai.w a) I (dH _ ai.w (λ_=>I) a) I<|gR 12 I ?_;obtain⟨d,j,h⟩:=h;refine gV 19 (qi ((d:Nat):Int)) I (bc j) I ?_;obtain⟨g,i,h⟩:=h;refine gY (ax (aB i) ac I I I I) I I<|gR 1 I<|gNC 3 2 102 3 I I I I ?_;obtain⟨e,f,b,o,h⟩:=h;refine qC o [3,1,2,4] ?_;refine gHR 6 (List.map ai.w e) I (dH _ ai.w (λ_=>I) e) I<|gHR 7 (List.map (V.int .i64) f) I (dH _ (V.int .i64) (λ_=>I) f) I<|gHR 8 (List.map aF.w b) I (dH _ aF.w (λ_=>I) b) I<|gR 10 I<|gFR 8 I (eG _ (λ_=>I) _) I I ?_;subst h;exact qN [.tmp 2]
def co(m:Nat)(E:Tree)(d:List aF)(e:List ai)(f:YI)(g:Nat)(a:List ai)(c:YI)(b:List aF):Prop:=z8 m [0] f96 (z7 (.tup []) ⟨4,[(3,.row 102 3<|List.map aF.w b),(2,.row 3 1<|List.map (V.int .i64) c),(1,.row 189 2<|List.map ai.w a),(0,.var 148 [.sl 1,.sl 2,.sl 3])]⟩) (xK<|xH<|ab f96) [.blk 0] 116 [(0,.ptr 0 0),(3,.box (an E) 0),(41,.row 4<|kidsV E.kids),(42,qi (E.kids.length:Int)),(43,qi (g:Int))] ⟨4,[(3,.row 102 3<|List.map aF.w d),(2,.row 3 1<|List.map (V.int .i64) f),(1,.row 189 2<|List.map ai.w e),(0,.var 148 [.sl 1,.sl 2,.sl 3])]⟩
def dY(m:Nat)(E:Tree)(d:List aF)(e:Tree)(f:List ai)(g:YI)(i:Nat)(j:Bool)(k:Nat)(a:List ai)(c:YI)(b:List aF):Prop:=∀(K:Ctx) (G:Nat),au K [0]->m<=G->qLG K f96 (z7 (.tup []) ⟨4,[(3,.row 102 3<|List.map aF.w b),(2,.row 3 1<|List.map (V.int .i64) c),(1,.row 189 2<|List.map ai.w a),(0,.var 148 [.sl 1,.sl 2,.sl 3])]⟩) (xA<|cK<|cA<|xA<|xK<|xH<|ab f96) [.blk 1,.seq<|xH<|xK<|xH<|ab f96,.loop (xK<|xH<|ab f96) G,.blk 0] 116 (mkF 116 0 [(0,.ptr 0 0),(3,.box (an E) 0),(6,qi (i:Int)),(7,.ptr 1 0),(8,.bool j),(41,.row 4<|kidsV E.kids),(42,qi (E.kids.length:Int)),(43,qi (k:Int))]) ⟨5,[(4,.row 102 3<|List.map aF.w d),(3,.row 3 1<|List.map (V.int .i64) g),(2,.row 189 2<|List.map ai.w f),(1,.var 26<|an e),(0,.var 148 [.sl 2,.sl 3,.sl 4])]⟩
def gz(m:Nat)(E:Tree)(d:List aF)(e:Tree)(f:List ai)(g:YI)(i:Nat)(j:Bool)(k:Nat)(a:List ai)(c:YI)(b:List aF):Prop:=∀(K:Ctx) (G:Nat),au K [0]->m<=G->qLG K f96 (z7 (.tup []) ⟨4,[(3,.row 102 3<|List.map aF.w b),(2,.row 3 1<|List.map (V.int .i64) c),(1,.row 189 2<|List.map ai.w a),(0,.var 148 [.sl 1,.sl 2,.sl 3])]⟩) (xH<|cK<|cA<|xA<|xK<|xH<|ab f96) [.blk 1,.seq<|xH<|xK<|xH<|ab f96,.loop (xK<|xH<|ab f96) G,.blk 0] 116 (mkF 116 0 [(0,.ptr 0 0),(3,.box (an E) 0),(6,qi (i:Int)),(7,.ptr 1 0),(8,.bool j),(41,.row 4<|kidsV E.kids),(42,qi (E.kids.length:Int)),(43,qi (k:Int))]) ⟨5,[(4,.row 102 3<|List.map aF.w d),(3,.row 3 1<|List.map (V.int .i64) g),(2,.row 189 2<|List.map ai.w f),(1,.var 26<|an e),(0,.var 148 [.sl 2,.sl 3,.sl 4])]⟩
theorem sy(m:Nat)(a:List ai)(c:YI)(b:List aF)(p1:Tree)(d:List ai)(f:YI)(e:List aF)(h:y9 p1.kind 12 (∃g i,kI a p1.text g i∧∃j,gK c j∧(b++[(aF.mk j g<|!i)]).length<=1000000000∧co m p1 (b++[(aF.mk j g<|!i)]) a c 0 d f e)<|co m p1 b a c 0 d f e):eF a c b p1 d f e:=by
 refine qA 116 [0] func96 λK hK=>?_;refine gR 3 rfl<|gFP 4 rfl rfl rfl rfl<|gR 10 rfl<|qXe 11 rfl rfl rfl h ?_ ?_<;>intro hd h;refine gR 2 I<|qDs [0] 6 12<|qDr (qR 0 3 2 [(3,3),(4,0),(5,0)]) I I ?_;obtain⟨g,i,k,h⟩:=h;refine Tw 6 k [1] (by kernel_rfl) I (by kernel_rfl) I I .rfl ⟨⟨_,I,⟨I,I,(dH _ ai.w (λ_=>I) a).symm⟩⟩,trivial⟩ I (by kernel_rfl) ?_;rintro _ _ ⟨rfl,rfl⟩;refine gHR 1 (List.map ai.w a) I (dH _ ai.w (λ_=>I) a) I<|qDr [(7,1),(8,2),(9,2),(10,1),(11,1)] I I<|qDe<|gR 1 I<|qDs [0] 18 19<|qDr (qR 0 4 2<|(4,3)::(qR 5 3 2<|(8,3)::(qR 10 3 2 []))) I I ?_;obtain⟨j,l,h⟩:=h;refine qDC 9 l [2] I ?_;refine gHR 2 (List.map (V.int .i64) c) I (dH _ (V.int .i64) (λ_=>I) c) I<|qDr [(13,0),(14,0)] I I ?_;obtain⟨hb,h⟩:=h;refine bW 15 (.repl 3<|.row 102 3<|List.map aF.w<|b++[(aF.mk j g<|!i)]) I (by kernel_rfl) (bq ac I I I I I (apM aF.w b<|aF.mk j g<|!i) (by rw[az];exact hb)) (okR I) I (by kernel_rfl) I I ?_;exact qDr [(16,0),(17,0),(18,1)] I I<|qDe<|gR 6 I<|gV 42 (qi (p1.kids.length:Int)) I (aN<|aO _) I<|gLB 41 I (aO _) λn=>gR 4 I<|go_loop m<|qW hK h [0,1,2,8];exact gR 8 I<|gV 42 (qi (p1.kids.length:Int)) I (aN<|aO _) I<|gLB 41 I (aO _) λo=>gR 4 I<|go_loop m<|qW hK h [0,1,2,3]
theorem lf(m:Nat)(E:Tree)(e:List aF)(f:List ai)(g:YI)(c:Nat)(a:List ai)(d:YI)(b:List aF)(h:y6 (c<E.kids.length) (∃i,E.kids[c]?=some i∧y9 E.kind 20 (dY m E e i f g c ((c:Int)==1) c a d b) (dY m E e i f g c false c a d b))<|f=a∧g=d∧e=b):co (m+1) E e f g c a d b:=by
 refine qj λK U G k=>?_;refine gR 6 rfl<|qXh 44 rfl rfl rfl h bQ bS ?_ ?_<;>intro J h;refine gR 8 I ?_;obtain⟨i,j,h⟩:=h;refine gY (ax (aB j) ac rfl rfl rfl rfl) rfl rfl<|gR 12 rfl<|qXeZ 51 50 rfl rfl rfl rfl h ?_ ?_<;>intro J h;exact gR 6 I<|qW G h [0,4,1,2,3];exact gR 6 I<|qW G h [0,4,1,2,3];refine gR 3 I<|go_xloopE<|gR 1 I ?_;obtain⟨rfl,rfl,rfl⟩:=h;exact gE G [] [] [0,1,2,3] []
theorem kS(m:Nat)(E:Tree)(g:List aF)(i:Tree)(d:List ai)(e:YI)(j:Nat)(k:Bool)(l:Nat)(a:List ai)(c:YI)(b:List aF)(h:y7 k (∃f,gK e f∧(d++[(ai.mk E.text f)]).length<=1000000000∧gz m E g i (d++[(ai.mk E.text f)]) e j true l a c b)<|gz m E g i d e j false l a c b):dY (m+1) E g i d e j k l a c b:=by
 refine qj λK J G o=>?_;refine gR 6 rfl<|qXiZ 55 8 rfl rfl rfl rfl h ?_ ?_<;>intro U h;refine gR 1 I<|qDs [0] 17 18<|qDr (qR 0 4 2<|(4,3)::(5,2)::(6,2)::(qR 7 4 0 [])) I I ?_;obtain⟨f,n,h⟩:=h;refine qDC 11 n [3] I ?_;refine gHR 3 (List.map (V.int .i64) e) I (dH _ (V.int .i64) (λ_=>I) e) I<|qDr [(12,0),(13,0)] I I ?_;obtain⟨hb,h⟩:=h;refine bW 14 (.repl 2<|.row 189 2<|List.map ai.w<|d++[(ai.mk E.text f)]) I (by kernel_rfl) (bq ac I I I I I (apM ai.w d<|ai.mk E.text f) (by rw[az];exact hb)) (okR I) I (by kernel_rfl) I I ?_;exact qDr [(15,0),(16,0),(17,1)] I I<|qDe<|gR 1 I<|qW G h [0,1,7,3,4];exact gR 3 I<|qW G h [0,1,2,3,4]
theorem lb(m:Nat)(E:Tree)(o:List aF)(p:Tree)(q:List ai)(k:YI)(l:Nat)(n:Bool)(e:Nat)(c:List ai)(f:YI)(d:List aF)(h:(k++[(l:Int)]).length<=1000000000∧∃a b i,eF q (k++[(l:Int)]) o p a b i∧∃g,((b.length:Int)-1)=((g:Nat):Int)∧g<=b.length∧y7 n (∃j,((a.length:Int)-1)=((j:Nat):Int)∧j<=a.length∧e+1<=9223372036854775807∧co m E i (a.take j) (b.take g) (e+1) c f d) (e+1<=9223372036854775807∧co m E i a (b.take g) (e+1) c f d)):gz (m+1) E o p q k l n e c f d:=by
 refine qj λK J G y=>?_;refine gR 9 I ?_;obtain⟨hb,h⟩:=h;refine gDo (.repl 3<|.row 3 1<|List.map (V.int .i64)<|k++[(l:Int)]) (bq ac I I I I I (apM (V.int .i64) k (l:Int)) (by rw[az];exact hb)) (okR I) I I I<|gR 9 I ?_;obtain⟨a,b,i,t,h⟩:=h;refine qC t [0,2,6,4] ?_;refine gHR 8 (List.map ai.w a) I (dH _ ai.w (λ_=>I) a) I<|gHR 9 (List.map (V.int .i64) b) I (dH _ (V.int .i64) (λ_=>I) b) I<|gHR 10 (List.map aF.w i) I (dH _ aF.w (λ_=>I) i) I<|gR 3 I<|qDs [0] 14 15<|qDr (qR 0 4 2<|(4,3)::(qR 5 5 0 [])) I I<|gV 95 (qi (b.length:Int)) I (aN<|az (V.int .i64) _) I<|gLO 9 I (az (V.int .i64) _) λv=>qDr [(10,0)] I I<|gV 96 (qi<|(b.length:Int)-1) I (am (by have :=v;omega) I) I ?_;obtain⟨g,r,h⟩:=h;refine gV 96 (qi ((g:Nat):Int)) I (bc r) I ?_;obtain⟨hb,h⟩:=h;refine bW 11 (.repl 9<|.row 3 1<|List.map (V.int .i64)<|b.take g) I (by kernel_rfl) (dTr ac I I I I (by rw[az];exact hb)<|DE _ _ _) (okR I) I (by kernel_rfl) I I ?_;refine qDr [(12,0),(13,0),(14,1)] rfl rfl<|qDe<|gR 6 rfl<|qXiZ 100 8 rfl rfl rfl rfl h ?_ ?_<;>intro U h;refine gR 1 I<|qDs [0] 14 15<|qDr (qR 0 4 2<|(4,3)::(qR 5 5 0 [])) I I<|gV 110 (qi (a.length:Int)) I (aN<|az ai.w _) I<|gLO 8 I (az ai.w _) λx=>qDr [(10,0)] I I<|gV 111 (qi<|(a.length:Int)-1) I (am (by have :=x;omega) I) I ?_;obtain⟨j,s,h⟩:=h;refine gV 111 (qi ((j:Nat):Int)) I (bc s) I ?_;obtain⟨hb,h⟩:=h;refine bW 11 (.repl 8<|.row 189 2<|List.map ai.w<|a.take j) I (by kernel_rfl) (dTr ac I I I I (by rw[az];exact hb)<|DE _ _ _) (okR I) I (by kernel_rfl) I I ?_;refine qDr [(12,0),(13,0),(14,1)] I I<|qDe<|gR 3 I ?_;obtain⟨hb,h⟩:=h;exact gR 1 I<|gV 115 (qi ((e+1:Nat):Int)) I (am (by omega)<|by omega) I<|gR 2 I<|go_xloop<|qW G h [0,12,11,10];refine gR 5 I ?_;obtain⟨hb,h⟩:=h;exact gR 1 I<|gV 115 (qi ((e+1:Nat):Int)) I (am (by omega)<|by omega) I<|gR 2 I<|go_xloop<|qW G h [0,8,11,10]
end Go.Proofs.YtehhanlhfdoiaaaGreat
