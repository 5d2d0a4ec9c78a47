/- Contracts of the functions that the law reaches, part 3. -/
import Derived.Test.YtehhanlhfdoiaaaGreatBq2
set_option linter.unusedVariables false
set_option linter.unusedSimpArgs false
namespace Go.Proofs.YtehhanlhfdoiaaaGreat
open _root_.Go.Proofs.Tryz
open Go.RowKit Lx
set_option maxRecDepth 100000
theorem qmm{P:Program}{f:FuncId}{a:Array Value}{w:World}{v:Ending}{Q:Ending->World->Prop}(h:Calls P f a w λe w'=>e=v∧w=w')(k:Q v w):Calls P f a w Q:=h.mono λe w' z=>by obtain⟨rfl,rfl⟩:=z;exact k
variable{w':World}
theorem qEx{w:World}(h:Ext w w':=by repeat (first|exact Ext.refl _|apply Ext.alloc|(refine Ext.setCell ?_ (aaf _) _))):Ext w w':=h
variable{b:Bool}
theorem aW{a:Bool}(h:a=b):Ending.returned (.bool a)=.returned (.bool b):=by rw[h]
variable{a:Int}
theorem bu{k:IntKind}{b:Int}(h:a=b):Ending.returned (.int k a)=.returned (.int k b):=by rw[h]
theorem xk(n m:Nat):((n:Int)==(m:Int))=(n==m):=by rw[Bool.eq_iff_iff];simp;omega
theorem ea(c:UInt8)(w:World):Calls prog 172 #[.int .u8 (c.toNat:Int)] w λe w'=>e=.returned (.bool<|cF c)∧w=w':=by
 go_enter func172,ntmps172
 go_wp2<;>(go_ret;go_light;refine⟨aW ?_,rfl⟩;(first|rw[Bool.eq_iff_iff]|skip);simp_all[cF]<;>omega)
theorem cg(c:UInt8)(w:World):Calls prog 208 #[.int .u8 (c.toNat:Int)] w λe w'=>e=.returned (.bool<|cF c)∧w=w':=by
 go_enter func208,ntmps208
 go_wp2<;>(go_ret;go_light;refine⟨aW ?_,rfl⟩;(first|rw[Bool.eq_iff_iff]|skip);simp_all[cF]<;>omega)
theorem ek(c:UInt8)(w:World):Calls prog 173 #[.int .u8 (c.toNat:Int)] w λe w'=>e=.returned (.bool<|upperB c)∧w=w':=by
 go_enter func173,ntmps173
 go_wp2<;>(go_ret;go_light;refine⟨aW ?_,rfl⟩;(first|rw[Bool.eq_iff_iff]|skip);simp_all[upperB]<;>omega)
theorem aZ(c:UInt8)(w:World):Calls prog 209 #[.int .u8 (c.toNat:Int)] w λe w'=>e=.returned (.bool<|upperB c)∧w=w':=by
 go_enter func209,ntmps209
 go_wp2<;>(go_ret;go_light;refine⟨aW ?_,rfl⟩;(first|rw[Bool.eq_iff_iff]|skip);simp_all[upperB]<;>omega)
theorem dP(c:UInt8)(w:World):Calls prog 131 #[.int .u8 (c.toNat:Int)] w λe w'=>e=.returned (.bool<|bD c)∧w=w':=by
 go_enter func131,ntmps131
 go_wp2<;>(go_ret;go_light;refine⟨aW ?_,rfl⟩;(first|rw[Bool.eq_iff_iff]|skip);simp_all[bD]<;>omega)
theorem dt(c:UInt8)(w:World):Calls prog 207 #[.int .u8 (c.toNat:Int)] w λe w'=>e=.returned (.bool<|bD c)∧w=w':=by
 go_enter func207,ntmps207
 go_wp2<;>(go_ret;go_light;refine⟨aW ?_,rfl⟩;(first|rw[Bool.eq_iff_iff]|skip);simp_all[bD]<;>omega)
theorem gH(c:UInt8)(w:World):Calls prog 80 #[.int .u8 (c.toNat:Int)] w λe w'=>e=.returned (.bool<|bL c)∧w=w':=by
 go_enter func80,ntmps80
 go_wp2<;>(go_ret;go_light;refine⟨aW ?_,rfl⟩;(first|rw[Bool.eq_iff_iff]|skip);simp_all[bL]<;>omega)
theorem ku(c:UInt8)(w:World):Calls prog 191 #[.int .u8 (c.toNat:Int)] w λe w'=>e=.returned (.bool<|bL c)∧w=w':=by
 go_enter func191,ntmps191
 go_wp2<;>(go_ret;go_light;refine⟨aW ?_,rfl⟩;(first|rw[Bool.eq_iff_iff]|skip);simp_all[bL]<;>omega)
theorem bU(c:UInt8)(w:World):Calls prog 206 #[.int .u8 (c.toNat:Int)] w λe w'=>e=.returned (.bool<|dW c)∧w=w':=by
 go_enter func206,ntmps206
 go_wp2<;>(go_ret;go_light;refine⟨aW ?_,rfl⟩;(first|rw[Bool.eq_iff_iff]|skip);simp_all[dW]<;>omega)
theorem br(c:UInt8)(w:World):Calls prog 129 #[.int .u8 (c.toNat:Int)] w λe w'=>e=.returned (.bool<|bm c)∧w=w':=by
 cases E:cF c<;>cases h1:upperB c
 all_goals
  go_enter func129,ntmps129
  go_wp2_with (first|(go_at_call 172;refine qmm (ea _ _) ?_)|(go_at_call 173;refine qmm (ek _ _) ?_))
  all_goals (go_ret;go_light;refine⟨aW ?_,rfl⟩;(first|(simp[bm,E,h1];done)|with_reducible exact xk _ _|((first|rw[Bool.eq_iff_iff]|skip);simp_all[bm]<;>omega)))
theorem bb(c:UInt8)(w:World):Calls prog 81 #[.int .u8 (c.toNat:Int)] w λe w'=>e=.returned (.bool<|aS c)∧w=w':=by
 cases E:bL c
 all_goals
  go_enter func81,ntmps81
  go_wp2_with (first|(go_at_call 80;refine qmm (gH _ _) ?_))
  all_goals (go_ret;go_light;refine⟨aW ?_,rfl⟩;(first|(simp[aS,dW,bL,E];done)|with_reducible exact xk _ _|((first|rw[Bool.eq_iff_iff]|skip);simp_all[aS,dW,bL]<;>omega)))
theorem be(c:UInt8)(w:World):Calls prog 205 #[.int .u8 (c.toNat:Int)] w λe w'=>e=.returned (.bool<|aS c)∧w=w':=by
 cases E:bL c<;>cases h1:dW c
 all_goals
  go_enter func205,ntmps205
  go_wp2_with (first|(go_at_call 191;refine qmm (ku _ _) ?_)|(go_at_call 206;refine qmm (bU _ _) ?_))
  all_goals (go_ret;go_light;refine⟨aW ?_,rfl⟩;(first|(simp[aS,E,h1];done)|with_reducible exact xk _ _|((first|rw[Bool.eq_iff_iff]|skip);simp_all[aS]<;>omega)))
theorem sN(c:UInt8)(w:World):Calls prog 218 #[.int .u8 (c.toNat:Int)] w λe w'=>e=.returned (.bool<|bi c)∧w=w':=by
 cases E:cF c<;>cases h1:upperB c<;>cases h2:bD c
 all_goals
  go_enter func218,ntmps218
  go_wp2_with (first|(go_at_call 208;refine qmm (cg _ _) ?_)|(go_at_call 209;refine qmm (aZ _ _) ?_)|(go_at_call 207;refine qmm (dt _ _) ?_))
  all_goals (go_ret;go_light;refine⟨aW ?_,rfl⟩;(first|(simp[bi,bm,E,h1,h2];done)|with_reducible exact xk _ _|((first|rw[Bool.eq_iff_iff]|skip);simp_all[bi,bm]<;>omega)))
theorem Hz(w:World):Calls prog 175 #[.string ⟨([109,111,100,117,108,101]:YB).toArray⟩] w λe w'=>e=.returned (.bool true)∧w=w':=by
 go_enter func175,ntmps175
 go_wp2
 go_ret
 exact⟨I,I⟩
theorem Jm(w:World):Calls prog 175 #[.string ⟨([100,101,102]:YB).toArray⟩] w λe w'=>e=.returned (.bool true)∧w=w':=by
 go_enter func175,ntmps175
 go_wp2
 go_ret
 exact⟨I,I⟩
theorem IQ(w:World):Calls prog 175 #[.string ⟨([116,121,112,101]:YB).toArray⟩] w λe w'=>e=.returned (.bool true)∧w=w':=by
 go_enter func175,ntmps175
 go_wp2
 go_ret
 exact⟨I,I⟩
theorem Hx(w:World):Calls prog 175 #[.string ⟨([108,101,116]:YB).toArray⟩] w λe w'=>e=.returned (.bool true)∧w=w':=by
 go_enter func175,ntmps175
 go_wp2
 go_ret
 exact⟨I,I⟩
theorem Js(w:World):Calls prog 175 #[.string ⟨([105,110]:YB).toArray⟩] w λe w'=>e=.returned (.bool true)∧w=w':=by
 go_enter func175,ntmps175
 go_wp2
 go_ret
 exact⟨I,I⟩
theorem Ix(w:World):Calls prog 175 #[.string ⟨([105,102]:YB).toArray⟩] w λe w'=>e=.returned (.bool true)∧w=w':=by
 go_enter func175,ntmps175
 go_wp2
 go_ret
 exact⟨I,I⟩
theorem Ja(w:World):Calls prog 175 #[.string ⟨([116,104,101,110]:YB).toArray⟩] w λe w'=>e=.returned (.bool true)∧w=w':=by
 go_enter func175,ntmps175
 go_wp2
 go_ret
 exact⟨I,I⟩
theorem Iu(w:World):Calls prog 175 #[.string ⟨([101,108,115,101]:YB).toArray⟩] w λe w'=>e=.returned (.bool true)∧w=w':=by
 go_enter func175,ntmps175
 go_wp2
 go_ret
 exact⟨I,I⟩
theorem Iz(w:World):Calls prog 175 #[.string ⟨([116,114,117,101]:YB).toArray⟩] w λe w'=>e=.returned (.bool true)∧w=w':=by
 go_enter func175,ntmps175
 go_wp2
 go_ret
 exact⟨I,I⟩
theorem Jp(w:World):Calls prog 175 #[.string ⟨([102,97,108,115,101]:YB).toArray⟩] w λe w'=>e=.returned (.bool true)∧w=w':=by
 go_enter func175,ntmps175
 go_wp2
 go_ret
 exact⟨I,I⟩
theorem FY(w:World):Calls prog 175 #[.string ⟨([73,110,116]:YB).toArray⟩] w λe w'=>e=.returned (.bool true)∧w=w':=by
 go_enter func175,ntmps175
 go_wp2
 go_ret
 exact⟨I,I⟩
theorem Gb(w:World):Calls prog 175 #[.string ⟨([84,101,120,116]:YB).toArray⟩] w λe w'=>e=.returned (.bool true)∧w=w':=by
 go_enter func175,ntmps175
 go_wp2
 go_ret
 exact⟨I,I⟩
theorem Gf(w:World):Calls prog 175 #[.string ⟨([66,111,111,108]:YB).toArray⟩] w λe w'=>e=.returned (.bool true)∧w=w':=by
 go_enter func175,ntmps175
 go_wp2
 go_ret
 exact⟨I,I⟩
theorem Gp(l:YB)(w:World)(O:(l==[109,111,100,117,108,101])=false)(U:(l==[100,101,102])=false)(Z:(l==[116,121,112,101])=false)(b3:(l==[108,101,116])=false)(b4:(l==[105,110])=false)(b5:(l==[105,102])=false)(b6:(l==[116,104,101,110])=false)(b7:(l==[101,108,115,101])=false)(b8:(l==[116,114,117,101])=false)(b9:(l==[102,97,108,115,101])=false)(E:(l==[73,110,116])=false)(G:(l==[84,101,120,116])=false)(J:(l==[66,111,111,108])=false):Calls prog 175 #[.string ⟨l.toArray⟩] w λe w'=>e=.returned (.bool false)∧w=w':=by
 go_enter func175,ntmps175
 go_wp2
 go_ret
 exact⟨I,I⟩
theorem cj(l:YB)(w:World):Calls prog 175 #[.string ⟨l.toArray⟩] w λe w'=>e=.returned (.bool<|lh l)∧w=w':=by
 by_cases O:l=[109,111,100,117,108,101]
 ·subst O;exact Hz w
 by_cases h1:l=[100,101,102]
 ·subst h1;exact Jm w
 by_cases h2:l=[116,121,112,101]
 ·subst h2;exact IQ w
 by_cases U:l=[108,101,116]
 ·subst U;exact Hx w
 by_cases Z:l=[105,110]
 ·subst Z;exact Js w
 by_cases h5:l=[105,102]
 ·subst h5;exact Ix w
 by_cases h6:l=[116,104,101,110]
 ·subst h6;exact Ja w
 by_cases h7:l=[101,108,115,101]
 ·subst h7;exact Iu w
 by_cases h8:l=[116,114,117,101]
 ·subst h8;exact Iz w
 by_cases h9:l=[102,97,108,115,101]
 ·subst h9;exact Jp w
 by_cases E:l=[73,110,116]
 ·subst E;exact FY w
 by_cases G:l=[84,101,120,116]
 ·subst G;exact Gb w
 by_cases J:l=[66,111,111,108]
 ·subst J;exact Gf w
 have hr:lh l=false:=by simp[lh,Iy,O,h1,h2,U,Z,h5,h6,h7,h8,h9,E,G,J]
 rw[hr];exact Gp l w (by simpa using O) (by simpa using h1) (by simpa using h2) (by simpa using U) (by simpa using Z) (by simpa using h5) (by simpa using h6) (by simpa using h7) (by simpa using h8) (by simpa using h9) (by simpa using E) (by simpa using G) (by simpa using J)
theorem Ie(w:World):Calls prog 217 #[.string ⟨([109,111,100,117,108,101]:YB).toArray⟩] w λe w'=>e=.returned (.bool true)∧w=w':=by
 go_enter func217,ntmps217
 go_wp2
 go_ret
 exact⟨I,I⟩
theorem HV(w:World):Calls prog 217 #[.string ⟨([100,101,102]:YB).toArray⟩] w λe w'=>e=.returned (.bool true)∧w=w':=by
 go_enter func217,ntmps217
 go_wp2
 go_ret
 exact⟨I,I⟩
theorem HY(w:World):Calls prog 217 #[.string ⟨([116,121,112,101]:YB).toArray⟩] w λe w'=>e=.returned (.bool true)∧w=w':=by
 go_enter func217,ntmps217
 go_wp2
 go_ret
 exact⟨I,I⟩
theorem IJ(w:World):Calls prog 217 #[.string ⟨([108,101,116]:YB).toArray⟩] w λe w'=>e=.returned (.bool true)∧w=w':=by
 go_enter func217,ntmps217
 go_wp2
 go_ret
 exact⟨I,I⟩
theorem Hy(w:World):Calls prog 217 #[.string ⟨([105,110]:YB).toArray⟩] w λe w'=>e=.returned (.bool true)∧w=w':=by
 go_enter func217,ntmps217
 go_wp2
 go_ret
 exact⟨I,I⟩
theorem Je(w:World):Calls prog 217 #[.string ⟨([105,102]:YB).toArray⟩] w λe w'=>e=.returned (.bool true)∧w=w':=by
 go_enter func217,ntmps217
 go_wp2
 go_ret
 exact⟨I,I⟩
theorem IC(w:World):Calls prog 217 #[.string ⟨([116,104,101,110]:YB).toArray⟩] w λe w'=>e=.returned (.bool true)∧w=w':=by
 go_enter func217,ntmps217
 go_wp2
 go_ret
 exact⟨I,I⟩
theorem Jd(w:World):Calls prog 217 #[.string ⟨([101,108,115,101]:YB).toArray⟩] w λe w'=>e=.returned (.bool true)∧w=w':=by
 go_enter func217,ntmps217
 go_wp2
 go_ret
 exact⟨I,I⟩
theorem IE(w:World):Calls prog 217 #[.string ⟨([116,114,117,101]:YB).toArray⟩] w λe w'=>e=.returned (.bool true)∧w=w':=by
 go_enter func217,ntmps217
 go_wp2
 go_ret
 exact⟨I,I⟩
theorem Jq(w:World):Calls prog 217 #[.string ⟨([102,97,108,115,101]:YB).toArray⟩] w λe w'=>e=.returned (.bool true)∧w=w':=by
 go_enter func217,ntmps217
 go_wp2
 go_ret
 exact⟨I,I⟩
theorem Gd(w:World):Calls prog 217 #[.string ⟨([73,110,116]:YB).toArray⟩] w λe w'=>e=.returned (.bool true)∧w=w':=by
 go_enter func217,ntmps217
 go_wp2
 go_ret
 exact⟨I,I⟩
theorem Ga(w:World):Calls prog 217 #[.string ⟨([84,101,120,116]:YB).toArray⟩] w λe w'=>e=.returned (.bool true)∧w=w':=by
 go_enter func217,ntmps217
 go_wp2
 go_ret
 exact⟨I,I⟩
theorem Gq(w:World):Calls prog 217 #[.string ⟨([66,111,111,108]:YB).toArray⟩] w λe w'=>e=.returned (.bool true)∧w=w':=by
 go_enter func217,ntmps217
 go_wp2
 go_ret
 exact⟨I,I⟩
theorem Ge(l:YB)(w:World)(O:(l==[109,111,100,117,108,101])=false)(U:(l==[100,101,102])=false)(Z:(l==[116,121,112,101])=false)(b3:(l==[108,101,116])=false)(b4:(l==[105,110])=false)(b5:(l==[105,102])=false)(b6:(l==[116,104,101,110])=false)(b7:(l==[101,108,115,101])=false)(b8:(l==[116,114,117,101])=false)(b9:(l==[102,97,108,115,101])=false)(E:(l==[73,110,116])=false)(G:(l==[84,101,120,116])=false)(J:(l==[66,111,111,108])=false):Calls prog 217 #[.string ⟨l.toArray⟩] w λe w'=>e=.returned (.bool false)∧w=w':=by
 go_enter func217,ntmps217
 go_wp2
 go_ret
 exact⟨I,I⟩
theorem ds(l:YB)(w:World):Calls prog 217 #[.string ⟨l.toArray⟩] w λe w'=>e=.returned (.bool<|lh l)∧w=w':=by
 by_cases O:l=[109,111,100,117,108,101]
 ·subst O;exact Ie w
 by_cases h1:l=[100,101,102]
 ·subst h1;exact HV w
 by_cases h2:l=[116,121,112,101]
 ·subst h2;exact HY w
 by_cases U:l=[108,101,116]
 ·subst U;exact IJ w
 by_cases Z:l=[105,110]
 ·subst Z;exact Hy w
 by_cases h5:l=[105,102]
 ·subst h5;exact Je w
 by_cases h6:l=[116,104,101,110]
 ·subst h6;exact IC w
 by_cases h7:l=[101,108,115,101]
 ·subst h7;exact Jd w
 by_cases h8:l=[116,114,117,101]
 ·subst h8;exact IE w
 by_cases h9:l=[102,97,108,115,101]
 ·subst h9;exact Jq w
 by_cases E:l=[73,110,116]
 ·subst E;exact Gd w
 by_cases G:l=[84,101,120,116]
 ·subst G;exact Ga w
 by_cases J:l=[66,111,111,108]
 ·subst J;exact Gq w
 have hr:lh l=false:=by simp[lh,Iy,O,h1,h2,U,Z,h5,h6,h7,h8,h9,E,G,J]
 rw[hr];exact Ge l w (by simpa using O) (by simpa using h1) (by simpa using h2) (by simpa using U) (by simpa using Z) (by simpa using h5) (by simpa using h6) (by simpa using h7) (by simpa using h8) (by simpa using h9) (by simpa using E) (by simpa using G) (by simpa using J)
set_option maxHeartbeats 1000000 in
theorem Qi(s:ByteArray)(c:Int)(w:World):Calls prog 176 #[.string s,.int .u8 c] w λe w'=>e=.returned (.int .i64<|Lib.indexByte s.data.toList c.toNat.toUInt8)∧w=w':=by
 go_enter func176,ntmps176
 go_wp2
 rw[run_callFunc_extern func195 (by kernel_rfl) (by kernel_rfl) (by kernel_rfl) (e:=Extern.BytealgIndexByte.indexByte) (by kernel_rfl),Lib.run_indexByteString];simp only[Result.andThen];rw[Oper.upon_value]
 go_wp2
 go_ret
 exact⟨I,I⟩
theorem Ic(s:ByteArray)(c:Int)(w:World):Calls prog 134 #[.string s,.int .u8 c] w λe w'=>e=.returned (.int .i64<|Lib.indexByte s.data.toList c.toNat.toUInt8)∧w=w':=by
 go_enter func134,ntmps134
 go_wp2_with (go_at_call 176;refine qmm (Qi _ _ _) ?_)
 go_ret
 exact⟨I,I⟩
set_option maxHeartbeats 400000 in
theorem gj(l:YB)(w:World)(hl:l.length<=281474976710656):Calls prog 174 #[.string ⟨l.toArray⟩] w λe w'=>e=.returned (.int .i64 (spanN bi l:Nat))∧w=w':=by
 go_enter func174,ntmps174
 go_wp2_with fail
 go_loop [3] (λn=>∃k:Nat,k<=l.length∧n=.int .i64 k∧Hid (spanN bi l=k+spanN bi (l.drop k))) (λn=>l.length-(intOf n).toNat)
 case atStart=>exact⟨0,by omega,rfl,Lib.hid<|by simp⟩
 case round=>
  obtain⟨k,hk,rfl,hrel⟩:=hrel;by_cases hlt:k<l.length
  ·obtain⟨c,hc⟩:∃c,({data:=l.toArray}:ByteArray)[k]'hlt=c:=⟨_,rfl⟩;have HC:=Lib.hid (show l[k]=c from hc)
   go_wp2_with (first|(go_at_call 129;refine qmm (br _ _) ?_)|(go_at_call 131;refine qmm (dP _ _) ?_))
   all_goals go_light
   ·go_round
    case rel=>exact⟨k+1,by omega,by go_num,Lib.hid (by rw[hrel.out,ng hlt HC.out<|wK<|.inl ‹_›];omega)⟩
    case measure=>simp[intOf];omega
   ·go_round
    case rel=>exact⟨k+1,by omega,by go_num,Lib.hid (by rw[hrel.out,ng hlt HC.out<|wK<|.inr<|.inl ‹_›];omega)⟩
    case measure=>simp[intOf];omega
   ·go_round
    case rel=>exact⟨k+1,by omega,by go_num,Lib.hid (by rw[hrel.out,ng hlt HC.out<|wK<|.inr<|.inr ‹_›];omega)⟩
    case measure=>simp[intOf];omega
   ·go_ret
    exact⟨bu (by rw[hrel.out,sH hlt HC.out<|Gk ‹_› ‹_› ‹_›];omega),I⟩
  ·go_wp2_with fail
   go_ret
   exact⟨bu (by rw[hrel.out,uF<|by omega];omega),I⟩
set_option maxHeartbeats 1000000 in
theorem kp(l:YB)(w:World)(hl:l.length<=281474976710656):Calls prog 132 #[.string ⟨l.toArray⟩] w λe w'=>e=.returned (.tuple #[.int .i64 ((eO l).1:Nat),.int .i64 ((eO l).2:Nat)])∧w=w':=by
 go_enter func132,ntmps132
 go_wp2_with fail
 go_loop [4] (λn=>∃k:Nat,k<=l.length∧n=.int .i64 k∧Hid (spanN bD l=k+spanN bD (l.drop k))) (λn=>l.length-(intOf n).toNat)
 case atStart=>exact⟨0,by omega,rfl,Lib.hid<|by simp⟩
 case round=>
  obtain⟨k,hk,rfl,hrel⟩:=hrel;by_cases hlt:k<l.length
  ·obtain⟨c,hc⟩:∃c,({data:=l.toArray}:ByteArray)[k]'hlt=c:=⟨_,rfl⟩;have HC:=Lib.hid<|show l[k]=c from hc;cases hd:bD c
   ·have HN:=Lib.hid (show spanN bD l=k from by rw[hrel.out,sH hlt HC.out hd];omega);have hk0:=hk;by_cases h1:1<k
    ·have h0:0<l.length:=by omega
     obtain⟨c0,hc0⟩:∃c,({data:=l.toArray}:ByteArray)[0]'h0=c:=⟨_,rfl⟩;have HC0:=Lib.hid<|show l[0]=c0 from hc0;cases h48:((c0.toNat:Int)==48)
     ·have HG:=Lib.hid (show 1<k->¬(l.getD 0 0).toNat=48 from λ_=>by rw[aN h0 HC0.out];exact bK (m:=48) h48);by_cases h15:15<k
      ·go_wp2_with (go_at_call 131;refine qmm (dP _ _) ?_)
       go_ret2
       exact⟨by rw[qc HN.out HG.out h15];rfl,I⟩
      ·go_wp2_with (go_at_call 131;refine qmm (dP _ _) ?_)
       go_ret2
       exact⟨by rw[iX HN.out HG.out h15];rfl,I⟩
     ·go_wp2_with (go_at_call 131;refine qmm (dP _ _) ?_)
      go_ret2
      exact⟨by rw[qx HN.out h1 h0 HC0.out h48];rfl,I⟩
    ·go_wp2_with (go_at_call 131;refine qmm (dP _ _) ?_)
     go_ret2
     exact⟨by rw[iX HN.out (λh=>absurd h h1)<|by omega];rfl,I⟩
   ·go_wp2_with (go_at_call 131;refine qmm (dP _ _) ?_)
    go_light
    go_round
    case rel=>exact⟨k+1,by omega,by go_num,Lib.hid (by rw[hrel.out,ng hlt HC.out hd];omega)⟩
    case measure=>simp[intOf];omega
  ·have HN:=Lib.hid (show spanN bD l=k from by rw[hrel.out,uF<|by omega];omega);have hk0:=hk;by_cases h1:1<k
   ·have h0:0<l.length:=by omega
    obtain⟨c0,hc0⟩:∃c,({data:=l.toArray}:ByteArray)[0]'h0=c:=⟨_,rfl⟩;have HC0:=Lib.hid<|show l[0]=c0 from hc0;cases h48:((c0.toNat:Int)==48)
    ·have HG:=Lib.hid (show 1<k->¬(l.getD 0 0).toNat=48 from λ_=>by rw[aN h0 HC0.out];exact bK (m:=48) h48);by_cases h15:15<k
     ·go_wp2_with (go_at_call 131;refine qmm (dP _ _) ?_)
      go_ret2
      exact⟨by rw[qc HN.out HG.out h15];rfl,I⟩
     ·go_wp2_with (go_at_call 131;refine qmm (dP _ _) ?_)
      go_ret2
      exact⟨by rw[iX HN.out HG.out h15];rfl,I⟩
    ·go_wp2_with (go_at_call 131;refine qmm (dP _ _) ?_)
     go_ret2
     exact⟨by rw[qx HN.out h1 h0 HC0.out h48];rfl,I⟩
   ·go_wp2_with (go_at_call 131;refine qmm (dP _ _) ?_)
    go_ret2
    exact⟨by rw[iX HN.out (λh=>absurd h h1)<|by omega];rfl,I⟩
set_option maxHeartbeats 1000000 in
theorem kn(l:YB)(w:World)(h0:0<l.length)(hl:l.length<=281474976710656):Calls prog 133 #[.string ⟨l.toArray⟩] w λe w'=>e=.returned (.tuple #[.int .i64 ((quotedT l.tail 1).1:Nat),.int .i64 ((quotedT l.tail 1).2:Nat)])∧w=w':=by
 obtain⟨r,hr⟩:∃r,quotedT l.tail 1=r:=⟨_,rfl⟩;rw[hr];have HR:=Lib.hid hr;clear hr
 go_enter func133,ntmps133
 go_wp2_with fail
 go_loop [4,5] (λn c=>∃k:Nat,k<=l.length∧n=.int .i64 k∧Hid (r=quotedT (l.drop k) k)) (λn _=>l.length-(intOf n).toNat)
 case atStart=>exact⟨1,by omega,rfl,Lib.hid<|by rw[<-HR.out,List.drop_one]⟩
 case round=>
  obtain⟨k,hk,rfl,hrel⟩:=hrel;by_cases hlt:k<l.length
  ·obtain⟨c,hc⟩:∃c,({data:=l.toArray}:ByteArray)[k]'hlt=c:=⟨_,rfl⟩;have HC:=Lib.hid<|show l[k]=c from hc;have HS:=Lib.hid<|EN hlt HC.out;cases ha:aS c
   ·go_wp2_with (go_at_call 81;refine qmm (bb _ _) ?_)
    go_ret2
    exact⟨by rw[hrel.out,HS.out,if_pos ha];rfl,I⟩
   cases h34:((c.toNat:Int)==34)
   rotate_left
   ·go_wp2_with (go_at_call 81;refine qmm (bb _ _) ?_)
    go_ret2
    exact⟨by rw[hrel.out,HS.out,if_neg (by simp[ha]),if_pos<|cQ (m:=34) h34];rfl,rfl⟩
   cases h92:((c.toNat:Int)==92)
   rotate_left
   ·go_wp2_with (go_at_call 81;refine qmm (bb _ _) ?_)
    go_ret2
    exact⟨by rw[hrel.out,HS.out,if_neg (by simp[ha]),if_neg<|bK (m:=34) h34,if_pos<|.inl<|cQ (m:=92) h92];rfl,rfl⟩
   by_cases h32:(c.toNat:Int)<32
   ·go_wp2_with (go_at_call 81;refine qmm (bb _ _) ?_)
    go_ret2
    exact⟨by rw[hrel.out,HS.out,if_neg (by simp[ha]),if_neg<|bK (m:=34) h34,if_pos<|.inr<|by omega];rfl,rfl⟩
   ·go_wp2_with (go_at_call 81;refine qmm (bb _ _) ?_)
    go_light
    go_round
    case rel=>exact⟨k+1,by omega,by go_num,Lib.hid<|by rw[hrel.out,HS.out,if_neg (by simp[ha]),if_neg<|bK (m:=34) h34,if_neg (by have :=bK (m:=92) h92;omega)]⟩
    case measure=>simp[intOf];omega
  ·go_wp2_with (go_at_call 81;refine qmm (bb _ _) ?_)
   go_ret2
   exact⟨by rw[hrel.out,Gh<|by omega];rfl,I⟩
set_option maxHeartbeats 4000000 in
theorem qI(l:YB)(w:World)(h0:0<l.length)(hl:l.length<=281474976710656):Calls prog 130 #[.string ⟨l.toArray⟩] w λe w'=>e=.returned (.tuple #[.int .i64 ((bZ l).1:Nat),.int .i64 ((bZ l).2.1:Nat),.int .i64 ((bZ l).2.2:Nat)])∧w=w':=by
 obtain⟨n,hn⟩:∃n,spanN bi l=n:=⟨_,rfl⟩;have hnl:n<=l.length:=by have :=mL bi l;omega
 have HN:=Lib.hid hn;clear hn;obtain⟨c0,Z⟩:∃c,({data:=l.toArray}:ByteArray)[0]'h0=c:=⟨_,rfl⟩;have HC0:=Lib.hid<|show l[0]=c0 from Z;have hx:=xP;have hx2:=oP
 go_enter func130,ntmps130
 go_wp2_with fail
 refine(gj _ _ hl).mono ?_;rintro e w' ⟨rfl,rfl⟩;rw[HN.out];cases hr:lh<|l.take n
 rotate_left
 ·cases hu:upperB c0
  all_goals
   have HQ:=Lib.hid<|jJ HN.out<|KG HN.out hr;by_cases E:24<n
   ·skip
    have HW:=Lib.hid (show bZ l=(0,0,3)from by rw[HQ.out,bO,if_pos E])
    go_wp2_with (first|(go_at_call 174;refine qmm (gj _ _ (by simp;omega)) ?_)|(go_at_call 175;refine qmm (cj _ _) ?_)|(go_at_call 173;refine qmm (ek _ _) ?_)|(go_at_call 172;refine qmm (ea _ _) ?_)|(go_at_call 129;refine qmm (br _ _) ?_))
    go_ret3
    exact⟨by rw[HW.out];rfl,I⟩
   ·skip
    have HW:=Lib.hid (show bZ l=(7,n,0)from by rw[HQ.out,bO,if_neg E,if_pos hr])
    go_wp2_with (first|(go_at_call 174;refine qmm (gj _ _ (by simp;omega)) ?_)|(go_at_call 175;refine qmm (cj _ _) ?_)|(go_at_call 173;refine qmm (ek _ _) ?_)|(go_at_call 172;refine qmm (ea _ _) ?_)|(go_at_call 129;refine qmm (br _ _) ?_))
    go_ret3
    exact⟨by rw[HW.out];rfl,I⟩
 cases hu:upperB c0
 ·skip
  have HQ:=Lib.hid<|jJ HN.out<|JB h0 HC0.out hu;by_cases E:24<n
  ·skip
   have HW:=Lib.hid (show bZ l=(0,0,3)from by rw[HQ.out,bO,if_pos E])
   go_wp2_with (first|(go_at_call 174;refine qmm (gj _ _ (by simp;omega)) ?_)|(go_at_call 175;refine qmm (cj _ _) ?_)|(go_at_call 173;refine qmm (ek _ _) ?_)|(go_at_call 172;refine qmm (ea _ _) ?_)|(go_at_call 129;refine qmm (br _ _) ?_))
   go_ret3
   exact⟨by rw[HW.out];rfl,I⟩
  ·cases G:cF c0
   ·skip
    have HW:=Lib.hid (show bZ l=(2,n,0)from by rw[HQ.out,bO,if_neg E,if_neg (by simp[hr]),if_neg (by rw[aN h0 HC0.out];simp[G])])
    go_wp2_with (first|(go_at_call 174;refine qmm (gj _ _ (by simp;omega)) ?_)|(go_at_call 175;refine qmm (cj _ _) ?_)|(go_at_call 173;refine qmm (ek _ _) ?_)|(go_at_call 172;refine qmm (ea _ _) ?_)|(go_at_call 129;refine qmm (br _ _) ?_))
    go_ret3
    exact⟨by rw[HW.out];rfl,I⟩
   ·skip
    have HW:=Lib.hid (show bZ l=(1,n,0)from by rw[HQ.out,bO,if_neg E,if_neg (by simp[hr]),if_pos (by rw[aN h0 HC0.out];exact G)])
    go_wp2_with (first|(go_at_call 174;refine qmm (gj _ _ (by simp;omega)) ?_)|(go_at_call 175;refine qmm (cj _ _) ?_)|(go_at_call 173;refine qmm (ek _ _) ?_)|(go_at_call 172;refine qmm (ea _ _) ?_)|(go_at_call 129;refine qmm (br _ _) ?_))
    go_ret3
    exact⟨by rw[HW.out];rfl,I⟩
 by_cases h2:n+1<l.length
 rotate_left
 ·have h2':¬((n:Int)+1<l.length):=by omega
  have HQ:=Lib.hid<|jJ HN.out<|Ka HN.out h2;by_cases E:24<n
  ·skip
   have HW:=Lib.hid (show bZ l=(0,0,3)from by rw[HQ.out,bO,if_pos E])
   go_wp2_with (first|(go_at_call 174;refine qmm (gj _ _ (by simp;omega)) ?_)|(go_at_call 175;refine qmm (cj _ _) ?_)|(go_at_call 173;refine qmm (ek _ _) ?_)|(go_at_call 172;refine qmm (ea _ _) ?_)|(go_at_call 129;refine qmm (br _ _) ?_))
   go_ret3
   exact⟨by rw[HW.out];rfl,I⟩
  ·cases G:cF c0
   ·skip
    have HW:=Lib.hid (show bZ l=(2,n,0)from by rw[HQ.out,bO,if_neg E,if_neg (by simp[hr]),if_neg (by rw[aN h0 HC0.out];simp[G])])
    go_wp2_with (first|(go_at_call 174;refine qmm (gj _ _ (by simp;omega)) ?_)|(go_at_call 175;refine qmm (cj _ _) ?_)|(go_at_call 173;refine qmm (ek _ _) ?_)|(go_at_call 172;refine qmm (ea _ _) ?_)|(go_at_call 129;refine qmm (br _ _) ?_))
    go_ret3
    exact⟨by rw[HW.out];rfl,I⟩
   ·skip
    have HW:=Lib.hid (show bZ l=(1,n,0)from by rw[HQ.out,bO,if_neg E,if_neg (by simp[hr]),if_pos (by rw[aN h0 HC0.out];exact G)])
    go_wp2_with (first|(go_at_call 174;refine qmm (gj _ _ (by simp;omega)) ?_)|(go_at_call 175;refine qmm (cj _ _) ?_)|(go_at_call 173;refine qmm (ek _ _) ?_)|(go_at_call 172;refine qmm (ea _ _) ?_)|(go_at_call 129;refine qmm (br _ _) ?_))
    go_ret3
    exact⟨by rw[HW.out];rfl,I⟩
 have hn1:n<l.length:=by omega
 obtain⟨c1,hc1⟩:∃c,({data:=l.toArray}:ByteArray)[n]'hn1=c:=⟨_,rfl⟩;have HC1:=Lib.hid<|show l[n]=c1 from hc1;obtain⟨c2,hc2⟩:∃c,({data:=l.toArray}:ByteArray)[n+1]'h2=c:=⟨_,rfl⟩;have HC2:=Lib.hid<|show l[n+1]=c2 from hc2;cases O:((c1.toNat:Int)==46)
 ·skip
  have HQ:=Lib.hid<|jJ HN.out<|Lm HN.out hn1 HC1.out O;by_cases E:24<n
  ·skip
   have HW:=Lib.hid (show bZ l=(0,0,3)from by rw[HQ.out,bO,if_pos E])
   go_wp2_with (first|(go_at_call 174;refine qmm (gj _ _ (by simp;omega)) ?_)|(go_at_call 175;refine qmm (cj _ _) ?_)|(go_at_call 173;refine qmm (ek _ _) ?_)|(go_at_call 172;refine qmm (ea _ _) ?_)|(go_at_call 129;refine qmm (br _ _) ?_))
   go_ret3
   exact⟨by rw[HW.out];rfl,I⟩
  ·cases G:cF c0
   ·skip
    have HW:=Lib.hid (show bZ l=(2,n,0)from by rw[HQ.out,bO,if_neg E,if_neg (by simp[hr]),if_neg (by rw[aN h0 HC0.out];simp[G])])
    go_wp2_with (first|(go_at_call 174;refine qmm (gj _ _ (by simp;omega)) ?_)|(go_at_call 175;refine qmm (cj _ _) ?_)|(go_at_call 173;refine qmm (ek _ _) ?_)|(go_at_call 172;refine qmm (ea _ _) ?_)|(go_at_call 129;refine qmm (br _ _) ?_))
    go_ret3
    exact⟨by rw[HW.out];rfl,I⟩
   ·skip
    have HW:=Lib.hid (show bZ l=(1,n,0)from by rw[HQ.out,bO,if_neg E,if_neg (by simp[hr]),if_pos (by rw[aN h0 HC0.out];exact G)])
    go_wp2_with (first|(go_at_call 174;refine qmm (gj _ _ (by simp;omega)) ?_)|(go_at_call 175;refine qmm (cj _ _) ?_)|(go_at_call 173;refine qmm (ek _ _) ?_)|(go_at_call 172;refine qmm (ea _ _) ?_)|(go_at_call 129;refine qmm (br _ _) ?_))
    go_ret3
    exact⟨by rw[HW.out];rfl,I⟩
 cases h3:bm c2
 ·skip
  have HQ:=Lib.hid<|jJ HN.out<|KE HN.out h2 HC2.out h3;by_cases E:24<n
  ·skip
   have HW:=Lib.hid (show bZ l=(0,0,3)from by rw[HQ.out,bO,if_pos E])
   go_wp2_with (first|(go_at_call 174;refine qmm (gj _ _ (by simp;omega)) ?_)|(go_at_call 175;refine qmm (cj _ _) ?_)|(go_at_call 173;refine qmm (ek _ _) ?_)|(go_at_call 172;refine qmm (ea _ _) ?_)|(go_at_call 129;refine qmm (br _ _) ?_))
   go_ret3
   exact⟨by rw[HW.out];rfl,I⟩
  ·cases G:cF c0
   ·skip
    have HW:=Lib.hid (show bZ l=(2,n,0)from by rw[HQ.out,bO,if_neg E,if_neg (by simp[hr]),if_neg (by rw[aN h0 HC0.out];simp[G])])
    go_wp2_with (first|(go_at_call 174;refine qmm (gj _ _ (by simp;omega)) ?_)|(go_at_call 175;refine qmm (cj _ _) ?_)|(go_at_call 173;refine qmm (ek _ _) ?_)|(go_at_call 172;refine qmm (ea _ _) ?_)|(go_at_call 129;refine qmm (br _ _) ?_))
    go_ret3
    exact⟨by rw[HW.out];rfl,I⟩
   ·skip
    have HW:=Lib.hid (show bZ l=(1,n,0)from by rw[HQ.out,bO,if_neg E,if_neg (by simp[hr]),if_pos (by rw[aN h0 HC0.out];exact G)])
    go_wp2_with (first|(go_at_call 174;refine qmm (gj _ _ (by simp;omega)) ?_)|(go_at_call 175;refine qmm (cj _ _) ?_)|(go_at_call 173;refine qmm (ek _ _) ?_)|(go_at_call 172;refine qmm (ea _ _) ?_)|(go_at_call 129;refine qmm (br _ _) ?_))
    go_ret3
    exact⟨by rw[HW.out];rfl,I⟩
 obtain⟨m,hm⟩:∃m,spanN bi (l.drop (n+1))=m:=⟨_,rfl⟩;have hml:n+1+m<=l.length:=by have :=mL bi<|l.drop<|n+1;simp at this;omega
 have HM:=Lib.hid hm;have HQ:=Lib.hid<|CR HN.out hm<|Fo HN.out h0 HC0.out hu hr h2 hn1 HC1.out O HC2.out h3;by_cases E:24<n
 ·skip
  have HW:=Lib.hid (show bZ l=(0,0,3)from by rw[HQ.out,fp,if_pos<|.inl E])
  go_wp2_with (first|(go_at_call 174;refine qmm (gj _ _ (by simp;omega)) ?_)|(go_at_call 175;refine qmm (cj _ _) ?_)|(go_at_call 173;refine qmm (ek _ _) ?_)|(go_at_call 172;refine qmm (ea _ _) ?_)|(go_at_call 129;refine qmm (br _ _) ?_))
  go_ret3
  exact⟨by rw[HW.out];rfl,I⟩
 by_cases U:24<m
 ·skip
  have HW:=Lib.hid (show bZ l=(0,0,3)from by rw[HQ.out,fp,if_pos<|.inr U])
  go_wp2_with (first|(go_at_call 174;refine qmm (gj _ _ (by simp;omega)) ?_)|(go_at_call 175;refine qmm (cj _ _) ?_)|(go_at_call 173;refine qmm (ek _ _) ?_)|(go_at_call 172;refine qmm (ea _ _) ?_)|(go_at_call 129;refine qmm (br _ _) ?_))
  go_ret3
  exact⟨by rw[HW.out];rfl,I⟩
 have he:n+1+m-(n+1)=m:=by omega
 cases J:lh ((l.drop (n+1)).take m)
 rotate_left
 ·skip
  have HW:=Lib.hid (show bZ l=(0,0,2)from by rw[HQ.out,fp,if_neg (by omega),if_pos J])
  go_wp2_with (first|(go_at_call 174;refine qmm (gj _ _ (by simp;omega)) ?_)|(go_at_call 175;refine qmm (cj _ _) ?_)|(go_at_call 173;refine qmm (ek _ _) ?_)|(go_at_call 172;refine qmm (ea _ _) ?_)|(go_at_call 129;refine qmm (br _ _) ?_))
  go_ret3
  exact⟨by rw[HW.out];rfl,I⟩
 cases G:cF c2
 ·skip
  have HW:=Lib.hid (show bZ l=(4,n+1+m,0)from by rw[HQ.out,fp,if_neg (by omega),if_neg (by simp[J]),if_neg (by rw[aN h2 HC2.out];simp[G])])
  go_wp2_with (first|(go_at_call 174;refine qmm (gj _ _ (by simp;omega)) ?_)|(go_at_call 175;refine qmm (cj _ _) ?_)|(go_at_call 173;refine qmm (ek _ _) ?_)|(go_at_call 172;refine qmm (ea _ _) ?_)|(go_at_call 129;refine qmm (br _ _) ?_))
  go_ret3
  exact⟨by rw[HW.out];rfl,I⟩
 ·skip
  have HW:=Lib.hid (show bZ l=(3,n+1+m,0)from by rw[HQ.out,fp,if_neg (by omega),if_neg (by simp[J]),if_pos (by rw[aN h2 HC2.out];exact G)])
  go_wp2_with (first|(go_at_call 174;refine qmm (gj _ _ (by simp;omega)) ?_)|(go_at_call 175;refine qmm (cj _ _) ?_)|(go_at_call 173;refine qmm (ek _ _) ?_)|(go_at_call 172;refine qmm (ea _ _) ?_)|(go_at_call 129;refine qmm (br _ _) ?_))
  go_ret3
  exact⟨by rw[HW.out];rfl,I⟩
end Go.Proofs.YtehhanlhfdoiaaaGreat
namespace Go.Proofs.YtehhanlhfdoiaaaGreat.Lx
def iV(l:YB):Nat:=if bm (l.getD 0 0)=true then spanN bi l else 0
def signLen(l:YB):Nat:=
 if(l.getD 0 0).toNat=61 then(if 1<l.length∧(l.getD 1 0).toNat=61 then 2 else 1)
 else if([40,41,91,93,58,44,43,45,42,60,63]:YN).contains (l.getD 0 0).toNat=true then 1 else 0
theorem yX(l:YB)(k:Nat):(l.drop k).getD 0 0=l.getD k 0:=by simp[List.getD]
theorem IT(l:YB)(k:Nat):(l.drop k).getD 1 0=l.getD (k+1) 0:=by simp[List.getD]
variable{l:YB}{k:Nat}
theorem IU{c:UInt8}(h:k<l.length)(E:l[k]=c):
  signLen (l.drop k)=if c.toNat=61 then(if k+1<l.length∧(l.getD (k+1) 0).toNat=61 then 2 else 1)
   else if([40,41,91,93,58,44,43,45,42,60,63]:YN).contains c.toNat=true then 1 else 0:=by
 unfold signLen;rw[yX,IT,aN h E,aaC];by_cases h2:k+1<l.length
 ·have h1:1<l.length-k:=by omega
  simp only[h1,h2]
 ·have h1:¬1<l.length-k:=by omega
  simp only[h1,h2]
theorem EB{c:UInt8}(h:bm c=true)(E:upperB c=false):cF c=true:=by simpa[bm,E]using h
theorem uv{c:UInt8}(E:upperB c=true):cF c=false:=by simp[upperB,cF]at *;omega
theorem Ig{j:Nat}{c:UInt8}(h:k<l.length)(E:l[k]=c):
  quotedT (l.drop k) j=if aS c=false then(j,1)else if c.toNat=34 then(j+1,0)else if c.toNat=92∨c.toNat<32 then(0,2)else quotedT (l.drop<|k+1) (j+1):=by
 rw[aam h,E];rfl
theorem Cn{j:Nat}(h:l.length<=k):quotedT (l.drop k) j=(0,2):=by rw[List.drop_of_length_le h];rfl
theorem IV{c:UInt8}(E:aS c=true)(hp:dW c=false):c.toNat<32:=by simp[aS,hp,bL]at E;simp[dW]at hp;omega
theorem HP{c:UInt8}(hp:dW c=true):¬c.toNat<32:=by simp[dW]at hp;omega
theorem Do{c:UInt8}(h:c.toNat=34):aS c=true:=by simp[aS,dW,h]
theorem KP(l:YB):(if(l.getD 0 0).toNat=61∧1<l.length∧(l.getD 1 0).toNat=61 then((8,2,0):Nat×Nat×Nat)else if rU.contains (l.getD 0 0)=true then(8,1,0)else(0,0,2))=
  if signLen l=0 then(0,0,2)else(8,signLen l,0):=by
 unfold signLen;generalize l.getD 0 0=c;generalize l.getD 1 0=d;by_cases E:c.toNat=61
 ·have G:c=61:=by apply UInt8.toNat_inj.1;simpa using E
  subst G;by_cases h2:1<l.length∧d.toNat=61
  ·simp[h2]
  ·simp[h2,rU]
 ·have :rU.contains c=([40,41,91,93,58,44,43,45,42,60,63]:YN).contains c.toNat:=by
   simp only[rU,List.contains_cons,List.contains_nil,Bool.or_false];have h:∀n:UInt8,(c==n)=(c.toNat==n.toNat):=λn=>by rw[Bool.eq_iff_iff];simp[UInt8.toNat_inj]
   simp only[h];have :(c.toNat==(61:UInt8).toNat)=false:=by simpa using E
   rw[this];rfl
  rw[this];simp only[E,false_and,if_false];split<;>simp_all
end Go.Proofs.YtehhanlhfdoiaaaGreat.Lx
namespace Go.Proofs.YtehhanlhfdoiaaaGreat
open _root_.Go.Proofs.Tryz
open Go.RowKit Lx
set_option maxRecDepth 100000
set_option maxHeartbeats 1000000 in
theorem jV(l:YB)(x:Int)(k:Nat)(hx:x=k)(w:World)(hk:k<=l.length)(hl:l.length<=281474976710656):Calls prog 216 #[.string ⟨l.toArray⟩,.int .i64 x] w λe w'=>e=.returned (.int .i64 (iV (l.drop k):Nat))∧w=w':=by
 subst hx;by_cases hlt:k<l.length
 rotate_left
 ·have HR:=Lib.hid (show iV (l.drop k)=0 from by rw[List.drop_of_length_le<|by omega];rfl);have hge:(l.length:Int)<=k:=by omega
  go_enter func216,ntmps216
  go_wp2_with (first|(go_at_call 208;refine qmm (cg _ _) ?_)|(go_at_call 209;refine qmm (aZ _ _) ?_)|(go_at_call 218;refine qmm (sN _ _) ?_))
  go_ret
  exact⟨bu (by rw[HR.out];rfl),I⟩
 obtain⟨c,hc⟩:∃c,({data:=l.toArray}:ByteArray)[k]'hlt=c:=⟨_,rfl⟩;have HC:=Lib.hid<|show l[k]=c from hc;have hge:decide (l.length<=k)=false:=by simp;omega
 have HG:=Lib.hid (show(l.drop k).getD 0 0=c from by rw[yX];exact aN hlt HC.out);cases hlo:cF c<;>cases hup:upperB c
 ·have HR:=Lib.hid (show iV (l.drop k)=0 from by rw[iV,HG.out];simp[bm,hlo,hup])
  go_enter func216,ntmps216
  go_wp2_with (first|(go_at_call 208;refine qmm (cg _ _) ?_)|(go_at_call 209;refine qmm (aZ _ _) ?_)|(go_at_call 218;refine qmm (sN _ _) ?_))
  go_ret
  exact⟨bu (by rw[HR.out];rfl),I⟩
 all_goals
  have HR:=Lib.hid (show iV (l.drop k)=spanN bi (l.drop k)from by rw[iV,HG.out];simp[bm,hlo,hup]);rw[HR.out];clear HR
  go_enter func216,ntmps216
  go_wp2_with (first|(go_at_call 208;refine qmm (cg _ _) ?_)|(go_at_call 209;refine qmm (aZ _ _) ?_)|(go_at_call 218;refine qmm (sN _ _) ?_))
  go_loopg [5] (l.length-k) (λg n wx=>∃i:Nat,g=l.length-i∧wx=w∧k<=i∧i<=l.length∧n=.int .i64 i∧Hid (spanN bi (l.drop k)=i-k+spanN bi (l.drop i)))
  case atStart=>exact⟨k,rfl,rfl,aaf _,hk,rfl,Lib.hid<|by omega⟩
  case round=>
   obtain⟨i,rfl,rfl,hki,hil,rfl,hrel⟩:=hrel;by_cases hit:i<l.length
   ·skip
    obtain⟨d,hd⟩:∃c,({data:=l.toArray}:ByteArray)[i]'hit=c:=⟨_,rfl⟩;have HD:=Lib.hid<|show l[i]=d from hd;cases hwd:bi d
    ·go_wp2_with (first|(go_at_call 208;refine qmm (cg _ _) ?_)|(go_at_call 209;refine qmm (aZ _ _) ?_)|(go_at_call 218;refine qmm (sN _ _) ?_))
     go_ret
     exact⟨bu (by rw[hrel.out,sH hit HD.out hwd];omega),I⟩
    ·go_wp2_with (first|(go_at_call 208;refine qmm (cg _ _) ?_)|(go_at_call 209;refine qmm (aZ _ _) ?_)|(go_at_call 218;refine qmm (sN _ _) ?_))
     go_roundg (l.length-(i+1))
     case measure=>omega
     case rel=>exact⟨i+1,rfl,rfl,by omega,by omega,by go_num,Lib.hid (by rw[hrel.out,ng hit HD.out hwd];omega)⟩
   ·go_wp2_with (first|(go_at_call 208;refine qmm (cg _ _) ?_)|(go_at_call 209;refine qmm (aZ _ _) ?_)|(go_at_call 218;refine qmm (sN _ _) ?_))
    go_ret
    exact⟨bu (by rw[hrel.out,uF<|by omega];omega),I⟩
set_option maxHeartbeats 2000000 in
theorem eV(l:YB)(x:Int)(k:Nat)(hx:x=k)(w:World)(hlt:k<l.length)(hl:l.length<=281474976710656):Calls prog 211 #[.string ⟨l.toArray⟩,.int .i64 x] w λe w'=>e=.returned (.int .i64 (signLen (l.drop k):Nat))∧w=w':=by
 subst hx;obtain⟨c,hc⟩:∃c,({data:=l.toArray}:ByteArray)[k]'hlt=c:=⟨_,rfl⟩;have HC:=Lib.hid<|show l[k]=c from hc;have HS:=Lib.hid<|IU hlt HC.out;cases E:((c.toNat:Int)==61)
 rotate_left
 ·by_cases h1:k+1<l.length
  ·have h1':(k:Int)+1<l.length:=by omega
   obtain⟨d,hd⟩:∃c,({data:=l.toArray}:ByteArray)[k+1]'h1=c:=⟨_,rfl⟩;have HD:=Lib.hid<|show l[k+1]=d from hd;cases G:((d.toNat:Int)==61)
   ·go_enter func211,ntmps211
    go_wp2
    go_ret
    exact⟨bu (by rw[HS.out,if_pos<|cQ (m:=61) E,if_neg λh=>bK (m:=61) G (by rw[<-aN h1 HD.out];exact h.2)];rfl),I⟩
   ·go_enter func211,ntmps211
    go_wp2
    go_ret
    exact⟨bu (by rw[HS.out,if_pos<|cQ (m:=61) E,if_pos ⟨h1,by rw[aN h1 HD.out];exact cQ (m:=61) G⟩];rfl),I⟩
  ·have h1':¬((k:Int)+1<l.length):=by omega
   go_enter func211,ntmps211
   go_wp2
   go_ret
   exact⟨bu (by rw[HS.out,if_pos<|cQ (m:=61) E,if_neg λh=>h1 h.1];rfl),I⟩
 cases J:((c.toNat:Int)==40)
 rotate_left
 ·go_enter func211,ntmps211
  go_wp2
  go_ret
  exact⟨bu (by rw[HS.out,if_neg<|bK (m:=61) E,if_pos<|by simp[cQ (m:=40) J]];rfl),rfl⟩
 cases O:((c.toNat:Int)==41)
 rotate_left
 ·go_enter func211,ntmps211
  go_wp2
  go_ret
  exact⟨bu (by rw[HS.out,if_neg<|bK (m:=61) E,if_pos<|by simp[cQ (m:=41) O]];rfl),rfl⟩
 cases U:((c.toNat:Int)==91)
 rotate_left
 ·go_enter func211,ntmps211
  go_wp2
  go_ret
  exact⟨bu (by rw[HS.out,if_neg<|bK (m:=61) E,if_pos<|by simp[cQ (m:=91) U]];rfl),rfl⟩
 cases Z:((c.toNat:Int)==93)
 rotate_left
 ·go_enter func211,ntmps211
  go_wp2
  go_ret
  exact⟨bu (by rw[HS.out,if_neg<|bK (m:=61) E,if_pos<|by simp[cQ (m:=93) Z]];rfl),rfl⟩
 cases h58:((c.toNat:Int)==58)
 rotate_left
 ·go_enter func211,ntmps211
  go_wp2
  go_ret
  exact⟨bu (by rw[HS.out,if_neg<|bK (m:=61) E,if_pos<|by simp[cQ (m:=58) h58]];rfl),rfl⟩
 cases h44:((c.toNat:Int)==44)
 rotate_left
 ·go_enter func211,ntmps211
  go_wp2
  go_ret
  exact⟨bu (by rw[HS.out,if_neg<|bK (m:=61) E,if_pos<|by simp[cQ (m:=44) h44]];rfl),rfl⟩
 cases h43:((c.toNat:Int)==43)
 rotate_left
 ·go_enter func211,ntmps211
  go_wp2
  go_ret
  exact⟨bu (by rw[HS.out,if_neg<|bK (m:=61) E,if_pos<|by simp[cQ (m:=43) h43]];rfl),rfl⟩
 cases h45:((c.toNat:Int)==45)
 rotate_left
 ·go_enter func211,ntmps211
  go_wp2
  go_ret
  exact⟨bu (by rw[HS.out,if_neg<|bK (m:=61) E,if_pos<|by simp[cQ (m:=45) h45]];rfl),rfl⟩
 cases h42:((c.toNat:Int)==42)
 rotate_left
 ·go_enter func211,ntmps211
  go_wp2
  go_ret
  exact⟨bu (by rw[HS.out,if_neg<|bK (m:=61) E,if_pos<|by simp[cQ (m:=42) h42]];rfl),rfl⟩
 cases h60:((c.toNat:Int)==60)
 rotate_left
 ·go_enter func211,ntmps211
  go_wp2
  go_ret
  exact⟨bu (by rw[HS.out,if_neg<|bK (m:=61) E,if_pos<|by simp[cQ (m:=60) h60]];rfl),rfl⟩
 cases h63:((c.toNat:Int)==63)
 rotate_left
 ·go_enter func211,ntmps211
  go_wp2
  go_ret
  exact⟨bu (by rw[HS.out,if_neg<|bK (m:=61) E,if_pos<|by simp[cQ (m:=63) h63]];rfl),rfl⟩
 go_enter func211,ntmps211
 go_wp2
 go_ret
 exact⟨bu (by rw[HS.out,if_neg<|bK (m:=61) E,if_neg<|by simp[bK (m:=40) J,bK (m:=41) O,bK (m:=91) U,bK (m:=93) Z,bK (m:=58) h58,bK (m:=44) h44,bK (m:=43) h43,bK (m:=45) h45,bK (m:=42) h42,bK (m:=60) h60,bK (m:=63) h63]];rfl),rfl⟩
def oQ(E:Nat)(t:Nat×Nat×Nat):Value:=
 if t.2.2=0 then .agg #[.int .i64 (t.2.1:Nat),.int .i64 (t.1:Nat),.int .i64 0,.int .i64 0]else .agg #[.int .i64 0,.int .i64 0,.int .i64 (t.2.2:Nat),.int .i64 ((E+t.2.1:Nat):Int)]
def wJ(E:Nat)(t:Nat×Nat×Nat)(w:World)(e:Ending)(w':World):Prop:=e=.returned (oQ E t)∧Ext w w'
variable{n k:Nat}{w':World}
theorem ia{E:Nat}{t:Nat×Nat×Nat}{w:World}{x y:Int}(h:t=(k,n,0))(hx:x=n)(hy:y=k)(G:Ext w w'):wJ E t w (.returned<|.agg #[.int .i64 x,.int .i64 y,.int .i64 0,.int .i64 0]) w':=by subst h;subst hx;subst hy;exact⟨rfl,G⟩
theorem da{E e:Nat}{t:Nat×Nat×Nat}{w:World}{x y:Int}(h:t=(k,n,e))(G:¬e=0)(hx:x=e)(hy:y=((E+n:Nat):Int))(J:Ext w w'):wJ E t w (.returned<|.agg #[.int .i64 0,.int .i64 0,.int .i64 x,.int .i64 y]) w':=by subst h;subst hx;subst hy;exact⟨by simp only[oQ,if_neg G],J⟩
set_option maxHeartbeats 4000000 in
theorem Qb(l:YB)(x:Int)(k:Nat)(hxk:x=k)(w:World)(hlt:k<l.length)(hle:bm (l[k]'hlt)=true)(J:l.length<=281474976710656):Calls prog 210 #[.string ⟨l.toArray⟩,.int .i64 x] w (wJ k (bZ<|l.drop k) w):=by
 subst hxk;obtain⟨T,O⟩:∃T,bZ (l.drop k)=T:=⟨_,rfl⟩;rw[O];have h0:0<(l.drop k).length:=by simp;omega
 obtain⟨c0,hc0⟩:∃c,({data:=l.toArray}:ByteArray)[k]'hlt=c:=⟨_,rfl⟩;have HCk:=Lib.hid<|show l[k]=c0 from hc0;have HC0:=Lib.hid (show(l.drop k)[0]=c0 from by rw[List.getElem_drop];exact hc0);have HL0:=Lib.hid<|show bm c0=true from hc0▸hle;obtain⟨n,hn⟩:∃n,spanN bi (l.drop k)=n:=⟨_,rfl⟩;have hnl:k+n<=l.length:=by have :=mL bi<|l.drop k;simp at this;omega
 have HN:=Lib.hid hn;have HW0:=Lib.hid (show iV (l.drop k)=n from by rw[iV,aN h0 HC0.out,if_pos HL0.out];exact hn);clear hn hle;obtain⟨E,hE⟩:∃E,k+n=E:=⟨_,rfl⟩;have hE1:(k:Int)+n=(E:Nat):=by omega
 have hE2:E-k=n:=by omega
 have hE3:E<=l.length:=by omega
 have hkE:k<=E:=by omega
 have HE:=Lib.hid hE;clear hE;have hx:=xP;have hx2:=oP
 go_enter func210,ntmps210
 go_wp2_with fail
 refine(jV _ _ k I _ (by omega) J).mono ?_;rintro e w' ⟨rfl,rfl⟩;rw[HW0.out];cases hr:lh<|(l.drop k).take n
 rotate_left
 ·cases hu:upperB c0
  all_goals
   have HQ:=Lib.hid<|jJ HN.out<|KG HN.out hr;by_cases G:24<n
   ·skip
    have HW:=Lib.hid (show T=(0,0,3)from by rw[<-O,HQ.out,bO,if_pos G])
    go_wp2_with (first|(go_at_call 209;refine qmm (aZ _ _) ?_)|(go_at_call 217;refine qmm (ds _ _) ?_)|(go_at_call 216;refine qmm (jV _ _ (E+1) (by omega) _ (by omega) J) ?_))
    exact bodyPost_ret (v:=.agg #[.int .i64 0,.int .i64 0,.int .i64 3,.int .i64 k]) (by simp[results,results210,go_sem]) rfl (da HW.out (by omega) (by omega) (by omega) qEx)
   ·skip
    have HW:=Lib.hid (show T=(7,n,0)from by rw[<-O,HQ.out,bO,if_neg G,if_pos hr])
    go_wp2_with (first|(go_at_call 209;refine qmm (aZ _ _) ?_)|(go_at_call 217;refine qmm (ds _ _) ?_)|(go_at_call 216;refine qmm (jV _ _ (E+1) (by omega) _ (by omega) J) ?_))
    exact bodyPost_ret (v:=.agg #[.int .i64 n,.int .i64 7,.int .i64 0,.int .i64 0]) (by simp[results,results210,go_sem]) rfl (ia HW.out (by omega) (by omega) qEx)
 cases hu:upperB c0
 ·skip
  have HQ:=Lib.hid<|jJ HN.out<|JB h0 HC0.out hu;by_cases G:24<n
  ·skip
   have HW:=Lib.hid (show T=(0,0,3)from by rw[<-O,HQ.out,bO,if_pos G])
   go_wp2_with (first|(go_at_call 209;refine qmm (aZ _ _) ?_)|(go_at_call 217;refine qmm (ds _ _) ?_)|(go_at_call 216;refine qmm (jV _ _ (E+1) (by omega) _ (by omega) J) ?_))
   exact bodyPost_ret (v:=.agg #[.int .i64 0,.int .i64 0,.int .i64 3,.int .i64 k]) (by simp[results,results210,go_sem]) rfl (da HW.out (by omega) (by omega) (by omega) qEx)
  ·skip
   have HW:=Lib.hid (show T=(1,n,0)from by rw[<-O,HQ.out,bO,if_neg G,if_neg (by simp[hr]),if_pos (by rw[aN h0 HC0.out];exact EB HL0.out hu)])
   go_wp2_with (first|(go_at_call 209;refine qmm (aZ _ _) ?_)|(go_at_call 217;refine qmm (ds _ _) ?_)|(go_at_call 216;refine qmm (jV _ _ (E+1) (by omega) _ (by omega) J) ?_))
   exact bodyPost_ret (v:=.agg #[.int .i64 n,.int .i64 1,.int .i64 0,.int .i64 0]) (by simp[results,results210,go_sem]) rfl (ia HW.out (by omega) (by omega) qEx)
 by_cases h2:E+1<l.length
 rotate_left
 ·have h2':¬((E:Int)+1<l.length):=by omega
  have HQ:=Lib.hid (jJ HN.out<|Ka HN.out (by have :=HE.out;simp;omega));by_cases G:24<n
  ·skip
   have HW:=Lib.hid (show T=(0,0,3)from by rw[<-O,HQ.out,bO,if_pos G])
   go_wp2_with (first|(go_at_call 209;refine qmm (aZ _ _) ?_)|(go_at_call 217;refine qmm (ds _ _) ?_)|(go_at_call 216;refine qmm (jV _ _ (E+1) (by omega) _ (by omega) J) ?_))
   exact bodyPost_ret (v:=.agg #[.int .i64 0,.int .i64 0,.int .i64 3,.int .i64 k]) (by simp[results,results210,go_sem]) rfl (da HW.out (by omega) (by omega) (by omega) qEx)
  ·skip
   have HW:=Lib.hid (show T=(2,n,0)from by rw[<-O,HQ.out,bO,if_neg G,if_neg (by simp[hr]),if_neg (by rw[aN h0 HC0.out];simp[uv hu])])
   go_wp2_with (first|(go_at_call 209;refine qmm (aZ _ _) ?_)|(go_at_call 217;refine qmm (ds _ _) ?_)|(go_at_call 216;refine qmm (jV _ _ (E+1) (by omega) _ (by omega) J) ?_))
   exact bodyPost_ret (v:=.agg #[.int .i64 n,.int .i64 2,.int .i64 0,.int .i64 0]) (by simp[results,results210,go_sem]) rfl (ia HW.out (by omega) (by omega) qEx)
 have hn1:E<l.length:=by omega
 obtain⟨c1,hc1⟩:∃c,({data:=l.toArray}:ByteArray)[E]'hn1=c:=⟨_,rfl⟩;have HC1a:=Lib.hid<|show l[E]=c1 from hc1;obtain⟨c2,hc2⟩:∃c,({data:=l.toArray}:ByteArray)[E+1]'h2=c:=⟨_,rfl⟩;have HC2a:=Lib.hid<|show l[E+1]=c2 from hc2;have Z:n<(l.drop k).length:=by have :=HE.out;simp;omega
 have U:n+1<(l.drop k).length:=by have :=HE.out;simp;omega
 have HC1:=Lib.hid (show(l.drop k)[n]=c1 from by rw[List.getElem_drop];simp only[HE.out];exact hc1);have HC2:=Lib.hid (show(l.drop k)[n+1]=c2 from by rw[List.getElem_drop];simp only[<-aau,HE.out];exact hc2);have HGE:=Lib.hid (show(l.drop<|E+1).getD 0 0=c2 from by rw[yX];exact aN h2 HC2a.out);cases h46:((c1.toNat:Int)==46)
 ·skip
  have HQ:=Lib.hid<|jJ HN.out<|Lm HN.out Z HC1.out h46;by_cases G:24<n
  ·skip
   have HW:=Lib.hid (show T=(0,0,3)from by rw[<-O,HQ.out,bO,if_pos G])
   go_wp2_with (first|(go_at_call 209;refine qmm (aZ _ _) ?_)|(go_at_call 217;refine qmm (ds _ _) ?_)|(go_at_call 216;refine qmm (jV _ _ (E+1) (by omega) _ (by omega) J) ?_))
   exact bodyPost_ret (v:=.agg #[.int .i64 0,.int .i64 0,.int .i64 3,.int .i64 k]) (by simp[results,results210,go_sem]) rfl (da HW.out (by omega) (by omega) (by omega) qEx)
  ·skip
   have HW:=Lib.hid (show T=(2,n,0)from by rw[<-O,HQ.out,bO,if_neg G,if_neg (by simp[hr]),if_neg (by rw[aN h0 HC0.out];simp[uv hu])])
   go_wp2_with (first|(go_at_call 209;refine qmm (aZ _ _) ?_)|(go_at_call 217;refine qmm (ds _ _) ?_)|(go_at_call 216;refine qmm (jV _ _ (E+1) (by omega) _ (by omega) J) ?_))
   exact bodyPost_ret (v:=.agg #[.int .i64 n,.int .i64 2,.int .i64 0,.int .i64 0]) (by simp[results,results210,go_sem]) rfl (ia HW.out (by omega) (by omega) qEx)
 cases h3:bm c2
 ·have hm:iV (l.drop<|E+1)=0:=by rw[iV,HGE.out];simp[h3]
  have HQ:=Lib.hid<|jJ HN.out<|KE HN.out U HC2.out h3;by_cases G:24<n
  ·skip
   have HW:=Lib.hid (show T=(0,0,3)from by rw[<-O,HQ.out,bO,if_pos G])
   go_wp2_with (first|(go_at_call 209;refine qmm (aZ _ _) ?_)|(go_at_call 217;refine qmm (ds _ _) ?_)|(go_at_call 216;refine qmm (jV _ _ (E+1) (by omega) _ (by omega) J) ?_))
   exact bodyPost_ret (v:=.agg #[.int .i64 0,.int .i64 0,.int .i64 3,.int .i64 k]) (by simp[results,results210,go_sem]) rfl (da HW.out (by omega) (by omega) (by omega) qEx)
  ·skip
   have HW:=Lib.hid (show T=(2,n,0)from by rw[<-O,HQ.out,bO,if_neg G,if_neg (by simp[hr]),if_neg (by rw[aN h0 HC0.out];simp[uv hu])])
   go_wp2_with (first|(go_at_call 209;refine qmm (aZ _ _) ?_)|(go_at_call 217;refine qmm (ds _ _) ?_)|(go_at_call 216;refine qmm (jV _ _ (E+1) (by omega) _ (by omega) J) ?_))
   exact bodyPost_ret (v:=.agg #[.int .i64 n,.int .i64 2,.int .i64 0,.int .i64 0]) (by simp[results,results210,go_sem]) rfl (ia HW.out (by omega) (by omega) qEx)
 obtain⟨m,hm⟩:∃m,iV (l.drop (E+1))=m:=⟨_,rfl⟩;have HM:=Lib.hid (show spanN bi (l.drop<|E+1)=m from by rw[<-hm,iV,HGE.out,if_pos h3]);have hm0:0<m:=by have h:=yP (p:=bi) (l:=l.drop<|E+1) (by simp;omega) (by rw[HGE.out];simp[bi,h3]);rw[HM.out]at h;exact h
 have hml:E+1+m<=l.length:=by have h:=mL bi<|l.drop<|E+1;rw[HM.out]at h;simp at h;omega
 have he:E+1+m-(E+1)=m:=by omega
 have hsl:0<((l.drop<|E+1).take m).length:=by simp;omega
 have hs0:({data:=((l.drop<|E+1).take m).toArray}:ByteArray)[0]'hsl=c2:=by
  show((l.drop<|E+1).take m)[0]=c2;rw[List.getElem_take,List.getElem_drop];exact hc2
 have HQ:=Lib.hid (CR (m:=m) HN.out (by have h:=HM.out;rw[<-HE.out]at h;rw[List.drop_drop];exact h)<|Fo HN.out h0 HC0.out hu hr U Z HC1.out h46 HC2.out h3);have HDD:=Lib.hid (show((l.drop k).drop<|n+1).take m=(l.drop<|E+1).take m from by rw[List.drop_drop,<-HE.out,aau]);cases hu2:upperB c2
 all_goals
  by_cases G:24<n
  ·skip
   have HW:=Lib.hid (show T=(0,0,3)from by rw[<-O,HQ.out,fp,if_pos<|.inl G])
   go_wp2_with (first|(go_at_call 209;refine qmm (aZ _ _) ?_)|(go_at_call 217;refine qmm (ds _ _) ?_)|(go_at_call 216;refine qmm (jV _ _ (E+1) (by omega) _ (by omega) J) ?_))
   exact bodyPost_ret (v:=.agg #[.int .i64 0,.int .i64 0,.int .i64 3,.int .i64 k]) (by simp[results,results210,go_sem]) rfl (da HW.out (by omega) (by omega) (by omega) qEx)
  by_cases h24m:24<m
  ·skip
   have HW:=Lib.hid (show T=(0,0,3)from by rw[<-O,HQ.out,fp,if_pos<|.inr h24m])
   go_wp2_with (first|(go_at_call 209;refine qmm (aZ _ _) ?_)|(go_at_call 217;refine qmm (ds _ _) ?_)|(go_at_call 216;refine qmm (jV _ _ (E+1) (by omega) _ (by omega) J) ?_))
   exact bodyPost_ret (v:=.agg #[.int .i64 0,.int .i64 0,.int .i64 3,.int .i64 k]) (by simp[results,results210,go_sem]) rfl (da HW.out (by omega) (by omega) (by omega) qEx)
  cases hr2:lh ((l.drop (E+1)).take m)
  rotate_left
  ·skip
   have HW:=Lib.hid (show T=(0,0,2)from by rw[<-O,HQ.out,fp,if_neg (by omega),if_pos (by rw[HDD.out];exact hr2)])
   go_wp2_with (first|(go_at_call 209;refine qmm (aZ _ _) ?_)|(go_at_call 217;refine qmm (ds _ _) ?_)|(go_at_call 216;refine qmm (jV _ _ (E+1) (by omega) _ (by omega) J) ?_))
   exact bodyPost_ret (v:=.agg #[.int .i64 0,.int .i64 0,.int .i64 2,.int .i64 k]) (by simp[results,results210,go_sem]) rfl (da HW.out (by omega) (by omega) (by omega) qEx)
  first
  |have HW:=Lib.hid (show T=(3,n+1+m,0)from by rw[<-O,HQ.out,fp,if_neg (by omega),if_neg (by rw[HDD.out];simp[hr2]),if_pos (by rw[aN U HC2.out];exact EB h3 hu2)])
   go_wp2_with (first|(go_at_call 209;refine qmm (aZ _ _) ?_)|(go_at_call 217;refine qmm (ds _ _) ?_)|(go_at_call 216;refine qmm (jV _ _ (E+1) (by omega) _ (by omega) J) ?_))
   exact bodyPost_ret (v:=.agg #[.int .i64<|n+1+m,.int .i64 3,.int .i64 0,.int .i64 0]) (by simp[results,results210,go_sem]) rfl (ia HW.out (by omega) (by omega) qEx)
  |have HW:=Lib.hid (show T=(4,n+1+m,0)from by rw[<-O,HQ.out,fp,if_neg (by omega),if_neg (by rw[HDD.out];simp[hr2]),if_neg (by rw[aN U HC2.out];simp[uv hu2])])
   go_wp2_with (first|(go_at_call 209;refine qmm (aZ _ _) ?_)|(go_at_call 217;refine qmm (ds _ _) ?_)|(go_at_call 216;refine qmm (jV _ _ (E+1) (by omega) _ (by omega) J) ?_))
   exact bodyPost_ret (v:=.agg #[.int .i64<|n+1+m,.int .i64 4,.int .i64 0,.int .i64 0]) (by simp[results,results210,go_sem]) rfl (ia HW.out (by omega) (by omega) qEx)
theorem IZ(E:Nat)(t:Nat×Nat×Nat):∃a b c d:Int,oQ E t=.agg #[.int .i64 a,.int .i64 b,.int .i64 c,.int .i64 d]:=by unfold oQ;split<;>exact⟨_,_,_,_,rfl⟩
abbrev CK:Obj:=.cells #[.int .i64 0,.int .i64 0,.int .i64 0,.int .i64 0] 216
set_option maxHeartbeats 4000000 in
theorem Nx (l:List UInt8) (x:Int) (k:Nat) (hxk:x=k) (w:World) (hlt:k<l.length) (hl:l.length<=281474976710656):Calls prog 192 #[.string ⟨l.toArray⟩,.int .i64 x] w (wJ k (tokenT<|l.drop k) w):=by
 subst hxk;obtain⟨T,hT⟩:∃T,tokenT (l.drop k)=T:=⟨_,rfl⟩;rw[hT];have h0:0<(l.drop k).length:=by simp;omega
 obtain⟨c,hc⟩:∃c,({data:=l.toArray}:ByteArray)[k]'hlt=c:=⟨_,rfl⟩;have HC:=Lib.hid<|show l[k]=c from hc;have HC0:=Lib.hid (show(l.drop k)[0]=c from by rw[List.getElem_drop];exact hc);have HT:=Lib.hid<|(yF h0 HC0.out).symm.trans hT;clear hT
 go_enter func192,ntmps192
 cases ha:aS c
 ·skip
  have HW:=Lib.hid (show T=(0,0,1)from by rw[<-HT.out,if_pos ha])
  go_wp2_with (first|(go_at_call 205;refine qmm (be _ _) ?_)|(go_at_call 206;refine qmm (bU _ _) ?_)|(go_at_call 207;refine qmm (dt _ _) ?_)|(go_at_call 208;refine qmm (cg _ _) ?_)|(go_at_call 209;refine qmm (aZ _ _) ?_)|(go_at_call 211;refine qmm (eV _ _ k rfl _ hlt hl) ?_))
  exact bodyPost_ret (v:=.agg #[.int .i64 0,.int .i64 0,.int .i64 1,.int .i64 k]) (by simp[results,results192,go_sem]) rfl (da HW.out (by omega) (by omega) (by omega) qEx)
 have HA:=Lib.hid (show¬aS c=false from by simp[ha]);cases h34:((c.toNat:Int)==34)
 rotate_left
 ·have h34':=cQ (m:=34) h34;have HT2:=Lib.hid (show T=(6,quotedT (l.drop (k+1)) 1)from by
   rw[<-HT.out,if_neg HA.out,if_neg (by simp[bm,cF,upperB,h34']),if_neg (by simp[bD,h34']),if_pos h34',List.tail_drop])
  clear h34'
  go_wp2_with (first|(go_at_call 205;refine qmm (be _ _) ?_)|(go_at_call 206;refine qmm (bU _ _) ?_)|(go_at_call 207;refine qmm (dt _ _) ?_)|(go_at_call 208;refine qmm (cg _ _) ?_)|(go_at_call 209;refine qmm (aZ _ _) ?_)|(go_at_call 211;refine qmm (eV _ _ k rfl _ hlt hl) ?_))
  go_loopg [6] (l.length-(k+1)) (λg n wx=>∃i:Nat,g=l.length-i∧wx=w.alloc CK∧k+1<=i∧i<=l.length∧n=.int .i64 i∧Hid (quotedT (l.drop<|k+1) 1=quotedT (l.drop i) (i-k)))
  case atStart=>exact⟨k+1,rfl,rfl,aaf _,by omega,by go_num,Lib.hid (by congr 1;omega)⟩
  case round=>
   obtain⟨i,rfl,rfl,hki,hil,rfl,hrel⟩:=hrel;by_cases hit:i<l.length
   ·skip
    obtain⟨d,hd⟩:∃c,({data:=l.toArray}:ByteArray)[i]'hit=c:=⟨_,rfl⟩;have HD:=Lib.hid<|show l[i]=d from hd;have HS:=Lib.hid<|Ig (j:=i-k) hit HD.out;cases hq:((d.toNat:Int)==34)
    rotate_left
    ·have HW:=Lib.hid (show T=(6,i-k+1,0)from by rw[HT2.out,hrel.out,HS.out,if_neg (by simp[Do<|cQ (m:=34) hq]),if_pos<|cQ (m:=34) hq])
     go_wp2_with (first|(go_at_call 205;refine qmm (be _ _) ?_)|(go_at_call 206;refine qmm (bU _ _) ?_)|(go_at_call 207;refine qmm (dt _ _) ?_)|(go_at_call 208;refine qmm (cg _ _) ?_)|(go_at_call 209;refine qmm (aZ _ _) ?_)|(go_at_call 211;refine qmm (eV _ _ k rfl _ hlt hl) ?_))
     exact bodyPost_ret (v:=.agg #[.int .i64<|(i:Int)+1-k,.int .i64 6,.int .i64 0,.int .i64 0]) (by simp[results,results192,go_sem]) rfl (ia HW.out (by omega) (by omega) qEx)
    cases had:aS d
    ·have HW:=Lib.hid (show T=(6,i-k,1)from by rw[HT2.out,hrel.out,HS.out,if_pos had])
     go_wp2_with (first|(go_at_call 205;refine qmm (be _ _) ?_)|(go_at_call 206;refine qmm (bU _ _) ?_)|(go_at_call 207;refine qmm (dt _ _) ?_)|(go_at_call 208;refine qmm (cg _ _) ?_)|(go_at_call 209;refine qmm (aZ _ _) ?_)|(go_at_call 211;refine qmm (eV _ _ k rfl _ hlt hl) ?_))
     exact bodyPost_ret (v:=.agg #[.int .i64 0,.int .i64 0,.int .i64 1,.int .i64 i]) (by simp[results,results192,go_sem]) rfl (da HW.out (by omega) (by omega) (by omega) qEx)
    cases hpr:dW d
    ·have HW:=Lib.hid (show T=(6,0,2)from by rw[HT2.out,hrel.out,HS.out,if_neg (by simp[had]),if_neg<|bK (m:=34) hq,if_pos<|.inr<|IV had hpr])
     go_wp2_with (first|(go_at_call 205;refine qmm (be _ _) ?_)|(go_at_call 206;refine qmm (bU _ _) ?_)|(go_at_call 207;refine qmm (dt _ _) ?_)|(go_at_call 208;refine qmm (cg _ _) ?_)|(go_at_call 209;refine qmm (aZ _ _) ?_)|(go_at_call 211;refine qmm (eV _ _ k rfl _ hlt hl) ?_))
     exact bodyPost_ret (v:=.agg #[.int .i64 0,.int .i64 0,.int .i64 2,.int .i64 k]) (by simp[results,results192,go_sem]) rfl (da HW.out (by omega) (by omega) (by omega) qEx)
    cases h92:((d.toNat:Int)==92)
    rotate_left
    ·have HW:=Lib.hid (show T=(6,0,2)from by rw[HT2.out,hrel.out,HS.out,if_neg (by simp[had]),if_neg<|bK (m:=34) hq,if_pos<|.inl<|cQ (m:=92) h92])
     go_wp2_with (first|(go_at_call 205;refine qmm (be _ _) ?_)|(go_at_call 206;refine qmm (bU _ _) ?_)|(go_at_call 207;refine qmm (dt _ _) ?_)|(go_at_call 208;refine qmm (cg _ _) ?_)|(go_at_call 209;refine qmm (aZ _ _) ?_)|(go_at_call 211;refine qmm (eV _ _ k rfl _ hlt hl) ?_))
     exact bodyPost_ret (v:=.agg #[.int .i64 0,.int .i64 0,.int .i64 2,.int .i64 k]) (by simp[results,results192,go_sem]) rfl (da HW.out (by omega) (by omega) (by omega) qEx)
    ·go_wp2_with (first|(go_at_call 205;refine qmm (be _ _) ?_)|(go_at_call 206;refine qmm (bU _ _) ?_)|(go_at_call 207;refine qmm (dt _ _) ?_)|(go_at_call 208;refine qmm (cg _ _) ?_)|(go_at_call 209;refine qmm (aZ _ _) ?_)|(go_at_call 211;refine qmm (eV _ _ k rfl _ hlt hl) ?_))
     go_roundg (l.length-(i+1))
     case measure=>omega
     case rel=>exact⟨i+1,rfl,rfl,by omega,by omega,by go_num,Lib.hid (by rw[hrel.out,HS.out,if_neg (by simp[had]),if_neg<|bK (m:=34) hq,if_neg λh=>h.elim (bK (m:=92) h92)<|HP hpr];congr 1;omega)⟩
   ·have HW:=Lib.hid (show T=(6,0,2)from by rw[HT2.out,hrel.out,Cn<|by omega])
    go_wp2_with (first|(go_at_call 205;refine qmm (be _ _) ?_)|(go_at_call 206;refine qmm (bU _ _) ?_)|(go_at_call 207;refine qmm (dt _ _) ?_)|(go_at_call 208;refine qmm (cg _ _) ?_)|(go_at_call 209;refine qmm (aZ _ _) ?_)|(go_at_call 211;refine qmm (eV _ _ k rfl _ hlt hl) ?_))
    exact bodyPost_ret (v:=.agg #[.int .i64 0,.int .i64 0,.int .i64 2,.int .i64 k]) (by simp[results,results192,go_sem]) rfl (da HW.out (by omega) (by omega) (by omega) qEx)
 cases hdg:bD c
 rotate_left
 ·have HT2:=Lib.hid (show T=(5,eO (l.drop k))from by
   rw[<-HT.out,if_neg HA.out,if_neg (by simp[bm,cF,upperB,bD]at hdg⊢;omega),if_pos hdg])
  go_wp2_with (first|(go_at_call 205;refine qmm (be _ _) ?_)|(go_at_call 206;refine qmm (bU _ _) ?_)|(go_at_call 207;refine qmm (dt _ _) ?_)|(go_at_call 208;refine qmm (cg _ _) ?_)|(go_at_call 209;refine qmm (aZ _ _) ?_)|(go_at_call 211;refine qmm (eV _ _ k rfl _ hlt hl) ?_))
  go_loopg [7] (l.length-k) (λg n wx=>∃i:Nat,g=l.length-i∧wx=w.alloc CK∧k<=i∧i<=l.length∧n=.int .i64 i∧Hid (spanN bD (l.drop k)=i-k+spanN bD (l.drop i)))
  case atStart=>exact⟨k,rfl,rfl,aaf _,by omega,rfl,Lib.hid<|by omega⟩
  case round=>
   obtain⟨i,rfl,rfl,hki,hil,rfl,hrel⟩:=hrel;by_cases hit:i<l.length
   ·skip
    obtain⟨d,hd⟩:∃c,({data:=l.toArray}:ByteArray)[i]'hit=c:=⟨_,rfl⟩;have HD:=Lib.hid<|show l[i]=d from hd;cases hdd:bD d
    ·skip
     have HN:=Lib.hid (show spanN bD (l.drop k)=i-k from by rw[hrel.out,sH hit HD.out hdd];omega);by_cases h1:1<i-k
     ·have h1':(1:Int)<i-k:=by omega
      cases h48:((c.toNat:Int)==48)
      ·have HG:=Lib.hid (show 1<i-k->¬((l.drop k).getD 0 0).toNat=48 from λ_=>by rw[aN h0 HC0.out];exact bK (m:=48) h48);by_cases h15:15<i-k
       ·have h15':(15:Int)<i-k:=by omega
        have HW:=Lib.hid (show T=(5,0,3)from by rw[HT2.out,qc HN.out HG.out h15])
        go_wp2_with (first|(go_at_call 205;refine qmm (be _ _) ?_)|(go_at_call 206;refine qmm (bU _ _) ?_)|(go_at_call 207;refine qmm (dt _ _) ?_)|(go_at_call 208;refine qmm (cg _ _) ?_)|(go_at_call 209;refine qmm (aZ _ _) ?_)|(go_at_call 211;refine qmm (eV _ _ k rfl _ hlt hl) ?_))
        exact bodyPost_ret (v:=.agg #[.int .i64 0,.int .i64 0,.int .i64 3,.int .i64 k]) (by simp[results,results192,go_sem]) rfl (da HW.out (by omega) (by omega) (by omega) qEx)
       ·have h15':¬((15:Int)<i-k):=by omega
        have HW:=Lib.hid (show T=(5,i-k,0)from by rw[HT2.out,iX HN.out HG.out h15])
        go_wp2_with (first|(go_at_call 205;refine qmm (be _ _) ?_)|(go_at_call 206;refine qmm (bU _ _) ?_)|(go_at_call 207;refine qmm (dt _ _) ?_)|(go_at_call 208;refine qmm (cg _ _) ?_)|(go_at_call 209;refine qmm (aZ _ _) ?_)|(go_at_call 211;refine qmm (eV _ _ k rfl _ hlt hl) ?_))
        exact bodyPost_ret (v:=.agg #[.int .i64<|(i:Int)-k,.int .i64 5,.int .i64 0,.int .i64 0]) (by simp[results,results192,go_sem]) rfl (ia HW.out (by omega) (by omega) qEx)
      ·skip
       have HW:=Lib.hid (show T=(5,0,2)from by rw[HT2.out,qx HN.out h1 h0 HC0.out h48])
       go_wp2_with (first|(go_at_call 205;refine qmm (be _ _) ?_)|(go_at_call 206;refine qmm (bU _ _) ?_)|(go_at_call 207;refine qmm (dt _ _) ?_)|(go_at_call 208;refine qmm (cg _ _) ?_)|(go_at_call 209;refine qmm (aZ _ _) ?_)|(go_at_call 211;refine qmm (eV _ _ k rfl _ hlt hl) ?_))
       exact bodyPost_ret (v:=.agg #[.int .i64 0,.int .i64 0,.int .i64 2,.int .i64 k]) (by simp[results,results192,go_sem]) rfl (da HW.out (by omega) (by omega) (by omega) qEx)
     ·have h1':¬((1:Int)<i-k):=by omega
      have h15':¬((15:Int)<i-k):=by omega
      have HW:=Lib.hid (show T=(5,i-k,0)from by rw[HT2.out,iX HN.out (λh=>absurd h h1)<|by omega])
      go_wp2_with (first|(go_at_call 205;refine qmm (be _ _) ?_)|(go_at_call 206;refine qmm (bU _ _) ?_)|(go_at_call 207;refine qmm (dt _ _) ?_)|(go_at_call 208;refine qmm (cg _ _) ?_)|(go_at_call 209;refine qmm (aZ _ _) ?_)|(go_at_call 211;refine qmm (eV _ _ k rfl _ hlt hl) ?_))
      exact bodyPost_ret (v:=.agg #[.int .i64<|(i:Int)-k,.int .i64 5,.int .i64 0,.int .i64 0]) (by simp[results,results192,go_sem]) rfl (ia HW.out (by omega) (by omega) qEx)
    ·go_wp2_with (first|(go_at_call 205;refine qmm (be _ _) ?_)|(go_at_call 206;refine qmm (bU _ _) ?_)|(go_at_call 207;refine qmm (dt _ _) ?_)|(go_at_call 208;refine qmm (cg _ _) ?_)|(go_at_call 209;refine qmm (aZ _ _) ?_)|(go_at_call 211;refine qmm (eV _ _ k rfl _ hlt hl) ?_))
     go_roundg (l.length-(i+1))
     case measure=>omega
     case rel=>exact⟨i+1,rfl,rfl,by omega,by omega,by go_num,Lib.hid (by rw[hrel.out,ng hit HD.out hdd];omega)⟩
   ·skip
    have HN:=Lib.hid (show spanN bD (l.drop k)=i-k from by rw[hrel.out,uF<|by omega];omega);by_cases h1:1<i-k
    ·have h1':(1:Int)<i-k:=by omega
     cases h48:((c.toNat:Int)==48)
     ·have HG:=Lib.hid (show 1<i-k->¬((l.drop k).getD 0 0).toNat=48 from λ_=>by rw[aN h0 HC0.out];exact bK (m:=48) h48);by_cases h15:15<i-k
      ·have h15':(15:Int)<i-k:=by omega
       have HW:=Lib.hid (show T=(5,0,3)from by rw[HT2.out,qc HN.out HG.out h15])
       go_wp2_with (first|(go_at_call 205;refine qmm (be _ _) ?_)|(go_at_call 206;refine qmm (bU _ _) ?_)|(go_at_call 207;refine qmm (dt _ _) ?_)|(go_at_call 208;refine qmm (cg _ _) ?_)|(go_at_call 209;refine qmm (aZ _ _) ?_)|(go_at_call 211;refine qmm (eV _ _ k rfl _ hlt hl) ?_))
       exact bodyPost_ret (v:=.agg #[.int .i64 0,.int .i64 0,.int .i64 3,.int .i64 k]) (by simp[results,results192,go_sem]) rfl (da HW.out (by omega) (by omega) (by omega) qEx)
      ·have h15':¬((15:Int)<i-k):=by omega
       have HW:=Lib.hid (show T=(5,i-k,0)from by rw[HT2.out,iX HN.out HG.out h15])
       go_wp2_with (first|(go_at_call 205;refine qmm (be _ _) ?_)|(go_at_call 206;refine qmm (bU _ _) ?_)|(go_at_call 207;refine qmm (dt _ _) ?_)|(go_at_call 208;refine qmm (cg _ _) ?_)|(go_at_call 209;refine qmm (aZ _ _) ?_)|(go_at_call 211;refine qmm (eV _ _ k rfl _ hlt hl) ?_))
       exact bodyPost_ret (v:=.agg #[.int .i64<|(i:Int)-k,.int .i64 5,.int .i64 0,.int .i64 0]) (by simp[results,results192,go_sem]) rfl (ia HW.out (by omega) (by omega) qEx)
     ·skip
      have HW:=Lib.hid (show T=(5,0,2)from by rw[HT2.out,qx HN.out h1 h0 HC0.out h48])
      go_wp2_with (first|(go_at_call 205;refine qmm (be _ _) ?_)|(go_at_call 206;refine qmm (bU _ _) ?_)|(go_at_call 207;refine qmm (dt _ _) ?_)|(go_at_call 208;refine qmm (cg _ _) ?_)|(go_at_call 209;refine qmm (aZ _ _) ?_)|(go_at_call 211;refine qmm (eV _ _ k rfl _ hlt hl) ?_))
      exact bodyPost_ret (v:=.agg #[.int .i64 0,.int .i64 0,.int .i64 2,.int .i64 k]) (by simp[results,results192,go_sem]) rfl (da HW.out (by omega) (by omega) (by omega) qEx)
    ·have h1':¬((1:Int)<i-k):=by omega
     have h15':¬((15:Int)<i-k):=by omega
     have HW:=Lib.hid (show T=(5,i-k,0)from by rw[HT2.out,iX HN.out (λh=>absurd h h1)<|by omega])
     go_wp2_with (first|(go_at_call 205;refine qmm (be _ _) ?_)|(go_at_call 206;refine qmm (bU _ _) ?_)|(go_at_call 207;refine qmm (dt _ _) ?_)|(go_at_call 208;refine qmm (cg _ _) ?_)|(go_at_call 209;refine qmm (aZ _ _) ?_)|(go_at_call 211;refine qmm (eV _ _ k rfl _ hlt hl) ?_))
     exact bodyPost_ret (v:=.agg #[.int .i64<|(i:Int)-k,.int .i64 5,.int .i64 0,.int .i64 0]) (by simp[results,results192,go_sem]) rfl (ia HW.out (by omega) (by omega) qEx)
 have HDg:=Lib.hid (show¬bD c=true from by simp[hdg]);have HQt:=Lib.hid<|bK (m:=34) h34;cases hle:bm c
 rotate_left
 ·have HT2:=Lib.hid (show bZ (l.drop k)=T from by rw[<-HT.out,if_neg HA.out,if_pos hle]);obtain⟨a0,a1,a2,a3,hform⟩:=IZ k T;have HF:=Lib.hid hform;have CW:=Lib.hid (λw=>Qb l k k rfl w hlt (by rw[HC.out];exact hle) hl);clear hform;have hbe:cF c=true∨(cF c=false∧upperB c=true):=by cases h:cF c<;>simp_all[bm]
  rcases hbe with hlo|⟨hlo,hup⟩
  all_goals
   go_wp2_with (first|(go_at_call 205;refine qmm (be _ _) ?_)|(go_at_call 206;refine qmm (bU _ _) ?_)|(go_at_call 207;refine qmm (dt _ _) ?_)|(go_at_call 208;refine qmm (cg _ _) ?_)|(go_at_call 209;refine qmm (aZ _ _) ?_)|(go_at_call 211;refine qmm (eV _ _ k rfl _ hlt hl) ?_))
   refine(CW.out _).mono ?_;rintro e w1 ⟨rfl,hext⟩;rw[HT2.out,HF.out];have hsz:=hext.size;have hc0:=hext.cell (p:=⟨w.heap.size,0,none⟩) (by simp);have hc1:=hext.cell (p:=⟨w.heap.size,1,none⟩) (by simp);have hc2:=hext.cell (p:=⟨w.heap.size,2,none⟩) (by simp);have hc3:=hext.cell (p:=⟨w.heap.size,3,none⟩) (by simp);have hf0:=hext.frozen (p:=⟨w.heap.size,0,none⟩) (by simp);have hf1:=hext.frozen (p:=⟨w.heap.size,1,none⟩) (by simp);have hf2:=hext.frozen (p:=⟨w.heap.size,2,none⟩) (by simp);have hf3:=hext.frozen (p:=⟨w.heap.size,3,none⟩) (by simp);have HX:=Lib.hid hext;clear hext;simp at hsz hc0 hc1 hc2 hc3 hf0 hf1 hf2 hf3
   go_wp2_with (first|(go_at_call 205;refine qmm (be _ _) ?_)|(go_at_call 206;refine qmm (bU _ _) ?_)|(go_at_call 207;refine qmm (dt _ _) ?_)|(go_at_call 208;refine qmm (cg _ _) ?_)|(go_at_call 209;refine qmm (aZ _ _) ?_)|(go_at_call 211;refine qmm (eV _ _ k rfl _ hlt hl) ?_))
   exact bodyPost_ret (v:=.agg #[.int .i64 a0,.int .i64 a1,.int .i64 a2,.int .i64 a3]) (by simp[results,results192,go_sem,hc0,hc1,hc2,hc3]) rfl ⟨by rw[HF.out],(((((Ext.refl w).alloc _).trans HX.out).setCell (aaf _) _).setCell (aaf _) _).setCell (aaf _) _|>.setCell (aaf _) _⟩
 have HLt:=Lib.hid (show¬bm c=true from by simp[hle]);have hlo:cF c=false:=by cases h:cF c<;>simp_all[bm]
 have hup:upperB c=false:=by cases h:upperB c<;>simp_all[bm]
 have HSg:=Lib.hid (KP (l.drop k));have HG0:=Lib.hid (aN h0 HC0.out);have HT2:=Lib.hid (show T=if signLen (l.drop k)=0 then(0,0,2)else(8,signLen (l.drop k),0)from by
  rw[<-HSg.out,HG0.out,<-HT.out,if_neg HA.out,if_neg HLt.out,if_neg HDg.out,if_neg HQt.out])
 obtain⟨m,hm⟩:∃m,signLen (l.drop k)=m:=⟨_,rfl⟩;have HM:=Lib.hid hm;by_cases hm0:m=0
 ·have HW:=Lib.hid (show T=(0,0,2)from by rw[HT2.out,HM.out,if_pos hm0]);subst hm0
  go_wp2_with (first|(go_at_call 205;refine qmm (be _ _) ?_)|(go_at_call 206;refine qmm (bU _ _) ?_)|(go_at_call 207;refine qmm (dt _ _) ?_)|(go_at_call 208;refine qmm (cg _ _) ?_)|(go_at_call 209;refine qmm (aZ _ _) ?_)|(go_at_call 211;refine qmm (eV _ _ k rfl _ hlt hl) ?_))
  exact bodyPost_ret (v:=.agg #[.int .i64 0,.int .i64 0,.int .i64 2,.int .i64 k]) (by simp[results,results192,go_sem]) rfl (da HW.out (by omega) (by omega) (by omega) qEx)
 ·have HW:=Lib.hid (show T=(8,m,0)from by rw[HT2.out,HM.out,if_neg hm0]);have hmb:((m:Int)==0)=false:=by simp;omega
  go_wp2_with (first|(go_at_call 205;refine qmm (be _ _) ?_)|(go_at_call 206;refine qmm (bU _ _) ?_)|(go_at_call 207;refine qmm (dt _ _) ?_)|(go_at_call 208;refine qmm (cg _ _) ?_)|(go_at_call 209;refine qmm (aZ _ _) ?_)|(go_at_call 211;refine qmm (eV _ _ k rfl _ hlt hl) ?_))
  exact bodyPost_ret (v:=.agg #[.int .i64 m,.int .i64 8,.int .i64 0,.int .i64 0]) (by simp[results,results192,go_sem]) rfl (ia HW.out (by omega) (by omega) qEx)
def Fp(c:UInt8):Int:=Lib.indexByte rU c
theorem GR:∀(l:YB) (c:UInt8),0<=Lib.indexByte l c↔l.contains c=true
 |[],c=>by simp[Lib.indexByte]
 | b::l,c=>by
  have ih:=GR l c;have hg:=Lib.indexByte_ge l c;unfold Lib.indexByte;by_cases h:b=c
  ·simp[h]
  ·have h':¬c=b:=λe=>h e.symm;simp only[aaq,h,if_false,List.contains_cons,h',Bool.or_eq_true,false_or];rw[<-ih];split<;>omega
theorem rn(c:UInt8):0<=Fp c↔rU.contains c=true:=GR _ _
theorem mY(c:UInt8)(w:World):Calls prog 134 #[.string ⟨#[40,41,91,93,58,44,61,43,45,42,60,63]⟩,.int .u8 (c.toNat:Int)] w λe w'=>e=.returned (.int .i64<|Fp c)∧w=w':=by
 refine(Ic _ _ w).mono ?_;rintro e w' ⟨rfl,rfl⟩;refine⟨bu ?_,I⟩;have :((c.toNat:Int)).toNat.toUInt8=c:=by simp
 rw[this];rfl
set_option maxHeartbeats 4000000 in
theorem JX(l:YB)(w:World)(h0:0<l.length)(E:l.length<=281474976710656):Calls prog 82 #[.string ⟨l.toArray⟩] w λe w'=>e=.returned (.tuple #[.int .i64 ((tokenT l).1:Nat),.int .i64 ((tokenT l).2.1:Nat),.int .i64 ((tokenT l).2.2:Nat)])∧w=w':=by
 obtain⟨c0,Z⟩:∃c,({data:=l.toArray}:ByteArray)[0]'h0=c:=⟨_,rfl⟩;have HC0:=Lib.hid<|show l[0]=c0 from Z;have HT:=Lib.hid<|yF h0 HC0.out
 go_enter func82,ntmps82
 cases ha:aS c0
 ·skip
  have HW:=Lib.hid (show tokenT l=(0,0,1)from by rw[HT.out,if_pos ha])
  go_wp2_with (first|(go_at_call 81;refine qmm (bb _ _) ?_)|(go_at_call 129;refine qmm (br _ _) ?_)|(go_at_call 131;refine qmm (dP _ _) ?_)|(go_at_call 130;refine qmm (qI _ _ h0 E) ?_)|(go_at_call 132;refine qmm (kp _ _ E) ?_)|(go_at_call 133;refine qmm (kn _ _ h0 E) ?_)|(go_at_call 134;refine qmm (mY _ _) ?_))
  go_ret3
  exact⟨by rw[HW.out];rfl,I⟩
 have HA:=Lib.hid (show¬aS c0=false from by simp[ha]);cases G:bm c0
 rotate_left
 ·skip
  have HW:=Lib.hid (show tokenT l=bZ l from by rw[HT.out,if_neg HA.out,if_pos G])
  go_wp2_with (first|(go_at_call 81;refine qmm (bb _ _) ?_)|(go_at_call 129;refine qmm (br _ _) ?_)|(go_at_call 131;refine qmm (dP _ _) ?_)|(go_at_call 130;refine qmm (qI _ _ h0 E) ?_)|(go_at_call 132;refine qmm (kp _ _ E) ?_)|(go_at_call 133;refine qmm (kn _ _ h0 E) ?_)|(go_at_call 134;refine qmm (mY _ _) ?_))
  go_ret3
  exact⟨by rw[HW.out];rfl,I⟩
 have HL:=Lib.hid (show¬bm c0=true from by simp[G]);cases hd:bD c0
 rotate_left
 ·skip
  have HW:=Lib.hid (show tokenT l=(5,eO l)from by rw[HT.out,if_neg HA.out,if_neg HL.out,if_pos hd])
  go_wp2_with (first|(go_at_call 81;refine qmm (bb _ _) ?_)|(go_at_call 129;refine qmm (br _ _) ?_)|(go_at_call 131;refine qmm (dP _ _) ?_)|(go_at_call 130;refine qmm (qI _ _ h0 E) ?_)|(go_at_call 132;refine qmm (kp _ _ E) ?_)|(go_at_call 133;refine qmm (kn _ _ h0 E) ?_)|(go_at_call 134;refine qmm (mY _ _) ?_))
  go_ret3
  exact⟨by rw[HW.out];rfl,I⟩
 have HD:=Lib.hid (show¬bD c0=true from by simp[hd]);cases J:((c0.toNat:Int)==34)
 rotate_left
 ·skip
  have HW:=Lib.hid (show tokenT l=(6,quotedT l.tail 1)from by rw[HT.out,if_neg HA.out,if_neg HL.out,if_neg HD.out,if_pos<|cQ (m:=34) J])
  go_wp2_with (first|(go_at_call 81;refine qmm (bb _ _) ?_)|(go_at_call 129;refine qmm (br _ _) ?_)|(go_at_call 131;refine qmm (dP _ _) ?_)|(go_at_call 130;refine qmm (qI _ _ h0 E) ?_)|(go_at_call 132;refine qmm (kp _ _ E) ?_)|(go_at_call 133;refine qmm (kn _ _ h0 E) ?_)|(go_at_call 134;refine qmm (mY _ _) ?_))
  go_ret3
  exact⟨by rw[HW.out];rfl,I⟩
 have HQ:=Lib.hid<|bK (m:=34) J;cases O:((c0.toNat:Int)==61)
 ·skip
  have HE:=Lib.hid<|show¬(c0.toNat=61∧1<l.length∧(l.getD 1 0).toNat=61)from λh=>bK (m:=61) O h.1;by_cases hs:0<=Fp c0
  ·skip
   have HW:=Lib.hid (show tokenT l=(8,1,0)from by rw[HT.out,if_neg HA.out,if_neg HL.out,if_neg HD.out,if_neg HQ.out,if_neg HE.out,if_pos<|(rn c0).1 hs])
   go_wp2_with (first|(go_at_call 81;refine qmm (bb _ _) ?_)|(go_at_call 129;refine qmm (br _ _) ?_)|(go_at_call 131;refine qmm (dP _ _) ?_)|(go_at_call 130;refine qmm (qI _ _ h0 E) ?_)|(go_at_call 132;refine qmm (kp _ _ E) ?_)|(go_at_call 133;refine qmm (kn _ _ h0 E) ?_)|(go_at_call 134;refine qmm (mY _ _) ?_))
   go_ret3
   exact⟨by rw[HW.out];rfl,I⟩
  ·skip
   have HW:=Lib.hid (show tokenT l=(0,0,2)from by rw[HT.out,if_neg HA.out,if_neg HL.out,if_neg HD.out,if_neg HQ.out,if_neg HE.out,if_neg λh=>hs<|(rn c0).2 h])
   go_wp2_with (first|(go_at_call 81;refine qmm (bb _ _) ?_)|(go_at_call 129;refine qmm (br _ _) ?_)|(go_at_call 131;refine qmm (dP _ _) ?_)|(go_at_call 130;refine qmm (qI _ _ h0 E) ?_)|(go_at_call 132;refine qmm (kp _ _ E) ?_)|(go_at_call 133;refine qmm (kn _ _ h0 E) ?_)|(go_at_call 134;refine qmm (mY _ _) ?_))
   go_ret3
   exact⟨by rw[HW.out];rfl,I⟩
 by_cases h1:1<l.length
 rotate_left
 ·skip
  have HE:=Lib.hid<|show¬(c0.toNat=61∧1<l.length∧(l.getD 1 0).toNat=61)from λh=>h1 h.2.1;by_cases hs:0<=Fp c0
  ·skip
   have HW:=Lib.hid (show tokenT l=(8,1,0)from by rw[HT.out,if_neg HA.out,if_neg HL.out,if_neg HD.out,if_neg HQ.out,if_neg HE.out,if_pos<|(rn c0).1 hs])
   go_wp2_with (first|(go_at_call 81;refine qmm (bb _ _) ?_)|(go_at_call 129;refine qmm (br _ _) ?_)|(go_at_call 131;refine qmm (dP _ _) ?_)|(go_at_call 130;refine qmm (qI _ _ h0 E) ?_)|(go_at_call 132;refine qmm (kp _ _ E) ?_)|(go_at_call 133;refine qmm (kn _ _ h0 E) ?_)|(go_at_call 134;refine qmm (mY _ _) ?_))
   go_ret3
   exact⟨by rw[HW.out];rfl,I⟩
  ·skip
   have HW:=Lib.hid (show tokenT l=(0,0,2)from by rw[HT.out,if_neg HA.out,if_neg HL.out,if_neg HD.out,if_neg HQ.out,if_neg HE.out,if_neg λh=>hs<|(rn c0).2 h])
   go_wp2_with (first|(go_at_call 81;refine qmm (bb _ _) ?_)|(go_at_call 129;refine qmm (br _ _) ?_)|(go_at_call 131;refine qmm (dP _ _) ?_)|(go_at_call 130;refine qmm (qI _ _ h0 E) ?_)|(go_at_call 132;refine qmm (kp _ _ E) ?_)|(go_at_call 133;refine qmm (kn _ _ h0 E) ?_)|(go_at_call 134;refine qmm (mY _ _) ?_))
   go_ret3
   exact⟨by rw[HW.out];rfl,I⟩
 obtain⟨c1,hc1⟩:∃c,({data:=l.toArray}:ByteArray)[1]'h1=c:=⟨_,rfl⟩;have HC1:=Lib.hid<|show l[1]=c1 from hc1;cases U:((c1.toNat:Int)==61)
 ·skip
  have HE:=Lib.hid (show¬(c0.toNat=61∧1<l.length∧(l.getD 1 0).toNat=61)from λh=>bK (m:=61) U (by rw[<-aN h1 HC1.out];exact h.2.2));by_cases hs:0<=Fp c0
  ·skip
   have HW:=Lib.hid (show tokenT l=(8,1,0)from by rw[HT.out,if_neg HA.out,if_neg HL.out,if_neg HD.out,if_neg HQ.out,if_neg HE.out,if_pos<|(rn c0).1 hs])
   go_wp2_with (first|(go_at_call 81;refine qmm (bb _ _) ?_)|(go_at_call 129;refine qmm (br _ _) ?_)|(go_at_call 131;refine qmm (dP _ _) ?_)|(go_at_call 130;refine qmm (qI _ _ h0 E) ?_)|(go_at_call 132;refine qmm (kp _ _ E) ?_)|(go_at_call 133;refine qmm (kn _ _ h0 E) ?_)|(go_at_call 134;refine qmm (mY _ _) ?_))
   go_ret3
   exact⟨by rw[HW.out];rfl,I⟩
  ·skip
   have HW:=Lib.hid (show tokenT l=(0,0,2)from by rw[HT.out,if_neg HA.out,if_neg HL.out,if_neg HD.out,if_neg HQ.out,if_neg HE.out,if_neg λh=>hs<|(rn c0).2 h])
   go_wp2_with (first|(go_at_call 81;refine qmm (bb _ _) ?_)|(go_at_call 129;refine qmm (br _ _) ?_)|(go_at_call 131;refine qmm (dP _ _) ?_)|(go_at_call 130;refine qmm (qI _ _ h0 E) ?_)|(go_at_call 132;refine qmm (kp _ _ E) ?_)|(go_at_call 133;refine qmm (kn _ _ h0 E) ?_)|(go_at_call 134;refine qmm (mY _ _) ?_))
   go_ret3
   exact⟨by rw[HW.out];rfl,I⟩
 ·skip
  have HW:=Lib.hid (show tokenT l=(8,2,0)from by rw[HT.out,if_neg HA.out,if_neg HL.out,if_neg HD.out,if_neg HQ.out,if_pos ⟨cQ (m:=61) O,h1,by rw[aN h1 HC1.out];exact cQ (m:=61) U⟩])
  go_wp2_with (first|(go_at_call 81;refine qmm (bb _ _) ?_)|(go_at_call 129;refine qmm (br _ _) ?_)|(go_at_call 131;refine qmm (dP _ _) ?_)|(go_at_call 130;refine qmm (qI _ _ h0 E) ?_)|(go_at_call 132;refine qmm (kp _ _ E) ?_)|(go_at_call 133;refine qmm (kn _ _ h0 E) ?_)|(go_at_call 134;refine qmm (mY _ _) ?_))
  go_ret3
  exact⟨by rw[HW.out];rfl,I⟩
def cY(l:List TokZ):List Value:=l.flatMap λt=>[.int .i64 t.kind,.string ⟨t.lead.toArray⟩,.string ⟨t.text.toArray⟩]
def vP(w:World)(v:Value)(l:List TokZ):Prop:=∃A c,v=.slice A l.length c∧l.length<=c∧c<=maxLen∧Row w 3 A l.length (cY l)
def ScanPost(l:YB)(w:World)(e:Ending)(w':World):Prop:=
 ∃v,e=.returned (.tuple #[v,.string ⟨(fz l).tail.toArray⟩,.int .i64 ((fz l).place:Nat),.int .i64 ((fz l).err:Nat)])∧vP w' v (fz l).toks∧Ext w w'
theorem Hl:(prog.info? 93).map (λi=>(i.zero,i.size,i.bytes))=some (some<|.agg #[.int .i64 0,.string ByteArray.empty,.string ByteArray.empty],3,40):=by kernel_rfl
theorem xW(l:List TokZ)(t:TokZ):cY (l++[t])=cY l++[.int .i64 t.kind,.string ⟨t.lead.toArray⟩,.string ⟨t.text.toArray⟩]:=by simp[cY]
variable{v:Value}
theorem yQ{w:World}{base:Nat}{l:List TokZ}(h:w.ownsRow base 93 3 v l.length<|cY l):vP w v l:=by obtain⟨A,c,rfl,E,G⟩:=Ju h;exact⟨A,c,I,E,G,Row.of_own h⟩
theorem nj(w:World):vP w (.slice none 0 0) []:=⟨none,0,rfl,aaf _,aar _,Row.none_⟩
variable{l:YB}
theorem lK{w:World}{r:Scanned}{tail:YB}{p e:Int}(h:fz l=r)(ht:r.tail=tail)(hp:(r.place:Int)=p)(E:(r.err:Int)=e)(hr:vP w' v r.toks)(hx:Ext w w'):
  ScanPost l w (.returned<|.tuple #[v,.string ⟨tail.toArray⟩,.int .i64 p,.int .i64 e]) w':=by
 subst h;subst ht;subst hp;subst E;exact⟨v,I,hr,hx⟩
def OY (l:List UInt8) (w:World) (R:Scanned) (g:Nat) (s2 s6 s7:Value) (wx:World):Prop:=
  ∃ (i start F:Nat) (acc:List TokZ),start<=i∧i<=l.length∧g=l.length-i∧s6=.int .i64 start∧s7=.int .i64 i∧acc.length<=i∧l.length-start<F∧
    scanT F (l.drop start) start acc=R∧aO false (l.drop start) 0=aO false (l.drop i) (i-start)∧wx.ownsRow w.heap.size 93 3 s2 acc.length (cY acc)∧Ext w wx
set_option maxHeartbeats 4000000 in
theorem Ry (l:List UInt8) (w:World) (hl:l.length<=281474976710656):Calls prog 45 #[.string ⟨l.toArray⟩] w (ScanPost l w):=by
 have hx:=xP;have hx2:=oP;by_cases h4:4096<l.length
 ·have HS:=Lib.hid (show fz l=⟨[],[],4096,3⟩from by simp[fz,h4])
  go_enter func45,ntmps45
  go_wp2
  go_step3
  go_wp2
  rw[Exit.noGoto_ret];exact bodyPost_ret (v:=.tuple #[.slice none 0 0,.string ⟨#[]⟩,.int .i64 4096,.int .i64 3]) (by simp[results,results45,go_sem]) rfl<|lK HS.out rfl rfl rfl (nj _)<|Ext.refl _
 ·obtain ⟨R,hR⟩:∃R,fz l=R:=⟨_,rfl⟩;have HS:=Lib.hid hR;have H0:=Lib.hid (show scanT (l.length+1) (l.drop 0) 0 []=R from by rw[<-hR];simp[fz,h4]);clear hR
  go_enter func45,ntmps45
  go_wp2
  go_step3
  go_wp2
  go_step3
  go_wp2
  go_loopg [2,6,7] l.length (λg s2 s6 s7 wx=>OY l w R g s2 s6 s7 wx)
  case atStart=>exact⟨0,0,l.length+1,[],aaf _,aar _,by omega,rfl,rfl,aaf _,by omega,H0.out,by simp,World.ownsRow_nil _ _ _ _,Ext.refl _⟩
  case round=>
   obtain⟨i,start,F,acc,hsi,hil,rfl,rfl,rfl,hacc,hF,hscan,hlead,hown,hext⟩:=hrel;have HSc:=Lib.hid hscan;clear hscan;have HLd:=Lib.hid hlead;clear hlead;have HO:=Lib.hid hown;clear hown;have HE:=Lib.hid hext;clear hext;by_cases hlt:i<l.length
   ·obtain⟨c,hc⟩:∃c,({data:=l.toArray}:ByteArray)[i]'hlt=c:=⟨_,rfl⟩;have HC:=Lib.hid<|show l[i]=c from hc;cases hw:bL c
    rotate_left
    ·go_wp2_with (first|(go_at_call 80;refine qmm (gH _ _) ?_)|(go_at_call 81;refine qmm (bb _ _) ?_))
     go_roundg (l.length-(i+1))
     case measure=>omega
     case rel=>exact⟨i+1,start,F,acc,by omega,by omega,rfl,rfl,by go_num,by omega,hF,HSc.out,by rw[HLd.out,zM hlt HC.out hw];congr 1;omega,HO.out,HE.out⟩
    cases h35:((c.toNat:Int)==35)
    rotate_left
    ·go_wp2_with (first|(go_at_call 80;refine qmm (gH _ _) ?_)|(go_at_call 81;refine qmm (bb _ _) ?_))
     obtain⟨wo,rfl⟩:∃wo:World,wo=wr:=⟨_,rfl⟩;have HL2:=Lib.hid<|HLd.out.trans<|AR (n:=i-start) hlt HC.out<|cQ (m:=35) h35;have HCI:=Lib.hid<|cQ (m:=35) h35;clear h35 hw hc HLd
     go_loopg [2,7] (l.length-i) (λg t2 t7 wy=>∃j,i<=j∧j<=l.length∧g=l.length-j∧t7=.int .i64 (j:Nat)∧t2=u2∧wy=wo∧Hid (aO false (l.drop start) 0=aO true (l.drop j) (j-start)))
     case atStart=>exact⟨i,aaf _,by omega,rfl,rfl,rfl,rfl,HL2⟩
     case round=>
      obtain⟨j,hij,hjl,rfl,rfl,rfl,rfl,HL3⟩:=hrel;by_cases hjt:j<l.length
      ·obtain⟨d,hd⟩:∃c,({data:=l.toArray}:ByteArray)[j]'hjt=c:=⟨_,rfl⟩;have HD:=Lib.hid<|show l[j]=d from hd;cases h10:((d.toNat:Int)==10)
       rotate_left
       ·have hne:i<j:=by
         rcases Nat.lt_or_ge i j with h|h
         ·exact h
         ·have :i=j:=by omega
          subst this;have h1:=cQ (m:=10) h10;have h2:=HCI.out;have h3:c=d:=by rw[<-HC.out,<-HD.out]
          subst h3;omega
        go_wp2_with (first|(go_at_call 80;refine qmm (gH _ _) ?_)|(go_at_call 81;refine qmm (bb _ _) ?_))
        go_roundg (l.length-j)
        case measure=>omega
        case rel=>exact⟨j,start,F,acc,by omega,by omega,rfl,rfl,rfl,by omega,hF,HSc.out,HL3.out.trans<|Bz hjt HD.out<|cQ (m:=10) h10,HO.out,HE.out⟩
       cases ha:aS d
       ·go_wp2_with (first|(go_at_call 80;refine qmm (gH _ _) ?_)|(go_at_call 81;refine qmm (bb _ _) ?_))
        rw[Exit.noGoto_ret];exact bodyPost_ret (v:=.tuple #[.slice none 0 0,.string ⟨([]:YB).toArray⟩,.int .i64 j,.int .i64 1]) (by simp[results,results45,go_sem]) rfl (lK (r:=⟨[],[],start+(j-start),1⟩) (by rw[HS.out,<-HSc.out];obtain⟨F',rfl⟩:∃F',F=F'+1:=⟨F-1,by omega⟩;exact Dd (n:=j-start) (by rw[HL3.out];exact Cw hjt HD.out (bK (m:=10) h10) ha)) rfl (by simp;omega) rfl (nj _) HE.out)
       ·go_wp2_with (first|(go_at_call 80;refine qmm (gH _ _) ?_)|(go_at_call 81;refine qmm (bb _ _) ?_))
        go_roundg (l.length-(j+1))
        case measure=>omega
        case rel=>exact⟨j+1,by omega,by omega,rfl,by go_num,rfl,rfl,Lib.hid (by rw[HL3.out,DS hjt HD.out (bK (m:=10) h10) ha];congr 1;omega)⟩
      ·have hb0:(0:Int)<=(start:Int):=by omega
       have hb1:(start:Int)<=(l.length:Int):=by omega
       go_wp2_with (first|(go_at_call 80;refine qmm (gH _ _) ?_)|(go_at_call 81;refine qmm (bb _ _) ?_))
       go_quiet (fail)
       go_wp2
       rw[Exit.noGoto_ret];exact bodyPost_ret (v:=.tuple #[u2,.string ⟨(l.drop start).toArray⟩,.int .i64 0,.int .i64 0]) (by simp[results,results45,go_sem]) rfl (lK (r:=⟨acc,l.drop start,0,0⟩) (by rw[HS.out,<-HSc.out];obtain⟨F',rfl⟩:∃F',F=F'+1:=⟨F-1,by omega⟩;exact yS (n:=j-start) (by rw[HL3.out];exact se _<|by omega) (by simp;omega)) rfl rfl rfl (yQ HO.out)<|Ext.drewN HE.out _)
    ·have HLO:=Lib.hid<|HLd.out.trans<|zP (n:=i-start) hlt HC.out hw<|bK (m:=35) h35;have hd0:0<(l.drop i).length:=by simp;omega
     have hdl:(l.drop i).length<=281474976710656:=by simp;omega
     obtain⟨k,m,e,hT⟩:∃k m e,tokenT (l.drop i)=(k,m,e):=⟨_,_,_,rfl⟩;have hlen:=Ba hd0;rw[hT]at hlen;simp only[aaC]at hlen;obtain⟨hm1,hm2⟩:=hlen;have HM:=Lib.hid hm2;clear hm2;have HT:=Lib.hid hT;clear hT;have hd1:(l.drop start).drop (i-start)=l.drop i:=by rw[List.drop_drop];congr 1;omega
     have HD1:=Lib.hid hd1;clear hd1;have CT:=Lib.hid λw=>JX (l.drop i) w hd0 hdl;clear hd0 hdl
     go_wp2_with (first|(go_at_call 80;refine qmm (gH _ _) ?_)|(go_at_call 81;refine qmm (bb _ _) ?_))
     refine(CT.out _).mono ?_;rintro e0 w' ⟨rfl,rfl⟩;rw[HT.out];by_cases he:e=0
     rotate_left
     ·have heb:((e:Int)!=0)=true:=by simp;omega
      go_wp2_with (first|(go_at_call 80;refine qmm (gH _ _) ?_)|(go_at_call 81;refine qmm (bb _ _) ?_))
      rw[Exit.noGoto_ret];exact bodyPost_ret (v:=.tuple #[.slice none 0 0,.string ⟨([]:YB).toArray⟩,.int .i64<|(i:Int)+m,.int .i64 e]) (by simp[results,results45,go_sem]) rfl (lK (r:=⟨[],[],start+(i-start)+m,e⟩) (by rw[HS.out,<-HSc.out];obtain⟨F',rfl⟩:∃F',F=F'+1:=⟨F-1,by omega⟩;exact Dk (n:=i-start) HLO.out (by simp;omega) (by rw[HD1.out];exact HT.out) he) rfl (by simp;omega) rfl (nj _) HE.out)
     ·subst he;have hmp:0<m:=HM.out rfl
      go_wp2_with (first|(go_at_call 80;refine qmm (gH _ _) ?_)|(go_at_call 81;refine qmm (bb _ _) ?_))
      have hb0:(0:Int)<=(start:Int):=by omega
      have hb1:(start:Int)<=(i:Int):=by omega
      have hb2:(i:Int)<=(l.length:Int):=by omega
      have hb3:(i:Int)+m<=(l.length:Int):=by omega
      have hb4:(i:Int)<=(i:Int)+m:=by omega
      have hwr:IntKind.i64.wrap ((i:Int)+m)=(i:Int)+m:=IntWalk.i64_in _ (by omega);have hb5:(0:Int)<=(i:Int)+m:=by omega
      have hb6:((i:Int)+m).toNat=i+m:=by omega
      have hown:=HO.out;have hsz:=HE.out.size;have hbase:w.heap.size<=wr.heap.size+1:=by omega
      have hsz2:(acc.length+1)*40<=140737488355328:=by omega
      have hsz3:acc.length+1<=maxLen:=by unfold maxLen;omega
      obtain⟨i0,hi0,hz0,hz1,hz2⟩:=vc Hl
      go_region_held3 (λ_=>True) (trivial)
       ((refine step_append_lies _ (by rfl) _ _ _ (by rfl) w.heap.size 93 i0 _ 3 40 underlying86 hi0 hz0 hz1 hz2 rfl (by omega) u2 acc.length (cY acc) (by rfl) ((hown.alloc _).drew) ⟨wr.heap.size,0,none⟩ 1 1 [.int .i64 k,.string ⟨((l.drop start).take<|i-start).toArray⟩,.string ⟨((l.drop i).take m).toArray⟩] (by rfl) (by rfl) (World.news_of_block (cs:=#[.int .i64 k,.string ⟨((l.drop start).take<|i-start).toArray⟩,.string ⟨((l.drop i).take m).toArray⟩]) (t:=93) (fr:=(0,0))<|heap_alloc_new wr _) (by simp[Value.oneCell']) (by omega) hsz3 hsz2 (by simp;omega) (wr.heap.size+1) (by simp) ?_;intro gg cap w1 hown1 hgrow hat hlt1))
      have HX:=Lib.hid (((HE.out.alloc _).drew).grown hgrow (λk hk=>(hown.lt k hk).1));have HO1:=Lib.hid (show w1.ownsRow w.heap.size 93 3 (.slice (some ⟨gg,0,none⟩) (acc.length+1) cap) (acc++[TokZ.mk k ((l.drop start).take (i-start)) ((l.drop i).take m)]).length (cY (acc++[TokZ.mk k ((l.drop start).take (i-start)) ((l.drop i).take m)]))from by
       rw[xW,aac];exact hown1)
      clear hown1 hgrow hat hown hsz2 hsz3 hi0 hz0 hz1 hz2 hwr hb6
      go_wp2
      go_roundg (l.length-(i+m))
      case measure=>omega
      case rel=>
       obtain⟨F',rfl⟩:∃F',F=F'+1:=⟨F-1,by omega⟩;refine⟨i+m,i+m,F',acc++[TokZ.mk k ((l.drop start).take<|i-start)<|(l.drop i).take m],aaf _,by omega,rfl,by go_num,by go_num,by simp;omega,by omega,?_,by simp,HO1.out,HX.out⟩;rw[<-HSc.out,CF (n:=i-start) HLO.out (by simp;omega) (by rw[HD1.out];exact HT.out),HD1.out,List.drop_drop]
       congr 2<;>omega
   ·have hb0:(0:Int)<=(start:Int):=by omega
    have hb1:(start:Int)<=(l.length:Int):=by omega
    go_wp2_with (first|(go_at_call 80;refine qmm (gH _ _) ?_)|(go_at_call 81;refine qmm (bb _ _) ?_))
    go_quiet (fail)
    go_wp2
    rw[Exit.noGoto_ret];exact bodyPost_ret (v:=.tuple #[u2,.string ⟨(l.drop start).toArray⟩,.int .i64 0,.int .i64 0]) (by simp[results,results45,go_sem]) rfl (lK (r:=⟨acc,l.drop start,0,0⟩) (by rw[HS.out,<-HSc.out];obtain⟨F',rfl⟩:∃F',F=F'+1:=⟨F-1,by omega⟩;exact yS (n:=i-start) (by rw[HLd.out];exact se _<|by omega) (by simp;omega)) rfl rfl rfl (yQ HO.out)<|Ext.drewN HE.out _)
variable{m:Nat}
theorem neI(h:((n:Int)!=(m:Int))=false):n=m:=by simp at h;omega
theorem neT(h:((n:Int)!=(m:Int))=true):¬n=m:=by simp at h;omega
def Ac(k:Nat):Option Nat->Int
 |none=>-1
 |some p=>((k+p:Nat):Int)
def zW(l:YB)(k:Nat)(w:World)(e:Ending)(w':World):Prop:=
 e=.returned (.tuple #[.int .i64 ((aO false (l.drop k) 0).1:Nat),.int .i64<|Ac k (aO false (l.drop k) 0).2])∧w=w'
theorem Cp{b:Option Nat}{w:World}{x y:Int}(h:aO false (l.drop k) 0=(n,b))(hx:x=n)(hy:y=Ac k b):zW l k w (.returned<|.tuple #[.int .i64 x,.int .i64 y]) w:=by subst hx;subst hy;unfold zW;rw[h];exact⟨rfl,rfl⟩
set_option maxHeartbeats 2000000 in
theorem NC(l:YB)(x:Int)(k:Nat)(hxk:x=k)(w:World)(hk:k<=l.length)(hl:l.length<=281474976710656):Calls prog 188 #[.string ⟨l.toArray⟩,.int .i64 x] w (zW l k w):=by
 subst hxk
 go_enter func188,ntmps188
 go_wp2_with (first|(go_at_call 191;refine qmm (ku _ _) ?_)|(go_at_call 205;refine qmm (be _ _) ?_))
 go_loopg [6] (l.length-k) (λg n wx=>∃i:Nat,g=l.length-i∧wx=w∧k<=i∧i<=l.length∧n=.int .i64 i∧Hid (aO false (l.drop k) 0=aO false (l.drop i) (i-k)))
 case atStart=>exact⟨k,rfl,rfl,aaf _,hk,rfl,Lib.hid (by congr 1;omega)⟩
 case round=>
  obtain⟨i,rfl,rfl,hki,hil,rfl,HL⟩:=hrel;by_cases hit:i<l.length
  rotate_left
  ·go_wp2_with (first|(go_at_call 191;refine qmm (ku _ _) ?_)|(go_at_call 205;refine qmm (be _ _) ?_))
   go_ret2
   exact Cp (n:=i-k) (b:=none) (by rw[HL.out,se _<|by omega]) (by omega) I
  obtain⟨c,hc⟩:∃c,({data:=l.toArray}:ByteArray)[i]'hit=c:=⟨_,rfl⟩;have HC:=Lib.hid<|show l[i]=c from hc;cases hw:bL c
  rotate_left
  ·go_wp2_with (first|(go_at_call 191;refine qmm (ku _ _) ?_)|(go_at_call 205;refine qmm (be _ _) ?_))
   go_roundg (l.length-(i+1))
   case measure=>omega
   case rel=>exact⟨i+1,rfl,rfl,by omega,by omega,by go_num,Lib.hid (by rw[HL.out,zM hit HC.out hw];congr 1;omega)⟩
  cases h35:((c.toNat:Int)==35)
  ·go_wp2_with (first|(go_at_call 191;refine qmm (ku _ _) ?_)|(go_at_call 205;refine qmm (be _ _) ?_))
   go_ret2
   exact Cp (n:=i-k) (b:=none) (by rw[HL.out,zP hit HC.out hw<|bK (m:=35) h35]) (by omega) I
  have HL2:=Lib.hid<|HL.out.trans<|AR (n:=i-k) hit HC.out<|cQ (m:=35) h35;have HCI:=Lib.hid<|cQ (m:=35) h35
  go_wp2_with (first|(go_at_call 191;refine qmm (ku _ _) ?_)|(go_at_call 205;refine qmm (be _ _) ?_))
  clear HL;obtain⟨wo,rfl⟩:∃wo:World,wo=wr:=⟨_,rfl⟩
  go_loopg [6] (l.length-i) (λg n wx=>∃j:Nat,g=l.length-j∧wx=wo∧i<=j∧j<=l.length∧n=.int .i64 j∧Hid (aO false (l.drop k) 0=aO true (l.drop j) (j-k)))
  case atStart=>exact⟨i,rfl,rfl,aaf _,by omega,rfl,HL2⟩
  case round=>
   obtain⟨j,rfl,rfl,hij,hjl,rfl,HL3⟩:=hrel;by_cases hjt:j<l.length
   rotate_left
   ·go_wp2_with (first|(go_at_call 191;refine qmm (ku _ _) ?_)|(go_at_call 205;refine qmm (be _ _) ?_))
    go_roundg (l.length-j)
    case measure=>omega
    case rel=>exact⟨j,rfl,rfl,by omega,by omega,rfl,Lib.hid<|by rw[HL3.out,se _ (by omega),se _<|by omega]⟩
   obtain⟨d,hd⟩:∃c,({data:=l.toArray}:ByteArray)[j]'hjt=c:=⟨_,rfl⟩;have HD:=Lib.hid<|show l[j]=d from hd;cases h10:((d.toNat:Int)!=10)
   ·have hne:i<j:=by
     rcases Nat.lt_or_ge i j with h|h
     ·exact h
     ·have :i=j:=by omega
      subst this;have h2:=HCI.out;have h3:c=d:=by rw[<-HC.out,<-HD.out]
      subst h3;simp[h2]at h10
    go_wp2_with (first|(go_at_call 191;refine qmm (ku _ _) ?_)|(go_at_call 205;refine qmm (be _ _) ?_))
    go_roundg (l.length-j)
    case measure=>omega
    case rel=>exact⟨j,rfl,rfl,by omega,by omega,rfl,Lib.hid<|by rw[HL3.out,Bz hjt HD.out<|neI (m:=10) h10]⟩
   cases ha:aS d
   ·go_wp2_with (first|(go_at_call 191;refine qmm (ku _ _) ?_)|(go_at_call 205;refine qmm (be _ _) ?_))
    go_ret2
    exact Cp (n:=j-k) (b:=some<|j-k) (by rw[HL3.out,Cw hjt HD.out (neT (m:=10) h10) ha]) (by omega) (by simp[Ac];omega)
   ·go_wp2_with (first|(go_at_call 191;refine qmm (ku _ _) ?_)|(go_at_call 205;refine qmm (be _ _) ?_))
    go_roundg (l.length-(j+1))
    case measure=>omega
    case rel=>exact⟨j+1,rfl,rfl,by omega,by omega,by go_num,Lib.hid (by rw[HL3.out,DS hjt HD.out (neT (m:=10) h10) ha];congr 1;omega)⟩
theorem rz:∀(b:Bool) (l:YB) (n:Nat),(aO b l n).1<=n+l.length
 |_,[],n=>by simp[aO]
 | false,c::r,n=>by
  have h1:=rz false r<|n+1;have h2:=rz true r<|n+1;unfold aO;simp only[aad];split
  ·omega
  ·split
   ·omega
   ·simp
 | true,c::r,n=>by
  have h1:=rz false r<|n+1;have h2:=rz true r<|n+1;unfold aO;simp only[aad];split
  ·omega
  ·split
   ·simp
   ·omega
def LN (l:List UInt8) (w:World) (Rs:Scanned) (g:Nat) (s6 s7:Value) (wx:World):Prop:=
  ∃ (p F:Nat) (acc:List TokZ),p<=l.length∧g=l.length-p∧s7=.int .i64 p∧acc.length<=p∧l.length-p<F∧
    scanT F (l.drop p) p acc=Rs∧wx.ownsRow w.heap.size 93 3 s6 acc.length (cY acc)∧Ext w wx
def ScanPost0(Rs:Scanned)(w:World)(e:Ending)(w':World):Prop:=
 ∃v,e=.returned (.tuple #[v,.string ⟨Rs.tail.toArray⟩,.int .i64 (Rs.place:Nat),.int .i64 (Rs.err:Nat)])∧vP w' v Rs.toks∧Ext w w'
theorem sU{Rs:Scanned}{w:World}{r:Scanned}{tail:YB}{p e:Int}(h:Rs=r)(ht:r.tail=tail)(hp:(r.place:Int)=p)(E:(r.err:Int)=e)(hr:vP w' v r.toks)(hx:Ext w w'):
  ScanPost0 Rs w (.returned<|.tuple #[v,.string ⟨tail.toArray⟩,.int .i64 p,.int .i64 e]) w':=by
 subst h;subst ht;subst hp;subst E;exact⟨v,I,hr,hx⟩
set_option maxHeartbeats 4000000 in
theorem PE(l:YB)(w:World)(hl:l.length<=4096):Calls prog 193 #[.string ⟨l.toArray⟩] w (ScanPost0 (scanT (l.length+1) l 0 []) w):=by
 obtain⟨Rs,hR⟩:∃Rs,scanT (l.length+1) l 0 []=Rs:=⟨_,rfl⟩;rw[hR];have H0:=Lib.hid (show scanT (l.length+1) (l.drop 0) 0 []=Rs from by rw[<-hR];simp);clear hR;have hx:=xP;have hx2:=oP
 go_enter func193,ntmps193
 go_wp2_with fail
 go_loopg [6,7] l.length (λg s6 s7 wx=>LN l w Rs g s6 s7 wx)
 case atStart=>exact⟨0,l.length+1,[],aar _,by omega,rfl,aaf _,by omega,H0.out,World.ownsRow_nil _ _ _ _,Ext.refl _⟩
 case round=>
  obtain⟨p,F,acc,hpl,rfl,rfl,hacc,hF,hscan,hown,hext⟩:=hrel;have HSc:=Lib.hid hscan;clear hscan;have HO:=Lib.hid hown;clear hown;have HE:=Lib.hid hext;clear hext;obtain⟨F',rfl⟩:∃F',F=F'+1:=⟨F-1,by omega⟩;obtain⟨n,b,hLd⟩:∃n b,aO false (l.drop p) 0=(n,b):=⟨_,_,rfl⟩;have hnl:p+n<=l.length:=by have h:=rz false (l.drop p) 0;rw[hLd]at h;simp at h;omega
  have HLd:=Lib.hid hLd;clear hLd
  go_wp2_with fail
  refine(NC _ _ p I _ hpl<|by omega).mono ?_;rintro e w' ⟨rfl,rfl⟩;rw[HLd.out];cases b with
  |some q=>
   have hq:(0:Int)<=((p+q:Nat):Int):=by omega
   have hq2:Ac p (some q)=((p+q:Nat):Int):=rfl;rw[hq2];generalize hz:((p+q:Nat):Int)=z at *;have HZ:=Lib.hid hz;clear hz hq2
   go_wp2
   exact bodyPost_ret (v:=.tuple #[.slice none 0 0,.string ⟨([]:YB).toArray⟩,.int .i64 z,.int .i64 1]) (by simp[results,results193,go_sem]) rfl (sU (r:=⟨[],[],p+q,1⟩) (HSc.out.symm.trans<|Dd HLd.out) rfl (by rw[HZ.out]) rfl (nj _) HE.out)
  | none=>
   have hq2:Ac p none=-1:=rfl;rw[hq2];clear hq2;obtain⟨E,hE⟩:∃E,p+n=E:=⟨_,rfl⟩;have hE1:(p:Int)+n=(E:Nat):=by omega
   have hE2:E-p=n:=by omega
   have HEE:=Lib.hid hE;have hpE:p<=E:=by omega
   have hEl:E<=l.length:=by omega
   clear hE hnl;by_cases hend:E=l.length
   ·have hendb:((E:Int)==(l.length:Int))=true:=by simp;omega
    have hb0:(0:Int)<=(p:Int):=by omega
    have hb1:(p:Int)<=(l.length:Int):=by omega
    have HEnd:=Lib.hid hend;clear hend
    go_wp2
    go_quiet (fail)
    go_wp2
    exact bodyPost_ret (v:=.tuple #[u6,.string ⟨(l.drop p).toArray⟩,.int .i64 0,.int .i64 0]) (by simp[results,results193,go_sem]) rfl (sU (r:=⟨acc,l.drop p,0,0⟩) (HSc.out.symm.trans<|yS HLd.out (by have :=HEnd.out;have :=HEE.out;simp;omega)) rfl rfl rfl (yQ HO.out)<|Ext.drewN HE.out _)
   ·have hEt:E<l.length:=by omega
    have hendb:((E:Int)==(l.length:Int))=false:=by simp;omega
    clear hend;obtain⟨kd,m,e,hT⟩:∃kd m e,tokenT (l.drop E)=(kd,m,e):=⟨_,_,_,rfl⟩;have hlen:=Ba (l:=l.drop E) (by simp;omega);rw[hT]at hlen;simp only[aaC]at hlen;obtain⟨hm1,hm2⟩:=hlen;have HM:=Lib.hid hm2;clear hm2;have HT:=Lib.hid hT;clear hT;have HDp:=Lib.hid (show(l.drop p).drop n=l.drop E from by rw[List.drop_drop,HEE.out]);have CN:=Lib.hid (λw=>Nx l (E:Nat) E rfl w hEt<|by omega);have HnE:=Lib.hid (show¬n=(l.drop p).length from by have :=HEE.out;simp;omega)
    go_wp2_with fail
    refine(CN.out _).mono ?_;rintro e0 w1 ⟨rfl,hext1⟩;rw[HT.out];by_cases he:e=0
    rotate_left
    ·have HI:=Lib.hid (show oQ E (kd,m,e)=.agg #[.int .i64 0,.int .i64 0,.int .i64 e,.int .i64 ((E+m:Nat):Int)]from by simp[oQ,he]);rw[HI.out];have heb:((e:Int)!=0)=true:=by simp;omega
     have HX1:=Lib.hid<|HE.out.trans hext1;clear hext1;generalize hz:((E+m:Nat):Int)=z at *;have HZ:=Lib.hid hz;clear hz;clear HI
     go_wp2
     go_quiet (fail)
     go_wp2
     exact bodyPost_ret (v:=.tuple #[.slice none 0 0,.string ⟨([]:YB).toArray⟩,.int .i64 z,.int .i64 e]) (by simp[results,results193,go_sem]) rfl (sU (r:=⟨[],[],p+n+m,e⟩) (HSc.out.symm.trans<|Dk HLd.out HnE.out (by rw[HDp.out];exact HT.out) he) rfl (by rw[<-HZ.out];have :=HEE.out;simp;omega) rfl (nj _)<|Ext.drewN (HX1.out.alloc _) _)
    ·subst he;have HI:=Lib.hid (show oQ E (kd,m,0)=.agg #[.int .i64 m,.int .i64 kd,.int .i64 0,.int .i64 0]from by simp[oQ]);rw[HI.out];have hmp:0<m:=HM.out rfl;have hown:=OZ HO.out hext1;have hx1:=hext1.size;have hsz:=HE.out.size;have HX1:=Lib.hid<|HE.out.trans hext1;have hne:∀k,u6.ownBlock=some k->k<wr.heap.size:=λk hk=>(HO.out.lt k hk).2;have hneB:u6.ownBlock≠some w1.heap.size:=λh=>by have :=hne _ h;omega
     clear hext1 HI CN HM
     go_wp2
     obtain⟨W2,hW2⟩:∃W2,w1.alloc (.cells #[.int .i64 m,.int .i64 kd,.int .i64 0,.int .i64 0] 216)=W2:=⟨_,rfl⟩;rw[hW2];have hc0:W2.cell? ⟨w1.heap.size,0,none⟩=some (.int .i64 m):=by rw[<-hW2];simp
     have hc1:W2.cell? ⟨w1.heap.size,1,none⟩=some (.int .i64 kd):=by rw[<-hW2];simp
     have hown2:W2.ownsRow w.heap.size 93 3 u6 acc.length (cY acc):=by rw[<-hW2];exact hown.alloc _
     have hBW:w1.heap.size<W2.heap.size:=by rw[<-hW2];simp
     have HX2:=Lib.hid (show Ext w W2 from by rw[<-hW2];exact HX1.out.alloc _);obtain⟨B,hB⟩:∃B,w1.heap.size=B:=⟨_,rfl⟩;have hwB:w.heap.size<=B:=by omega
     rw[hB]at hc0 hc1 hBW hneB;rw[hB];clear hW2 hB hown hne hx1 hsz HX1 HE HO;have hb0:(0:Int)<=(p:Int):=by omega
     have hb1:(p:Int)<=(E:Int):=by omega
     have hb2:(E:Int)<=(l.length:Int):=by omega
     have hb3:(E:Int)+m<=(l.length:Int):=by omega
     have hb4:(E:Int)<=(E:Int)+m:=by omega
     have hwr0:IntKind.i64.wrap (E:Int)=(E:Int):=IntWalk.i64_in _ (by omega);have hwr:IntKind.i64.wrap ((E:Int)+m)=(E:Int)+m:=IntWalk.i64_in _ (by omega);have hb5:(0:Int)<=(E:Int)+m:=by omega
     have hb6:((E:Int)+m).toNat=E+m:=by omega
     have hsz2:(acc.length+1)*40<=140737488355328:=by omega
     have hsz3:acc.length+1<=maxLen:=by unfold maxLen;omega
     have hbs:w.heap.size<=W2.heap.size:=by omega
     obtain⟨i0,hi0,hz0,hz1,hz2⟩:=vc Hl
     go_region_held3 (λw'=>w'.cell? ⟨B,0,none⟩=some (.int .i64 m)∧w'.cell? ⟨B,1,none⟩=some (.int .i64 kd))
      (first|go_keep|(go_split_ands;refine⟨?_,?_⟩<;>(rw[hgrow.cell_far _ (by simp;omega)<|Ne.symm hneB];simp[*])))
      ((refine step_append_lies _ (by rfl) _ _ _ (by rfl) w.heap.size 93 i0 _ 3 40 underlying86 hi0 hz0 hz1 hz2 rfl (by omega) u6 acc.length (cY acc) (by rfl) ((hown2.alloc _).drew) ⟨W2.heap.size,0,none⟩ 1 1 [.int .i64 kd,.string ⟨((l.drop p).take n).toArray⟩,.string ⟨((l.drop E).take m).toArray⟩] (by rfl) (by rfl) (World.news_of_block (cs:=#[.int .i64 kd,.string ⟨((l.drop p).take n).toArray⟩,.string ⟨((l.drop E).take m).toArray⟩]) (t:=93) (fr:=(0,0))<|heap_alloc_new W2 _) (by simp[Value.oneCell']) (by omega) hsz3 hsz2 (by simp;omega) (W2.heap.size+1) (by simp) ?_;intro gg cap w3 hown3 hgrow hat hlt3))
     have hc03:w3.cell? ⟨B,0,none⟩=some (.int .i64 m):=by rename_i hh;exact hh.1
     have HX:=Lib.hid (((HX2.out.alloc _).drew).grown hgrow (λk hk=>(hown2.lt k hk).1));have HO1:=Lib.hid (show w3.ownsRow w.heap.size 93 3 (.slice (some ⟨gg,0,none⟩) (acc.length+1) cap) (acc++[TokZ.mk kd ((l.drop p).take n) ((l.drop E).take m)]).length (cY (acc++[TokZ.mk kd ((l.drop p).take n) ((l.drop E).take m)]))from by
      rw[xW,aac];exact hown3)
     clear hown3 hgrow hat hown2 hsz2 hsz3 hi0 hz0 hz1 hz2 hwr hwr0 hb6 hc0 hc1
     go_wp2
     go_roundg (l.length-(E+m))
     case measure=>omega
     case rel=>
      refine⟨E+m,F',acc++[TokZ.mk kd ((l.drop p).take n)<|(l.drop E).take m],by omega,rfl,by go_num,by simp;omega,by omega,?_,HO1.out,HX.out⟩;rw[<-HSc.out,CF HLd.out HnE.out (by rw[HDp.out];exact HT.out),HDp.out,List.drop_drop,<-HEE.out]
      congr 2<;>omega
theorem Ru(l:YB)(w:World)(hl:l.length<=281474976710656):Calls prog 164 #[.string ⟨l.toArray⟩] w (ScanPost l w):=by
 by_cases Z:4096<l.length
 ·have HS:=Lib.hid (show fz l=⟨[],[],4096,3⟩from by simp[fz,Z])
  go_enter func164,ntmps164
  go_wp2
  exact bodyPost_ret (v:=.tuple #[.slice none 0 0,.string ⟨([]:YB).toArray⟩,.int .i64 4096,.int .i64 3]) (by simp[results,results164,go_sem]) rfl<|lK HS.out rfl rfl rfl (nj _)<|Ext.refl _
 ·have HS:=Lib.hid (show fz l=scanT (l.length+1) l 0 []from by simp[fz,Z])
  go_enter func164,ntmps164
  go_wp2_with fail
  refine(PE _ _<|by omega).mono ?_;rintro e w' ⟨v,rfl,O,E⟩;obtain⟨A,c,rfl,J,U,G⟩:=O;have HR:=Lib.hid G;clear G;have HX:=Lib.hid E;clear E;rw[<-HS.out]at HR J⊢
  go_wp2
  exact bodyPost_ret (v:=.tuple #[.slice A (fz l).toks.length c,.string ⟨(fz l).tail.toArray⟩,.int .i64 ((fz l).place:Nat),.int .i64 ((fz l).err:Nat)]) (by simp[results,results164,go_sem]) rfl ⟨_,rfl,⟨A,c,rfl,J,U,HR.out⟩,HX.out⟩
theorem zU:∀(l:List TokZ) (k:Nat) (h:k<l.length),(cY l)[k*3]?=some (.int .i64 l[k].kind)∧(cY l)[k*3+1]?=some (.string ⟨l[k].lead.toArray⟩)∧(cY l)[k*3+2]?=some (.string ⟨l[k].text.toArray⟩)
 |t::l,0,_=>⟨rfl,rfl,rfl⟩
 | t::l,k+1,h=>by
  have ih:=zU l k (by simpa using h);have e:cY (t::l)=[.int .i64 t.kind,.string ⟨t.lead.toArray⟩,.string ⟨t.text.toArray⟩]++cY l:=rfl;rw[e];refine⟨?_,?_,?_⟩
  ·rw[List.getElem?_append_right (by simp;omega)];simpa[Nat.succ_mul]using ih.1
  ·rw[List.getElem?_append_right (by simp;omega)];have :(k+1)*3+1-3=k*3+1:=by omega
   simpa[this]using ih.2.1
  ·rw[List.getElem?_append_right (by simp;omega)];have :(k+1)*3+2-3=k*3+2:=by omega
   simpa[this]using ih.2.2
theorem uC{w:World}{A:Option Addr}{l:List TokZ}(h:Row w 3 A l.length<|cY l)(G:k<l.length):
  ∃b off,A=some ⟨b,off,none⟩∧b<w.heap.size∧w.cell? ⟨b,off+k*3,none⟩=some (.int .i64 l[k].kind)∧w.cell? ⟨b,off+k*3+1,none⟩=some (.string ⟨l[k].lead.toArray⟩)∧w.cell? ⟨b,off+k*3+2,none⟩=some (.string ⟨l[k].text.toArray⟩):=by
 obtain⟨b,off,rfl,hb,E⟩:=h.2 (by omega);obtain⟨J,h1,h2⟩:=zU l k G;refine⟨b,off,I,hb,?_,?_,?_⟩
 ·rw[E _ (by omega),J]
 ·rw[aau,E _ (by omega),h1]
 ·rw[aau,E _ (by omega),h2]
set_option maxHeartbeats 1000000 in
theorem EV(l:YB)(w:World)(Z:l.length<=281474976710656):Calls prog 127 #[.string ⟨l.toArray⟩] w λe w'=>e=.returned (.int .i64 (bv l:Nat))∧w=w':=by
 by_cases E:l=[]
 ·subst E
  go_enter func127,ntmps127
  go_wp2
  go_ret
  exact⟨I,I⟩
 ·have hb1:(l==[])=false:=by simpa using E
  have hb2:l.isEmpty=false:=by simpa using E
  have G:0<l.length:=List.length_pos_iff.2 E;obtain⟨k,n,e,J⟩:∃k n e,tokenT l=(k,n,e):=⟨_,_,_,rfl⟩;have HT:=Lib.hid J;have HC:=Lib.hid (show bv l=if e=0∧n=l.length then k else 0 from by simp only[bv,if_neg E,J]);clear J E
  go_enter func127,ntmps127
  go_wp2_with fail
  refine(JX _ _ G Z).mono ?_;rintro e0 w' ⟨rfl,rfl⟩;rw[HT.out];by_cases U:e=0
  ·subst U;by_cases hn:n=l.length
   ·have O:((n:Int)!=(l.length:Int))=false:=by simp;omega
    have HR:=Lib.hid<|HC.out.trans<|if_pos ⟨rfl,hn⟩;clear hn
    go_wp2
    go_ret
    exact⟨bu (by rw[HR.out]),I⟩
   ·have O:((n:Int)!=(l.length:Int))=true:=by simp;omega
    have HR:=Lib.hid<|HC.out.trans<|if_neg λh=>hn h.2;clear hn
    go_wp2
    go_ret
    exact⟨bu (by rw[HR.out];rfl),I⟩
  ·have heb:((e:Int)!=0)=true:=by simp;omega
   have HR:=Lib.hid<|HC.out.trans<|if_neg λh=>U h.1
   go_wp2
   go_ret
   exact⟨bu (by rw[HR.out];rfl),I⟩
theorem yH{c:UInt8}(E:0<l.length)(G:l[0]=c)(h:bL c=true∨c.toNat=35):tokenT l=(0,0,2):=by
 have hv:c.toNat=9∨c.toNat=10∨c.toNat=13∨c.toNat=32∨c.toNat=35:=by
  rcases h with h|h
  ·simp[bL]at h;omega
  ·omega
 have J:aS c=true:=by
  rcases hv with h|h|h|h|h<;>simp[aS,bL,dW,h]
 have hs:rU.contains c=false:=by
  have h:∀n:UInt8,(c==n)=(c.toNat==n.toNat):=λn=>by rw[Bool.eq_iff_iff];simp[UInt8.toNat_inj]
  simp only[rU,List.contains_cons,List.contains_nil,Bool.or_false,h];rcases hv with h|h|h|h|h<;>rw[h]<;>rfl
 rw[yF E G,if_neg (by simp[J]),if_neg (by simp[bm,cF,upperB];omega),if_neg (by simp[bD];omega),if_neg (by omega),if_neg (by omega),if_neg (by rw[hs];simp)]
set_option maxHeartbeats 1000000 in
theorem EM(l:YB)(w:World)(hl:l.length<=281474976710656):Calls prog 163 #[.string ⟨l.toArray⟩] w λe w'=>e=.returned (.int .i64 (bv l:Nat))∧Ext w w':=by
 by_cases G:l=[]
 ·subst G
  go_enter func163,ntmps163
  go_wp2
  go_ret
  exact⟨I,Ext.refl _⟩
 ·have hb1:(l==[])=false:=by simpa using G
  have hb2:l.isEmpty=false:=by simpa using G
  have hpos:0<l.length:=List.length_pos_iff.2 G;obtain⟨k,n,e,J⟩:∃k n e,tokenT l=(k,n,e):=⟨_,_,_,rfl⟩;have HT:=Lib.hid J;have HC:=Lib.hid (show bv l=if e=0∧n=l.length then k else 0 from by simp only[bv,if_neg G,J]);clear J G;obtain⟨c,hc⟩:∃c,({data:=l.toArray}:ByteArray)[0]'hpos=c:=⟨_,rfl⟩;have HC0:=Lib.hid<|show l[0]=c from hc;cases hw:bL c
  rotate_left
  ·have hz:(k,n,e)=(0,0,2):=HT.out.symm.trans<|yH hpos HC0.out<|.inl hw;have HR:=Lib.hid (show bv l=0 from by simp only[Prod.mk.injEq]at hz;rw[HC.out,if_neg<|by omega]);clear hz
   go_enter func163,ntmps163
   go_wp2_with (first|(go_at_call 191;refine qmm (ku _ _) ?_))
   go_ret
   exact⟨bu (by rw[HR.out];rfl),Ext.refl _⟩
  cases O:((c.toNat:Int)==35)
  rotate_left
  ·have hz:(k,n,e)=(0,0,2):=HT.out.symm.trans<|yH hpos HC0.out<|.inr<|cQ (m:=35) O;have HR:=Lib.hid (show bv l=0 from by simp only[Prod.mk.injEq]at hz;rw[HC.out,if_neg<|by omega]);clear hz
   go_enter func163,ntmps163
   go_wp2_with (first|(go_at_call 191;refine qmm (ku _ _) ?_))
   go_ret
   exact⟨bu (by rw[HR.out];rfl),Ext.refl _⟩
  have CN:=Lib.hid λw=>Nx l 0 0 rfl w hpos hl
  go_enter func163,ntmps163
  go_wp2_with (first|(go_at_call 191;refine qmm (ku _ _) ?_))
  refine(CN.out _).mono ?_;rintro e0 w1 ⟨rfl,E⟩;rw[List.drop_zero,HT.out];have HX:=Lib.hid E;clear E CN;by_cases U:e=0
  ·subst U;have HI:=Lib.hid (show oQ 0 (k,n,0)=.agg #[.int .i64 n,.int .i64 k,.int .i64 0,.int .i64 0]from by simp[oQ]);rw[HI.out];clear HI;by_cases hn:n=l.length
   ·have Z:((n:Int)!=(l.length:Int))=false:=by simp;omega
    have HR:=Lib.hid<|HC.out.trans<|if_pos ⟨rfl,hn⟩;clear hn
    go_wp2
    go_ret
    exact⟨bu (by rw[HR.out]),HX.out.alloc _⟩
   ·have Z:((n:Int)!=(l.length:Int))=true:=by simp;omega
    have HR:=Lib.hid<|HC.out.trans<|if_neg λh=>hn h.2;clear hn
    go_wp2
    go_ret
    exact⟨bu (by rw[HR.out];rfl),HX.out.alloc _⟩
  ·have HI:=Lib.hid (show oQ 0 (k,n,e)=.agg #[.int .i64 0,.int .i64 0,.int .i64 e,.int .i64 ((0+n:Nat):Int)]from by simp[oQ,U]);rw[HI.out];clear HI;have heb:((e:Int)!=0)=true:=by simp;omega
   have HR:=Lib.hid<|HC.out.trans<|if_neg λh=>U h.1
   go_wp2
   go_ret
   exact⟨bu (by rw[HR.out];rfl),HX.out.alloc _⟩
open Go.RowKit Lx Sx
theorem sum0_calls{fid:FuncId}{us:List V}{v:V}(E:pureL us=true)(G:v.pure=true)(h:∀(S:Nat->Prop) w ρ xs,LRel S w ρ us xs->Calls prog fid xs.toArray w λe w'=>∃x,e=.returned x∧VRel S w' ρ v x∧Chg [] w w'):tI prog fid us v:=
 ⟨E,G,λS w ρ xs hr hx=>(h S w ρ xs hx).mono λe w' ⟨x,h1,h2,J⟩=>
  ⟨x,S,ρ,v,_,h1,rfl,hr.chg0 J,⟨ChgP.of0 J,λ_ h=>h,λ_ h=>.inl h,λid b hb=>.inl ⟨id,hb⟩,λid x h=>by
   simp only[uN]at h;split at h
   ·exact h
   ·cases h⟩,h2⟩⟩
theorem BK{w:World}(h:Ext w w'):Chg [] w w':=Chg.of_ext h []
theorem Og(l:YB)(E:l.length<=281474976710656):tI prog 127 [.str l] (.int .i64 (bv l:Nat)):=
 sum0_calls rfl rfl λS w ρ xs hx=>by simp only[LRel]at hx;obtain⟨x,ys,rfl,h1,rfl⟩:=hx;simp only[VRel]at h1;subst h1;exact(EV l w E).mono λe w' ⟨h1,h2⟩=>⟨_,h1,by simp only[VRel],h2▸Chg.refl _ _⟩
theorem MV(l:YB)(E:l.length<=281474976710656):tI prog 163 [.str l] (.int .i64 (bv l:Nat)):=
 sum0_calls rfl rfl λS w ρ xs hx=>by simp only[LRel]at hx;obtain⟨x,ys,rfl,h1,rfl⟩:=hx;simp only[VRel]at h1;subst h1;exact(EM l w E).mono λe w' ⟨h1,h2⟩=>⟨_,h1,by simp only[VRel],BK h2⟩
def dr:List YB->Nat
 |[]=>0
 |l::r=>l.length+1+dr r
mutual
def tbulk:Tree->Nat
 |.node _ s ls ks=>s.length+dr ls+kbulk ks+1
def kbulk:YT->Nat
 |[]=>0
 |t::r=>tbulk t+kbulk r
end
theorem bH(t:Tree):0<tbulk t:=by cases t;simp only[tbulk];omega
theorem fP:∀(ks:YT),ks.length<=kbulk ks
 |[]=>aaf _
 |t::r=>by have :=fP r;have :=bH t;simp only[kbulk,aad];omega
theorem bX:∀{ks:YT} {i:Nat} {t:Tree},ks[i]?=some t->tbulk t<=kbulk ks
 |[],i,t,h=>by simp at h
 |u::r,0,t,h=>by simp only[List.getElem?_cons_zero,aab]at h;subst h;simp only[kbulk];omega
 |u::r,i+1,t,h=>by have :=bX (ks:=r) (i:=i) (by simpa using h);simp only[kbulk];omega
theorem fT:∀(a b:YT),kbulk (a++b)=kbulk a+kbulk b
 |[],b=>by simp[kbulk]
 |t::r,b=>by simp only[aas,kbulk,fT r b];omega
theorem xz:∀(l:List YB),l.length<=dr l
 |[]=>aaf _
 |x::r=>by have :=xz r;simp only[dr,aad];omega
theorem wB:∀{l:List YB} {i:Nat} {x:YB},l[i]?=some x->x.length+1<=dr l
 |[],i,x,h=>by simp at h
 |u::r,0,x,h=>by simp only[List.getElem?_cons_zero,aab]at h;subst h;simp only[dr];omega
 |u::r,i+1,x,h=>by have :=wB (l:=r) (i:=i) (by simpa using h);simp only[dr];omega
theorem bt(t:Tree):tbulk t=t.text.length+dr t.leads+kbulk t.kids+1:=by cases t;simp[tbulk,Tree.text,Tree.leads,Tree.kids]
variable{u:Tree}{i:Nat}
theorem cm{t:Tree}(h:t.kids[i]?=some u):tbulk u<tbulk t:=by have :=bX h;rw[bt t];omega
theorem cb(t:Tree):t.kids.length<tbulk t:=by have :=fP t.kids;rw[bt t];omega
theorem cN(t:Tree):t.text.length<tbulk t:=by rw[bt t];omega
theorem uB(t:Tree):t.leads.length<tbulk t:=by have :=xz t.leads;rw[bt t];omega
theorem cP{C:Tree->Prop}(h:∀t:Tree,(∀(i:Nat) (u:Tree),t.kids[i]?=some u->C u)->C t):∀t,C t:=λt=>by
 have :∀n t,tbulk t<=n->C t:=λn=>by
  induction n with
  |zero=>intro t ht;have :=bH t;omega
  |succ n ih=>intro t ht;exact h t λi u E=>ih u (by have :=cm E;omega)
 exact this _ t<|aaf _
theorem aQ{α:Type}(l:List α)(i:Nat):(∃x,l[i]?=some x∧i<l.length)∨(¬i<l.length):=by
 by_cases h:i<l.length
 ·exact .inl ⟨l[i],by simp[h],h⟩
 ·exact .inr h
theorem bc{α:Type}{l:List α}{x:α}(h:l[i]?=some x):l.drop i=x::l.drop (i+1):=by obtain⟨E,rfl⟩:=List.getElem?_eq_some_iff.1 h;exact aam E
set_option maxHeartbeats 1000000
def f0(n:Int)(least leads list:Nat)(most:Int):Int:=if 0<=most∧most<n then-1 else if n<least then-1 else if most<0∧(list:Int)<n then leads+(n-list-1)else leads
def bT(k n:Int):Int:=if k=1 then(if n<0 then-1 else 3)else if k=2 then f0 n 2 6 2 (-1)else if k=16 then f0 n 0 3 0 (-1)else if k=18 then f0 n 1 2 0 (-1)else if k=3 then f0 n 1 3 0 1 else if k=4 then f0 n 1 2 0 1 else if k=8 then f0 n 1 2 0 1 else if k=22 then f0 n 1 2 0 1 else if k=17 then f0 n 1 0 0 1 else if k=19 then f0 n 3 3 0 3 else if k=20 then f0 n 2 4 0 2 else if k=21 then f0 n 2 1 0 2 else if k=5∨k=6∨k=7∨k=9∨k=10∨k=11∨k=12∨k=13∨k=14∨k=15 then f0 n 0 1 0 0 else-1
theorem ul(a b c:Int):fC a b c (if a<b then-1 else c):=zD 0 _ _ _ _ ⟨λh=>by rw[if_pos h],λh=>by rw[if_neg h]⟩
theorem Qg(a b c:Int):cn a b c (if a=b then c else-1):=yi 0 _ _ _ _ ⟨λh=>by rw[if_pos h],λh=>by rw[if_neg h]⟩
theorem Pw(m:Nat){n:Int}(E:0<=n)(h1:n<=1000000000)(a b c:Nat)(z:Int)(hb:b<=10)(G:c<=2)(hz:¬(0<=z∧z<n)):mj (m+1) n a b c z (f0 n a b c z):=by
 refine AK m _ _ _ _ _ _ ⟨λh=>⟨λh'=>⟨by omega,by omega,by omega,_,ul _ _ _,?_⟩,λh'=>⟨_,ul _ _ _,?_⟩⟩,λh=>⟨_,ul _ _ _,?_⟩⟩
 ·simp only[f0,if_neg hz,h,h',true_and,if_true]
 ·simp only[f0,if_neg hz,h,h',true_and,if_false]
 ·simp only[f0,if_neg hz,h,false_and,if_false]
theorem QR(m:Nat){n:Int}(E:0<=n)(h1:n<=1000000000)(a b c:Nat)(z:Int)(hb:b<=10)(G:c<=2):aP (m+2) n a b c z (f0 n a b c z):=by
 refine Ai (m+1) _ _ _ _ _ _ ⟨λh=>⟨λh'=>?_,λh'=>Pw m E h1 _ _ _ _ hb G<|by omega⟩,λh=>Pw m E h1 _ _ _ _ hb G<|by omega⟩;simp[f0,h,h']
theorem BT{k n:Int}(J:0<=n)(h1:n<=1000000000):nk k n (bT k n):=by
 have O:∀{r:Int} (a b c:Nat) (z:Int),b<=10->c<=2->r=f0 n a b c z->aP 3 n a b c z r:=λa b c z hb E e=>by rw[e];exact QR 1 J h1 a b c z hb E
 have G:∀{r:Int} (a b c:Nat) (z:Int),b<=10->c<=2->r=f0 n a b c z->aP 4 n a b c z r:=λa b c z hb E e=>by rw[e];exact QR 2 J h1 a b c z hb E
 refine AO 4 _ _ _ ?_
 repeat' first|(refine⟨_,ul _ _ _,?_⟩)|(refine And.intro (λ_=>?_) λ_=>?_)|(refine Aa 3 _ _ _ _ ?_)
 all_goals first|(refine G _ _ _ _ (by decide) (by decide) ?_)|(refine O _ _ _ _ (by decide) (by decide) ?_)|skip
 all_goals simp_all[bT]
theorem xw{k n:Int}(E:0<=n)(h1:n<=1000000000):fk k n (bT k n):=by
 refine xq 2 _ _ _ ?_
 repeat' first|(refine⟨_,Qg _ _ _,?_⟩)|(refine And.intro (λ_=>?_) λ_=>?_)|(refine vU 1 _ _ _ _ ?_)|(refine wn 0 _ _ _ _ ?_)|(refine And.intro (by omega) ?_)
 all_goals simp_all[bT]
 all_goals (try unfold f0)
 all_goals (repeat' split)
 all_goals omega
def BF(x:YB):Bool:=x==[43]||x==[45]||x==[42]||x==[60]||x==[61,61]
def uA(k:Int)(x:YB):Bool:=if k=1∨k=3 then(bv x:Int)==2 else if k=2∨k=4∨k=12∨k=20 then(bv x:Int)==1 else if k=9 then(bv x:Int)==2||(bv x:Int)==4 else if k=16 then(bv x:Int)==1||(bv x:Int)==3 else if k=10 then(bv x:Int)==5 else if k=11 then(bv x:Int)==6 else if k=21 then BF x else x==[]
theorem HH(x:YB):nT x (BF x):=by
 refine yW 0 _ _ ?_
 repeat' (refine And.intro (λ_=>?_) λ_=>?_)
 all_goals simp_all[BF]
theorem FZ(x:YB):ic x (BF x):=by
 refine sJ 0 _ _ ?_
 repeat' (refine And.intro (λ_=>?_) λ_=>?_)
 all_goals simp_all[BF]
theorem Mn(k:Int)(x:YB)(hx:x.length<=281474976710656):qn k x (uA k x):=by
 refine zV 2 _ _ _ ?_;refine⟨_,Og x hx,?_⟩
 repeat' first|(refine⟨_,HH _,?_⟩)|(refine And.intro (λ_=>?_) λ_=>?_)|(refine zI 1 _ _ _ _ _ ?_)|(refine zJ 0 _ _ _ _ _ ?_)
 all_goals simp_all[uA]
theorem KI(k:Int)(x:YB)(hx:x.length<=281474976710656):jw k x (uA k x):=by
 refine tQ 2 _ _ _ ?_;refine⟨_,MV x hx,?_⟩
 repeat' first|(refine⟨_,FZ _,?_⟩)|(refine And.intro (λ_=>?_) λ_=>?_)|(refine tG 1 _ _ _ _ _ ?_)|(refine tx 0 _ _ _ _ _ ?_)
 all_goals simp_all[uA]
def nh(k:Int):Bool:=decide<|5<=k∧k<=9
def my(k:Int):Bool:=decide<|10<=k∧k<=22∧k≠17
def sF(k:Int):Bool:=my k&&decide (k≠19∧k≠20∧k≠21)
theorem My(k:Int):mn k (nh k):=Am 0 _ _ ⟨λh=>by simp[nh,h],λh=>by simp[nh,h]⟩
theorem Lj(k:Int):gW k (nh k):=vV 0 _ _ ⟨λh=>by simp[nh,h],λh=>by simp[nh,h]⟩
theorem zl(a b:Int):(a !=b)=decide (a≠b):=by by_cases h:a=b<;>simp[h]
theorem El(k:Int):dY k (my k):=uO 0 _ _ ⟨λh=>⟨λh'=>by simp[my,h,h',zl],λh'=>by simp[my,h,h']⟩,λh=>by simp[my,h]⟩
theorem CB(k:Int):eu k (my k):=ws 0 _ _ ⟨λh=>⟨λh'=>by simp[my,h,h',zl],λh'=>by simp[my,h,h']⟩,λh=>by simp[my,h]⟩
theorem MW(k:Int):pH k (sF k):=by
 refine AA 0 _ _ ⟨_,El k,?_⟩
 repeat' (refine And.intro (λ_=>?_) λ_=>?_)
 all_goals simp_all[sF,zl]
theorem yC(k:Int):gM k (sF k):=by
 refine wk 0 _ _ ⟨_,CB k,?_⟩
 repeat' (refine And.intro (λ_=>?_) λ_=>?_)
 all_goals simp_all[sF,zl]
def gb(k n:Int)(i:Int)(kk:Int):Bool:=if k=1 then kk==2||kk==3 else if k=2 then(if i=n-1 then my kk else if i=n-2 then nh kk else kk==4)else if k=3∨k=4∨k=8 then nh kk else if k=16 then kk==17 else if k=21 then sF kk||(decide (i=0)&&kk==21)else my kk
theorem OM{t:Tree}(E:t.kids[i]?=some u):rm t i (gb t.kind t.kids.length i u.kind):=by
 refine Bl 1 _ _ _ ⟨i,I,u,E,?_⟩
 repeat' first|(refine⟨_,El _,?_⟩)|(refine⟨_,My _,?_⟩)|(refine⟨_,MW _,?_⟩)|(refine And.intro (λ_=>?_) λ_=>?_)|(refine Ah 0 _ _ _ _ _ ?_)
 all_goals simp_all[gb]
theorem Rz(t:Tree)(i:Nat)(kk:Int):nQ t i kk (gb t.kind t.kids.length i kk):=by
 refine yo 1 _ _ _ _ ?_
 repeat' first|(refine⟨_,CB _,?_⟩)|(refine⟨_,Lj _,?_⟩)|(refine⟨_,yC _,?_⟩)|(refine And.intro (λ_=>?_) λ_=>?_)|(refine yh 0 _ _ _ _ _ ?_)
 all_goals simp_all[gb]
mutual
def shapeK:Tree->Bool
 |.node k s _ ks=>decide (0<=bT k ks.length)&&uA k s&&shapeKs k ks.length 0 ks
def shapeKs(k n:Int):Nat->YT->Bool
 |_,[]=>true
 |i,t::r=>gb k n i t.kind&&shapeK t&&shapeKs k n (i+1) r
end
theorem ee(t:Tree):shapeK t=(decide (0<=bT t.kind t.kids.length)&&uA t.kind t.text&&shapeKs t.kind t.kids.length 0 t.kids):=by cases t;simp only[shapeK];rfl
theorem AH:∀t:Tree,tbulk t<=1000000000->gr t (shapeK t):=cP λt ih hb=>by
 have hk:=cb t;have ht:=cN t;have loop:∀m i,t.kids.length-i<=m->(0<=bT t.kind t.kids.length∧uA t.kind t.text=true)->lA (m+1) t i (shapeKs t.kind t.kids.length i<|t.kids.drop i):=λm=>by
  induction m with
  |zero=>
   intro i hi hw;refine sy 0 _ _ _ ⟨λh=>by omega,λh=>?_⟩;rw[List.drop_of_length_le (by omega),shapeKs]
  | succ m ihm=>
   intro i hi hw;refine sy (m+1) _ _ _ ⟨λh=>?_,λh=>?_⟩
   ·obtain⟨u,hu,_⟩|h':=aQ t.kids i
    ·rw[bc hu,shapeKs];have hbu:=cm hu;refine⟨u,hu,_,OM hu,λh1=>by simp[h1],λh1=>⟨_,ih i u hu (by omega),λh2=>by simp[h1,h2],λh2=>⟨by omega,?_⟩⟩⟩;simp only[h1,h2,Bool.true_and];exact ihm (i+1) (by omega) hw
    ·exact absurd h h'
   ·rw[List.drop_of_length_le (by omega),shapeKs]
 rw[ee];refine At (t.kids.length+1) _ _ ⟨_,BT (by omega) (by omega),λh=>?_,λh=>⟨_,Mn _ _ (by omega),λh1=>by simp[h1],λh1=>?_⟩⟩
 ·rw[decide_eq_false<|by omega];rfl
 ·rw[decide_eq_true (by omega),h1];exact loop _ 0 (by omega) ⟨by omega,h1⟩
theorem yz:∀t:Tree,tbulk t<=1000000000->dv t (shapeK t):=cP λt ih hb=>by
 have hk:=cb t;have ht:=cN t;have loop:∀m i,t.kids.length-i<=m->gc (m+1) t i (shapeKs t.kind t.kids.length i<|t.kids.drop i):=λm=>by
  induction m with
  |zero=>
   intro i hi;refine oI 0 _ _ _ ⟨λh=>by omega,λh=>?_⟩;rw[List.drop_of_length_le (by omega),shapeKs]
  | succ m ihm=>
   intro i hi;refine oI (m+1) _ _ _ ⟨λh=>?_,λh=>?_⟩
   ·obtain⟨u,hu,_⟩|h':=aQ t.kids i
    ·rw[bc hu,shapeKs];have hbu:=cm hu;refine⟨u,hu,_,Rz _ _ _,λh1=>by simp[h1],λh1=>⟨u,hu,_,ih i u hu (by omega),λh2=>by simp[h1,h2],λh2=>?_⟩⟩;simp only[h1,h2,Bool.true_and];exact ihm (i+1) (by omega)
    ·exact absurd h h'
   ·rw[List.drop_of_length_le (by omega),shapeKs]
 rw[ee];refine vr (t.kids.length+1) _ _ ⟨_,xw (by omega) (by omega),λh=>?_,λh=>⟨_,KI _ _ (by omega),λh1=>by simp[h1],λh1=>?_⟩⟩
 ·rw[decide_eq_false<|by omega];rfl
 ·rw[decide_eq_true (by omega),h1];exact loop _ 0 (by omega)
set_option maxHeartbeats 4000000
abbrev vE(a0:Int)(a1:YB):Ob:=.var 26 [.int .i64 a0,.str a1,.nils,.nils]
abbrev vC(a0:Int)(a1:YB)(a2:List YB)(a3:YT):Ob:=.var 26 [.int .i64 a0,.str a1,.row 1 (List.map V.str a2),.row 4 (kidsV a3)]
def bF(E:Tree)(G:YI)(J:Tree)(O:Bool):Prop:=qS 31 [.agg<|am E,.row 1<|List.map (V.int .i64) G]<|.tup [.agg<|am J,.bool O]
def iF(E:(List YI))(G:Tree)(J:YI)(O:(List YI)):Prop:=co [] prog 62 [.sl 0,.agg<|am G,.row 1<|List.map (V.int .i64) J] ⟨1,[(0,.row 36 1<|List.map (λl=>V.row 1<|List.map (V.int .i64) l) E)]⟩<|z4 (.sl 1) ⟨2,[(1,.row 36 1<|List.map (λl=>V.row 1<|List.map (V.int .i64) l) O)]⟩
def lX(E:Tree)(G:(List YI)):Prop:=qS 30 [.agg<|am E]<|.row 1<|List.map (λl=>V.row 1<|List.map (V.int .i64) l) G
def ch(E:Tree)(G:YI)(J:Int):Prop:=qS 63 [.agg<|am E,.row 1<|List.map (V.int .i64) G]<|qi J
def dX(E:Tree)(G:Int):Prop:=qS 7 [.agg<|am E]<|qi G
def rB(E G:YI):Prop:=qS 149 [.row 1<|List.map (V.int .i64) E]<|.row 1<|List.map (V.int .i64) G
def ir(E G:YI):Prop:=co [0] prog 149 [.sl 0] ⟨1,[(0,.row 3 1<|List.map (V.int .i64) E)]⟩<|z4 (.row 1<|List.map (V.int .i64) G) ⟨1,[(0,.row 3 1<|List.map (V.int .i64) E)]⟩
def jR(m:Nat)(E:YI)(a:Tree)(b:Nat)(G:Tree)(J:Bool):Prop:=z5 m [] f31 (z3<|.tup [.agg<|am G,.bool J]) (xI<|cB<|ac f31) [.blk 0,.seq<|xA<|ac f31] 38 [(1,.row 1<|List.map (V.int .i64) E),(2,.ptr 0 0),(4,.ptr 1 0),(6,qi (b:Int))] ⟨2,[(1,vE 0 []),(0,.var 26<|am a)]⟩
theorem zC(m:Nat)(p0:Tree)(p1:YI)(r0:Tree)(r1:Bool)(h:jR m p1 p0 0 r0 r1):bF p0 p1 r0 r1:=by
 refine⟨I,I,?_⟩;refine qA 38 [] func31 λK hK=>?_;exact gR 14 I<|go_loop m<|qW hK h [0,1]
theorem sn(m:Nat)(E:YI)(a:Tree)(b:Nat)(G:Tree)(J:Bool)(h:z8 (b<E.length) (∃c,E[b]?=some c∧z8 (c<0) ((Tree.node 0 [] [] [])=G∧false=J) (∃d,E[b]?=some d∧z8 ((a.kids.length:Int)<=d) ((Tree.node 0 [] [] [])=G∧false=J) (∃g,E[b]?=some g∧∃e,g=((e:Nat):Int)∧∃i,a.kids[e]?=some i∧jR m E i (b+1) G J)))<|a=G∧true=J):jR (m+1) E a b G J:=by
 refine qj λK Z O r=>?_;refine gR 6 rfl<|gV 9 (qi (E.length:Int)) rfl (aK<|az (V.int .i64) _) rfl<|gLB 8 rfl (az (V.int .i64) _) λp=>gR 3 rfl<|qXh 10 rfl rfl rfl h bx bw ?_ ?_<;>intro U h;refine gR 7 I<|qDs [0] 12 15<|qDr [(0,2),(1,0)] I I ?_;obtain⟨c,j,h⟩:=h;refine cc 2 I (by kernel_rfl) (ar (an (f:=(V.int .i64)) j) ab I I I I) I I ?_;refine qDr (qR 3 3 0 []) rfl rfl<|qXdZ 18 17 rfl rfl rfl rfl h ?_ ?_<;>intro U h;refine qDr (qR 6 4 2<|qR 10 4 0 [(14,1)]) I I<|qDe<|gR 13 I<|go_xloopR<|gR 2 I ?_;obtain⟨rfl,rfl⟩:=h;exact go_sub (F':=(mkF 38 0 [(4,.ptr 0 0),(5,.bool false)])) (H':=⟨1,[(0,vC ((Tree.node 0 [] [] []).kind) ((Tree.node 0 [] [] []).text) ((Tree.node 0 [] [] []).leads)<|(Tree.node 0 [] [] []).kids)]⟩) [1] [] I O pq2 ⟨⟨_,I,I,(.cons .rfl<|.cons .rfl<|.cons (.nil 1)<|.cons (.nil 4) .nil)⟩,trivial⟩ I<|qN [.cell 4 26,.tmp 5];refine qDr [(6,2),(7,2)] I I ?_;obtain⟨d,k,h⟩:=h;refine gYd 8 rfl (by kernel_rfl) (ar (an (f:=(V.int .i64)) k) ab rfl rfl rfl rfl) rfl rfl<|qDr [(9,2),(10,0),(11,0),(12,1)] rfl rfl<|gV 25 (qi (a.kids.length:Int)) rfl (aK<|aG _) rfl<|gLB 24 rfl (aG _) λq=>qDr [(13,1),(14,1)] rfl rfl<|qDe<|gR 1 rfl<|qXd 27 rfl rfl rfl h ?_ ?_<;>intro U h;refine gR 12 I<|go_xloopR<|gR 2 I ?_;obtain⟨rfl,rfl⟩:=h;exact go_sub (F':=(mkF 38 0 [(4,.ptr 0 0),(5,.bool false)])) (H':=⟨1,[(0,vC ((Tree.node 0 [] [] []).kind) ((Tree.node 0 [] [] []).text) ((Tree.node 0 [] [] []).leads)<|(Tree.node 0 [] [] []).kids)]⟩) [1] [] I O pq2 ⟨⟨_,I,I,(.cons .rfl<|.cons .rfl<|.cons (.nil 1)<|.cons (.nil 4) .nil)⟩,trivial⟩ I<|qN [.cell 4 26,.tmp 5];refine gR 3 I<|qDs [0] 8 9<|qDr [(0,2),(1,3),(2,2),(3,0)] I I ?_;obtain⟨g,l,h⟩:=h;refine cc 4 I (by kernel_rfl) (ar (an (f:=(V.int .i64)) l) ab I I I I) I I ?_;refine qDr [(5,0)] I I ?_;obtain⟨e,o,h⟩:=h;refine gV 34 (qi ((e:Nat):Int)) I (aI o) I ?_;obtain⟨i,n,h⟩:=h;refine cc 6 I (by kernel_rfl) (ar (au n) ab I I I I) I I ?_;exact qDr [(7,0),(8,1)] I I<|qDe<|gR 5 I<|gV 12 (qi ((b+1:Nat):Int)) I (al (by have :=p;omega)<|by omega) I<|gR 2 I<|go_xloop<|qW O h [0,1];refine gR 3 I<|go_xloopE<|gR 10 I ?_;obtain⟨rfl,rfl⟩:=h;exact go_sub (F':=(mkF 38 0 [(4,.ptr 0 0),(5,.bool true)])) (H':=⟨1,[(0,vC a.kind a.text a.leads a.kids)]⟩) [1] [] I O pq2 (pqo1 I I) I<|qN [.cell 4 26,.tmp 5]
def gZ(m:Nat)(E:Tree)(G:YI)(a:(List YI))(b:Nat)(J:(List YI)):Prop:=z5 m [] f62 (z4 (.sl 1) ⟨2,[(1,.row 36 1<|List.map (λl=>V.row 1<|List.map (V.int .i64) l) J)]⟩) (xM<|ac f62) [.blk 0,.seq<|xH<|ac f62] 33 [(0,.sl 0),(2,.row 1<|List.map (V.int .i64) G),(4,.box (am E) 0),(7,qi (b:Int))] ⟨1,[(0,.row 36 1<|List.map (λl=>V.row 1<|List.map (V.int .i64) l) a)]⟩
def pM(m:Nat)(G:Tree)(J:YI)(a:(List YI))(b:Nat)(O:(List YI)):Prop:=∀(K:Ctx) (E:Nat),aw K []->m<=E->Go prog K (bodyPost prog f62<|SP K<|z4 (.sl 1) ⟨2,[(1,.row 36 1<|List.map (λl=>V.row 1<|List.map (V.int .i64) l) O)]⟩) (.ex .normal) [.blk 1,.seq<|xA<|xM<|ac f62,.loop (xM<|ac f62) E,.blk 0,.seq<|xH<|ac f62] 33 (mkF 33 0 [(0,.sl 0),(2,.row 1<|List.map (V.int .i64) J),(4,.box (am G) 0),(7,qi (b:Int))]) ⟨1,[(0,.row 36 1<|List.map (λl=>V.row 1<|List.map (V.int .i64) l) a)]⟩
theorem xt(m:Nat)(p0:(List YI))(p1:Tree)(p2:YI)(r0:(List YI))(h:(p0++[p2]).length<=1000000000∧gZ m p1 p2 (p0++[p2]) 0 r0):iF p0 p1 p2 r0:=by
 refine qA 33 [] func62 λK hK=>?_;refine gR 3 I<|gFP 1 I I I I<|gR 8 I ?_;obtain⟨hb,h⟩:=h;exact gDo (.repl 0<|.row 36 1<|List.map (λl=>V.row 1<|List.map (V.int .i64) l)<|p0++[p2]) (aX ab I I I I I (apM (λl=>V.row 1<|List.map (V.int .i64) l) p0 p2) (by rw[az];exact hb)) (okR I) I I I<|gR 10 I<|go_loop m<|qW hK h [3]
theorem pz(m:Nat)(G:Tree)(E:YI)(c:(List YI))(a:Nat)(O:(List YI))(h:z8 (a<G.kids.length) (∃d,G.kids[a]?=some d∧E.length<=1000000000∧(E++[(a:Int)]).length<=1000000000∧∃b,iF c d (E++[(a:Int)]) b∧pM m G E b a O)<|c=O):gZ (m+1) G E c a O:=by
 refine qj λK U J p=>?_;refine gR 7 rfl<|gV 15 (qi (G.kids.length:Int)) rfl (aK<|aG _) rfl<|gLB 14 rfl (aG _) λo=>gR 3 rfl<|qXh 16 rfl rfl rfl h bx bw ?_ ?_<;>intro Z h;refine gR 5 I<|qDs [] 14 14<|qDr (qR 0 4 2 []) I I ?_;obtain⟨d,e,h⟩:=h;refine gYd 4 I (by kernel_rfl) (ar (au e) ab I I I I) I I<|qDr [(5,2),(7,2),(9,2)] I I ?_;apply ig (i:=6) (j:=10) (by kernel_rfl) rfl rfl rfl rfl;exact(gy ab I I);exact(gy ab I I);obtain⟨hb,h⟩:=h;have f:=hb;apply ig (i:=8) (j:=10) (by kernel_rfl) rfl rfl rfl rfl;exact(Lc (.repl 1<|.row 3 1<|List.map (V.int .i64) E) (aX ab I I I I I (aaj _) (by rw[az];exact f)) (okR I)<|by kernel_rfl);exact(gy ab I I);refine qDr [(10,0)] I I ?_;obtain⟨hb,h⟩:=h;refine ce 11 (.repl 2<|.row 3 1<|List.map (V.int .i64)<|E++[(a:Int)]) I (by kernel_rfl) (aX ab I I I I I (apM (V.int .i64) E (a:Int)) (by rw[az];exact hb)) (okR I) I (by kernel_rfl) I I ?_;refine gFR 4 I (cw _ (λ_=>I) _) I I ?_;obtain⟨b,g,h⟩:=h;refine qDC 12 g [0] I ?_;exact gHR 6 (List.map (λl=>V.row 1<|List.map (V.int .i64) l) b) I (dw _ (λl=>V.row 1<|List.map (V.int .i64) l) (λ_=>I) b) I<|qDr [(13,0)] I I<|qDe<|qW J h [6];refine ce 8 (.repl 1<|.row 3 1<|List.map (V.int .i64) E) I (by kernel_rfl) (aX ab I I I I I (aaj _) (by rw[az];exact f)) (okR I) I (by kernel_rfl) I I ?_;obtain⟨hb,h⟩:=h;refine ce 11 (.repl 3<|.row 3 1<|List.map (V.int .i64)<|E++[(a:Int)]) I (by kernel_rfl) (aX ab I I I I I (apM (V.int .i64) E (a:Int)) (by rw[az];exact hb)) (okR I) I (by kernel_rfl) I I ?_;refine gFR 4 I (cw _ (λ_=>I) _) I I ?_;obtain⟨b,k,h⟩:=h;refine qDC 12 k [0] I ?_;exact gHR 6 (List.map (λl=>V.row 1<|List.map (V.int .i64) l) b) I (dw _ (λl=>V.row 1<|List.map (V.int .i64) l) (λ_=>I) b) I<|qDr [(13,0)] I I<|qDe<|qW J h [6];refine qDr [(6,0)] I I ?_;obtain⟨hb,h⟩:=h;refine ce 8 (.repl 2<|.row 3 1<|List.map (V.int .i64) E) I (by kernel_rfl) (aX ab I I I I I (aaj _) (by rw[az];exact hb)) (okR I) I (by kernel_rfl) I I ?_;obtain⟨hb,h⟩:=h;refine ce 11 (.repl 3<|.row 3 1<|List.map (V.int .i64)<|E++[(a:Int)]) I (by kernel_rfl) (aX ab I I I I I (apM (V.int .i64) E (a:Int)) (by rw[az];exact hb)) (okR I) I (by kernel_rfl) I I ?_;refine gFR 4 I (cw _ (λ_=>I) _) I I ?_;obtain⟨b,n,h⟩:=h;refine qDC 12 n [0] I ?_;exact gHR 6 (List.map (λl=>V.row 1<|List.map (V.int .i64) l) b) I (dw _ (λl=>V.row 1<|List.map (V.int .i64) l) (λ_=>I) b) I<|qDr [(13,0)] I I<|qDe<|qW J h [6];refine gR 3 I<|go_xloopE<|gR 9 I ?_;subst h;exact gE J [] [(6,.sl 1)] [1000,0] [.tmp 6]
theorem wh(m:Nat)(E:Tree)(G:YI)(b:(List YI))(a:Nat)(J:(List YI))(h:a+1<=9223372036854775807∧gZ m E G b (a+1) J):pM (m+1) E G b a J:=by
 refine qj λK U O c=>?_;refine gR 4 I ?_;obtain⟨hb,h⟩:=h;exact gR 1 I<|gV 18 (qi ((a+1:Nat):Int)) I (al (by omega)<|by omega) I<|gR 2 I<|go_xloop<|qW O h [0]
theorem xp(m:Nat)(E:Tree)(G:(List YI))(h:∃a,iF ([]:List YI) E [] a∧a=G):lX E G:=by
 refine⟨I,I,?_⟩;refine qA 5 [] func30 λK J=>?_;refine gR 3 I<|gFP 0 I I I I<|gR 6 I ?_;obtain⟨a,b,h⟩:=h;refine gCn 0 36 1 b [1] (by kernel_rfl) I I I I (.cons .rfl<|.cons .rfl<|.cons (.nil 1) .nil) ⟨⟨_,I,⟨I,I,I⟩⟩,trivial⟩ I ?_;rintro _ _ ⟨rfl,rfl⟩;refine gHR 3 (List.map (λl=>V.row 1<|List.map (V.int .i64) l) a) I (dw _ (λl=>V.row 1<|List.map (V.int .i64) l) (λ_=>I) a) I<|gR 4 I<|gFR 3 I (cw _ (λ_=>I) _) I I ?_;subst h;exact qN [.tmp 2]
def gk(m:Nat)(E:YI)(a:Tree)(b:Nat)(c G:Int):Prop:=z5 m [] f63 (z3<|qi G) (xM<|ac f63) [.blk 0,.seq<|xH<|ac f63] 56 [(1,.row 1<|List.map (V.int .i64) E),(2,.ptr 0 0),(5,qi c),(6,qi (b:Int))] ⟨1,[(0,.var 26<|am a)]⟩
def ga(m:Nat)(J:YI)(a:Int)(b:Nat)(c:Tree)(d:Nat)(O:Int):Prop:=∀(K:Ctx) (E G:Nat),aw K []->m<=E->m<=G->qLG K f63 (z3<|qi O) (xM<|xN<|cB<|xM<|ac f63) [.loop (xM<|xN<|cB<|xM<|ac f63) E,.blk 2,.seq<|xH<|xN<|cB<|xM<|ac f63,.blk 1,.seq<|xA<|xM<|ac f63,.loop (xM<|ac f63) G,.blk 0,.seq<|xH<|ac f63] 56 (mkF 56 0 [(1,.row 1<|List.map (V.int .i64) J),(2,.ptr 0 0),(5,qi a),(6,qi (d:Int)),(7,qi (b:Int))]) ⟨1,[(0,.var 26<|am c)]⟩
theorem we(m:Nat)(p0:Tree)(p1:YI)(r0:Int)(h:gk m p1 p0 0 0 r0):ch p0 p1 r0:=by
 refine⟨I,I,?_⟩;refine qA 56 [] func63 λK hK=>?_;exact gR 18 I<|go_loop m<|qW hK h [0]
theorem og(m:Nat)(p1:YI)(b:Tree)(a:Nat)(c r0:Int)(h:z8 (a<p1.length) (∃d,p1[a]?=some d∧z8 (d<0) ((-1)=r0) (∃e,p1[a]?=some e∧z8 ((b.kids.length:Int)<=e) ((-1)=r0) (InI (c+1)∧ga m p1 (c+1) 0 b a r0)))<|c=r0):gk (m+1) p1 b a c r0:=by
 refine qj λK j1 hK l=>?_;refine gR 6 rfl<|gV 10 (qi (p1.length:Int)) rfl (aK<|az (V.int .i64) _) rfl<|gLB 9 rfl (az (V.int .i64) _) λj=>gR 3 rfl<|qXh 11 rfl rfl rfl h bx bw ?_ ?_<;>intro hd h;refine gR 7 I<|qDs [0] 12 15<|qDr [(0,2),(1,0)] I I ?_;obtain⟨d,g,h⟩:=h;refine cc 2 I (by kernel_rfl) (ar (an (f:=(V.int .i64)) g) ab I I I I) I I ?_;refine qDr (qR 3 3 0 []) rfl rfl<|qXdZ 19 18 rfl rfl rfl rfl h ?_ ?_<;>intro hd h;refine qDr (qR 6 4 2<|qR 10 4 0 [(14,1)]) I I<|qDe<|gR 11 I<|go_xloopR<|gR 2 I ?_;subst h;exact qN [.tmp 4];refine qDr [(6,2),(7,2)] I I ?_;obtain⟨e,i,h⟩:=h;refine gYd 8 rfl (by kernel_rfl) (ar (an (f:=(V.int .i64)) i) ab rfl rfl rfl rfl) rfl rfl<|qDr [(9,2),(10,0),(11,0),(12,1)] rfl rfl<|gV 26 (qi (b.kids.length:Int)) rfl (aK<|aG _) rfl<|gLB 25 rfl (aG _) λk=>qDr [(13,1),(14,1)] rfl rfl<|qDe<|gR 1 rfl<|qXd 28 rfl rfl rfl h ?_ ?_<;>intro hd h;refine gR 10 I<|go_xloopR<|gR 2 I ?_;subst h;exact qN [.tmp 4];refine gR 6 I ?_;obtain⟨hb,h⟩:=h;exact gR 1 I<|gV 30 (qi<|c+1) I (al hb I) I<|gR 10 I<|go_loop m<|qJ hK (h K _ _ hK (by omega)<|by omega) [0];refine gR 3 I<|go_xloopE<|gR 9 I ?_;subst h;exact qN [.tmp 4]
theorem ov(m:Nat)(E:YI)(c:Int)(a:Nat)(e:Tree)(b:Nat)(G:Int)(h:∃g,E[b]?=some g∧z8 ((a:Int)<g) (∃k,e.kids[a]?=some k∧∃d,dX k d∧InI (c+d)∧a+1<=9223372036854775807∧ga m E (c+d) (a+1) e b G) (∃l,E[b]?=some l∧∃i,l=((i:Nat):Int)∧∃n,e.kids[i]?=some n∧b+1<=9223372036854775807∧gk m E n (b+1) c G)):ga (m+1) E c a e b G:=by
 intro K J O U v w;obtain⟨J,rfl⟩:∃j,J=j+1:=⟨J-1,by omega⟩;obtain⟨O,rfl⟩:∃j,O=j+1:=⟨O-1,by omega⟩;refine gR 6 I ?_;obtain⟨g,o,h⟩:=h;refine gY (ar (an (f:=(V.int .i64)) o) ab rfl rfl rfl rfl) rfl rfl<|gR 4 rfl<|qXd 36 rfl rfl rfl h ?_ ?_<;>intro Z h;refine gR 10 I ?_;obtain⟨k,p,h⟩:=h;refine gY (ar (au p) ab I I I I) I I<|gR 1 I ?_;obtain⟨d,t,h⟩:=h;refine qC0 t I ?_;obtain⟨hb,h⟩:=h;refine gR 1 I<|gV 46 (qi (c+d)) I (al hb I) I<|gR 6 I ?_;obtain⟨hb,h⟩:=h;exact gR 1 I<|gV 38 (qi ((a+1:Nat):Int)) I (al (by omega) (by omega)) I<|gR 2 I<|go_xloop<|qJ U (h K _ _ U (by omega) (by omega)) [0];refine gR 3 I<|go_xloopE<|gR 2 I<|qDs [0] 8 9<|qDr [(0,2),(1,3),(2,2),(3,0)] I I ?_;obtain⟨l,q,h⟩:=h;refine cc 4 I (by kernel_rfl) (ar (an (f:=(V.int .i64)) q) ab I I I I) I I ?_;refine qDr [(5,0)] I I ?_;obtain⟨i,s,h⟩:=h;refine gV 52 (qi ((i:Nat):Int)) I (aI s) I ?_;obtain⟨n,r,h⟩:=h;refine cc 6 I (by kernel_rfl) (ar (au r) ab I I I I) I I ?_;refine qDr [(7,0),(8,1)] I I<|qDe<|gR 4 I ?_;obtain⟨hb,h⟩:=h;exact gR 1 I<|gV 13 (qi ((b+1:Nat):Int)) I (al (by omega) (by omega)) I<|gR 2 I<|go_xloop<|qW U h [0]
def iB(m:Nat)(E:Tree)(a:Int)(b:Nat)(G:Int):Prop:=z5 m [] f7 (z3<|qi G) (xM<|ac f7) [.blk 0,.seq<|xH<|ac f7] 21 [(1,.box (am E) 0),(3,qi a),(4,qi (b:Int))] ⟨0,[]⟩
theorem yj(m:Nat)(p0:Tree)(r0:Int)(h:iB m p0 1 0 r0):dX p0 r0:=by
 refine⟨I,I,?_⟩;refine qA 21 [] func7 λK hK=>?_;exact gR 3 I<|gFP 0 I I I I<|gR 15 I<|go_loop m<|qW hK h []
theorem lB(m:Nat)(E:Tree)(b:Int)(a:Nat)(G:Int)(h:z8 (a<E.kids.length) (∃d,E.kids[a]?=some d∧∃c,dX d c∧InI (b+c)∧iB m E (b+c) (a+1) G)<|b=G):iB (m+1) E b a G:=by
 refine qj λK O J i=>?_;refine gR 7 rfl<|gV 8 (qi (E.kids.length:Int)) rfl (aK<|aG _) rfl<|gLB 7 rfl (aG _) λf=>gR 3 rfl<|qXh 9 rfl rfl rfl h bx bw ?_ ?_<;>intro U h;refine gR 10 I ?_;obtain⟨d,e,h⟩:=h;refine gY (ar (au e) ab I I I I) I I<|gR 1 I ?_;obtain⟨c,g,h⟩:=h;refine qC0 g I ?_;obtain⟨hb,h⟩:=h;exact gR 1 I<|gV 19 (qi<|b+c) I (al hb I) I<|gR 7 I<|gV 11 (qi ((a+1:Nat):Int)) I (al (by have :=f;omega)<|by omega) I<|gR 2 I<|go_xloop<|qW J h [];refine gR 3 I<|go_xloopE<|gR 9 I ?_;subst h;exact qN [.tmp 2]
theorem BD(m:Nat)(E G:YI)(h:∀(a:Bool),(a=true->E.length=0)->((a=true)->[]=G)∧((a=false)->E.length<=1000000000∧E=G)):rB E G:=by
 refine⟨I,I,?_⟩;refine qA 8 [] func149 λK J=>?_;refine gR 9 I<|NJ (N:=E.length) ab I I I I (az (V.int .i64) E) λa hb=>?_;replace h:=h a hb;refine gR 2 rfl<|qBi 4 rfl rfl rfl h ?_ ?_<;>intro h;refine gR 8 I ?_;subst h;exact go_sub (F':=(mkF 8 0 [(2,.row 1<|List.map (V.int .i64) [])])) (H':=⟨0,[]⟩) [] [] I J ⟨⟨_,I,(.nil 1)⟩,trivial⟩ trivial I<|qN [.tmp 2];refine gR 7 I ?_;obtain⟨hb,h⟩:=h;refine gDo (.repl 0<|.row 3 1<|List.map (V.int .i64) E) (aX ab I I I I I (aaj _) (by rw[az];exact hb)) (okR I) I I I<|gR 4 I<|gFR 1 I (cw _ (λ_=>I) _) I I ?_;subst h;exact qN [.tmp 2]
theorem zF(m:Nat)(E G:YI)(h:∀(a:Bool),(a=true->E.length=0)->z9 a ([]=G) (E.length<=1000000000∧E=G)):ir E G:=by
 refine qA 8 [0] func149 λK J=>?_;refine gR 9 I<|NJ (N:=E.length) ab I I I I (az (V.int .i64) E) λa hb=>?_;replace h:=h a hb;refine gR 2 rfl<|qBi 4 rfl rfl rfl h ?_ ?_<;>intro h;refine gR 8 I ?_;subst h;exact gE J [] [(2,.row 1<|List.map (V.int .i64) [])] [0] [.tmp 2] ⟨⟨_,I,(.nil 1)⟩,trivial⟩;refine gR 7 I ?_;obtain⟨hb,h⟩:=h;refine gDo (.repl 1<|.row 3 1<|List.map (V.int .i64) E) (aX ab I I I I I (aaj _) (by rw[az];exact hb)) (okR I) I I I<|gR 4 I<|gFR 2 I (cw _ (λ_=>I) _) I I ?_;subst h;exact gE J [] [(2,.row 1<|List.map (V.int .i64) E)] [0] [.tmp 2]
mutual
def nodK:Tree->YI->List (YI×Tree)
 |.node k s ls ks,q=>(q,.node k s ls ks)::nodKs ks q 0
def nodKs:YT->YI->Nat->List (YI×Tree)
 |[],_,_=>[]
 |t::r,q,i=>nodK t (q++[(i:Int)])++nodKs r q (i+1)
end
theorem zm(t:Tree)(q:YI):nodK t q=(q,t)::nodKs t.kids q 0:=by cases t;simp only[nodK];rfl
mutual
theorem nodK_len:∀(t:Tree) (q:YI),(nodK t q).length<=tbulk t
 |.node k s ls ks,q=>by have :=nodKs_len ks q 0;simp only[nodK,tbulk,aad];omega
theorem nodKs_len:∀(l:YT) (q:YI) (i:Nat),(nodKs l q i).length<=kbulk l
 |[],_,_=>by simp[nodKs,kbulk]
 |t::r,q,i=>by have :=nodK_len t<|q++[(i:Int)];have :=nodKs_len r q<|i+1;simp only[nodKs,kbulk,aac];omega
end
def atK:Tree->YI->Option Tree
 |t,[]=>some t
 |t,i::r=>if i<0 then none else match t.kids[i.toNat]? with
  |none=>none
  |some u=>atK u r
theorem vt:∀(t:Tree) (q r:YI),atK t (q++r)=(atK t q).bind λu=>atK u r
 |t,[],r=>rfl
 | t,i::q,r=>by
  simp only[aas,atK];split
  ·rfl
  ·split
   ·rfl
   ·rename_i u hu;exact vt u q r
theorem jY{t:Tree}(h:t.kids[i]?=some u):atK t [(i:Int)]=some u:=by simp[atK,h,show¬((i:Int)<0) by omega]
mutual
theorem nodK_at(root:Tree):∀(t:Tree) (q:YI),atK root q=some t->∀x∈nodK t q,atK root x.1=some x.2
 |.node k s ls ks,q,h,x,hx=>by
  simp only[nodK,aak]at hx;rcases hx with rfl|hx
  ·exact h
  ·exact nodKs_at root (.node k s ls ks) q h ks 0 rfl x hx
theorem nodKs_at(root t:Tree)(q:YI)(h:atK root q=some t):∀(l:YT) (i:Nat),t.kids.drop i=l->∀x∈nodKs l q i,atK root x.1=some x.2
 |[],_,_,x,hx=>by simp[nodKs]at hx
 | u::r,i,hd,x,hx=>by
  simp only[nodKs,aal]at hx;have hu:t.kids[i]?=some u:=by have :=congrArg (·[0]?) hd;simpa using this
  rcases hx with hx|hx
  ·exact nodK_at root u (q++[(i:Int)]) (by rw[vt,h];exact jY hu) x hx
  ·exact nodKs_at root t q h r (i+1) (by rw[<-List.tail_drop,hd];rfl) x hx
end
mutual
theorem nodK_bnd:∀(t:Tree) (q:YI),∀x∈nodK t q,x.1.length+tbulk x.2<=q.length+tbulk t
 |.node k s ls ks,q,x,hx=>by
  simp only[nodK,aak]at hx;rcases hx with rfl|hx
  ·exact aaf _
  ·have :=nodKs_bnd ks q 0 x hx;simp only[tbulk];omega
theorem nodKs_bnd:∀(l:YT) (q:YI) (i:Nat),∀x∈nodKs l q i,x.1.length+tbulk x.2<=q.length+kbulk l+1
 |[],_,_,x,hx=>by simp[nodKs]at hx
 |t::r,q,i,x,hx=>by
  simp only[nodKs,aal]at hx;rcases hx with hx|hx
  ·have :=nodK_bnd t (q++[(i:Int)]) x hx;simp only[kbulk,aac,List.length_singleton]at *;omega
  ·have :=nodKs_bnd r q (i+1) x hx;simp only[kbulk];omega
end
def mz(l:List<|YI×Tree):List YI:=l.map (·.1)
theorem OW(l:YI)(E:l.length<=1000000000):rB l l:=BD 0 _ _ λb hb=>⟨λh=>(List.length_eq_zero_iff.1 (hb h)).symm,λ_=>⟨E,rfl⟩⟩
theorem As(l:YI)(E:l.length<=1000000000):ir l l:=zF 0 _ _ λb hb=>⟨λh=>(List.length_eq_zero_iff.1 (hb h)).symm,λ_=>⟨E,rfl⟩⟩
theorem Mw(t:Tree)(q:YI)(hq:q.length<=1000000000):bF t q ((atK t q).getD<|.node 0 [] [] []) (atK t q).isSome:=by
 have loop:∀m i (u:Tree),q.length-i<=m->jR (m+1) q u i ((atK u<|q.drop i).getD<|.node 0 [] [] []) (atK u<|q.drop i).isSome:=λm=>by
  induction m with
  |zero=>
   intro i u hi;refine sn 0 _ _ _ _ _ ⟨λh=>by omega,λh=>?_⟩;rw[List.drop_of_length_le<|by omega];exact⟨rfl,rfl⟩
  | succ m ihm=>
   intro i u hi;refine sn (m+1) _ _ _ _ _ ⟨λh=>?_,λh=>?_⟩
   ·obtain⟨x,hx,_⟩|h':=aQ q i
    ·rw[bc hx,atK];refine⟨x,hx,λh1=>by simp[h1],λh1=>⟨x,hx,λh2=>?_,λh2=>?_⟩⟩
     ·have :u.kids[x.toNat]?=none:=List.getElem?_eq_none (by omega);simp[h1,this]
     ·obtain⟨y,hy,_⟩|h3:=aQ u.kids x.toNat
      ·refine⟨x,hx,x.toNat,by omega,y,hy,?_⟩;simp only[if_neg h1,hy];exact ihm (i+1) y (by omega)
      ·omega
    ·exact absurd h h'
   ·rw[List.drop_of_length_le<|by omega];exact⟨rfl,rfl⟩
 have :=loop q.length 0 t (by omega);exact zC _ _ _ _ _ (by simpa using this)
theorem Pb:∀(t:Tree) (q:YI) (l:List YI),q.length+tbulk t<=1000000000->l.length+tbulk t<=1000000000->iF l t q (l++mz (nodK t q)):=cP λt ih q l hq hf=>by
 have hk:=cb t;have hb:=bt t;have loop:∀k i l,t.kids.length-i<=k->l.length+kbulk (t.kids.drop i)<=1000000000->gZ (2*k+1) t q l i (l++mz (nodKs (t.kids.drop i) q i)):=λk=>by
  induction k with
  |zero=>
   intro i l hi hf;refine pz _ _ _ _ _ _ ⟨λh=>by omega,λh=>?_⟩;rw[List.drop_of_length_le<|by omega];simp[nodKs,mz]
  | succ k ihk=>
   intro i l hi hf;refine pz (2*k+2) _ _ _ _ _ ⟨λh=>?_,λh=>?_⟩
   ·obtain⟨u,hu,_⟩|h':=aQ t.kids i
    ·have hd:=bc hu;rw[hd,kbulk]at hf;have hbu:=cm hu;have hl:=nodK_len u<|q++[(i:Int)];refine⟨u,hu,by omega,by simp;omega,_,ih i u hu (q++[(i:Int)]) l (by simp;omega) (by omega),wh (2*k+1) _ _ _ _ _ ⟨by omega,?_⟩⟩;have :=ihk (i+1) (l++mz (nodK u<|q++[(i:Int)])) (by omega) (by simp[mz];omega);rw[hd,nodKs];simpa[mz]using this
    ·exact absurd h h'
   ·rw[List.drop_of_length_le<|by omega];simp[nodKs,mz]
 refine xt (2*t.kids.length+1) _ _ _ _ ⟨by have :=bH t;simp;omega,?_⟩;have :=loop t.kids.length 0 (l++[q]) (by omega) (by simp;omega);rw[zm];simpa[mz]using this
theorem Ol(t:Tree)(ht:tbulk t<=1000000000):lX t (mz<|nodK t []):=xp 0 _ _ ⟨_,by simpa using Pb t [] [] (by simpa using ht) (by simpa using ht),rfl⟩
mutual
def nN:Tree->Nat
 |.node _ _ _ ks=>nNs ks+1
def nNs:YT->Nat
 |[]=>0
 |t::r=>nN t+nNs r
end
theorem Bc(t:Tree):nN t=nNs t.kids+1:=by cases t;simp only[nN,Tree.kids]
theorem AT(t:Tree):0<nN t:=by rw[Bc];omega
mutual
theorem nN_bulk:∀t:Tree,nN t<=tbulk t
 |.node _ s l ks=>by have :=nNs_bulk ks;simp only[nN,tbulk];omega
theorem nNs_bulk:∀l:YT,nNs l<=kbulk l
 |[]=>aaf _
 |t::r=>by have :=nN_bulk t;have :=nNs_bulk r;simp only[nNs,kbulk];omega
end
theorem zw:∀a b:YT,nNs (a++b)=nNs a+nNs b
 |[],b=>by simp[nNs]
 |t::r,b=>by simp only[aas,nNs,zw r b];omega
theorem tt{l:YT}(h:l[i]?=some u):nNs (l.take<|i+1)=nNs (l.take i)+nN u:=by rw[List.take_add_one,h,zw];simp[nNs]
theorem lM:∀(l:YT) (i:Nat),nNs (l.take i)<=nNs l
 |[],i=>by simp[nNs]
 |t::r,0=>by simp[nNs]
 |t::r,i+1=>by have :=lM r i;simp only[List.take_succ_cons,nNs];omega
theorem hW{l:YT}(h:l[i]?=some u):nNs (l.take i)+nN u<=nNs l:=by
 rw[<-tt h];exact lM l<|i+1
theorem vS:∀l:YT,l.length<=nNs l
 |[]=>aaf _
 |t::r=>by have :=vS r;have :=AT t;simp only[aad,nNs];omega
def ay:Tree->YI->Nat
 |_,[]=>0
 |t,i::r=>match t.kids[i.toNat]? with
  |some u=>1+nNs (t.kids.take i.toNat)+ay u r
  |none=>0
theorem dZ{t:Tree}{i:Int}{r:YI}(h:t.kids[i.toNat]?=some u):ay t (i::r)=1+nNs (t.kids.take i.toNat)+ay u r:=by simp only[ay,h]
theorem FK:∀(q:YI) (t u:Tree) (r:YI),atK t q=some u->ay t (q++r)=ay t q+ay u r
 |[],t,u,r,h=>by simp only[atK,aab]at h;subst h;simp[ay]
 |i::q,t,u,r,h=>by
  simp only[atK]at h;split at h
  ·cases h
  split at h
  ·cases h
  rename_i y hy;rw[aas,dZ hy,dZ hy,FK q y u r h];omega
theorem KQ{t v:Tree}{q:YI}(h:atK t q=some u)(hi:u.kids[i]?=some v):ay t (q++[(i:Int)])=ay t q+1+nNs (u.kids.take i):=by
 rw[FK q t u _ h,dZ (u:=v)<|by simpa using hi];simp[ay];omega
theorem ni:∀(q:YI) (t u:Tree),atK t q=some u->ay t q+nN u<=nN t
 |[],t,u,h=>by simp only[atK,aab]at h;subst h;simp[ay]
 |i::q,t,u,h=>by
  simp only[atK]at h;split at h
  ·cases h
  split at h
  ·cases h
  rename_i y hy;have :=ni q y u h;have :=hW hy;rw[dZ hy,Bc t];omega
theorem tc{t:Tree}{q:YI}(h:atK t q=some u):ay t q<nN t:=by have :=ni q t u h;have :=AT u;omega
mutual
theorem nodK_nN:∀(t:Tree) (q:YI),(nodK t q).length=nN t
 |.node k s l ks,q=>by simp only[nodK,nN,aad,nodKs_nN ks q 0]
theorem nodKs_nN:∀(l:YT) (q:YI) (i:Nat),(nodKs l q i).length=nNs l
 |[],_,_=>rfl
 |t::r,q,i=>by simp only[nodKs,nNs,aac,nodK_nN t,nodKs_nN r]
end
mutual
theorem nodK_num:∀(t:Tree) (p:YI) (k:Nat) (x:YI×Tree),(nodK t p)[k]?=some x->∃r,x.1=p++r∧atK t r=some x.2∧ay t r=k
 |.node kd s l ks,p,0,x,h=>by simp only[nodK,List.getElem?_cons_zero,aab]at h;subst h;exact⟨[],by simp,rfl,rfl⟩
 | .node kd s l ks,p,k+1,x,h=>by
  simp only[nodK,List.getElem?_cons_succ]at h;obtain⟨i,u,r,h1,h2,h3,h4⟩:=nodKs_num ks p 0 k x h;have hk:(Tree.node kd s l ks).kids[((i:Nat):Int).toNat]?=some u:=by simpa[Tree.kids]using h1
  refine⟨(i:Int)::r,by simpa using h2,?_,?_⟩
  ·simp only[atK];rw[if_neg (by omega),hk];exact h3
  ·rw[dZ hk];simp only[Tree.kids,Int.toNat_natCast];omega
theorem nodKs_num:∀(l:YT) (p:YI) (i k:Nat) (x:YI×Tree),(nodKs l p i)[k]?=some x->∃(j:Nat) (u:Tree) (r:YI),l[j]?=some u∧x.1=p++((i+j:Nat):Int)::r∧atK u r=some x.2∧nNs (l.take j)+ay u r=k
 |[],p,i,k,x,h=>by simp[nodKs]at h
 | t::l,p,i,k,x,h=>by
  simp only[nodKs]at h;by_cases hk:k<(nodK t<|p++[(i:Int)]).length
  ·rw[List.getElem?_append_left hk]at h;obtain⟨r,h1,h2,h3⟩:=nodK_num t _ k x h;exact⟨0,t,r,rfl,by rw[h1];simp,h2,by simpa[nNs]using h3⟩
  ·rw[List.getElem?_append_right<|by omega]at h;obtain⟨j,u,r,h1,h2,h3,h4⟩:=nodKs_num l p (i+1) _ x h;have hl:=nodK_nN t<|p++[(i:Int)];exact⟨j+1,u,r,by simpa using h1,by rw[h2,show i+1+j=i+(j+1) by omega],h3,by simp only[List.take_succ_cons,nNs];omega⟩
end
theorem AF:∀(q:YI) (t u:Tree) (p:YI),atK t q=some u->(nodK t p)[ay t q]?=some (p++q,u):=λq t u p h=>by
 have hl:ay t q<(nodK t p).length:=by rw[nodK_nN];exact tc h
 obtain⟨x,hx⟩:∃x,(nodK t p)[ay t q]?=some x:=⟨_,List.getElem?_eq_getElem hl⟩;obtain⟨r,h1,h2,h3⟩:=nodK_num t p _ x hx;have key:∀(q r:List Int) (t u v:Tree),atK t q=some u->atK t r=some v->ay t q=ay t r->q=r:=λq=>by
  induction q with
  | nil=>
   intro r t u v hq hr hn;cases r with
   |nil=>rfl
   |cons j r=>
    exfalso;simp only[atK]at hr;split at hr
    ·cases hr
    split at hr
    ·cases hr
    rename_i y hy;rw[dZ hy]at hn;simp only[ay]at hn;omega
  | cons i q ih=>
   intro r t u v hq hr hn;cases r with
   |nil=>
    exfalso;simp only[atK]at hq;split at hq
    ·cases hq
    split at hq
    ·cases hq
    rename_i y hy;rw[dZ hy]at hn;simp only[ay]at hn;omega
   | cons j r=>
    simp only[atK]at hq hr;split at hq
    ·cases hq
    rename_i hi0;split at hq
    ·cases hq
    rename_i y hy;split at hr
    ·cases hr
    rename_i hj0;split at hr
    ·cases hr
    rename_i z hz;rw[dZ hy,dZ hz]at hn;have b1:=tc hq;have b2:=tc hr;rcases Nat.lt_trichotomy i.toNat j.toNat with hlt|heq|hlt
    ·exfalso;have m1:nNs (t.kids.take<|i.toNat+1)<=nNs (t.kids.take j.toNat):=by
      have :=lM (t.kids.take j.toNat)<|i.toNat+1
      rwa [List.take_take,aaD<|by omega]at this
     rw[tt hy]at m1;omega
    ·rw[heq]at hy;rw[hy]at hz;have :=Option.some.inj hz;subst this;rw[heq]at hn;rw[ih r y u v hq hr (by omega),show i=j by omega]
    ·exfalso;have m1:nNs (t.kids.take<|j.toNat+1)<=nNs (t.kids.take i.toNat):=by
      have :=lM (t.kids.take i.toNat)<|j.toNat+1
      rwa [List.take_take,aaD<|by omega]at this
     rw[tt hz]at m1;omega
 have e:=key q r t u x.2 h h2 h3.symm;subst e;rw[h]at h2;have :=Option.some.inj h2;rw[hx];obtain⟨a,b⟩:=x;simp only at h1 this;rw[h1,this]
theorem Mr{t v:Tree}{q r:YI}(h1:atK t q=some u)(h2:atK t r=some v)(h:ay t q=ay t r):q=r∧u=v:=by have E:=AF q t u [] h1;have G:=AF r t v [] h2;rw[h,G]at E;simp only[aaj,aab,Prod.mk.injEq]at E;exact⟨E.1.symm,E.2.symm⟩
def fU:YT->Nat->YI
 |[],_=>[]
 |t::r,n=>(n:Int)::fU r (n+nN t)
theorem ik:∀(l:YT) (n:Nat),(fU l n).length=l.length
 |[],_=>rfl
 |t::r,n=>by simp[fU,ik r]
theorem Ev:∀(l:YT) (n i:Nat),i<l.length->(fU l n)[i]?=some ((n+nNs (l.take i):Nat):Int)
 |[],n,i,h=>by simp at h
 |t::r,n,0,h=>by simp[fU,nNs]
 |t::r,n,i+1,h=>by
  simp only[fU,List.getElem?_cons_succ,List.take_succ_cons,nNs];rw[Ev r _ i<|by simpa using h]
  congr 2;omega
theorem CJ:∀(l:YT) (t:Tree) (n:Nat),fU (l++[t]) n=fU l n++[((n+nNs l:Nat):Int)]
 |[],t,n=>by simp[fU,nNs]
 |u::r,t,n=>by simp only[aas,fU,CJ r t,nNs];rw[show n+nN u+nNs r=n+(nN u+nNs r) by omega]
variable{ty:TypeId}{x:Operand}
section
variable{P:Program}{T:Tab}{K:Ctx}{Q:Exit->Act->World->Prop}{s:List EI}{n:Nat}{F:Fm}{H:Hp}{all:Array Oper}{rest:List Oper}{o:Oper}
theorem Rg{f:Nat->Option Value}{a:Act}{w:World}{src dst:TypeId}{k k' k1:IntKind}{m:Int}(h:Fr a n f)(hs:P.underlying src=some (.int k1))(ht:P.underlying dst=some (.int k))(hx:aE f x=some (.int k' m))(E:k.wrap m=m):Runs P a ty (.convert src dst x) w (.value<|.int k m) w:=λ_ _ _ _=>by simp only[execOp,h.eval hx];simp[go_sem,convert,run_underlying hs,run_underlying ht,Conv.intToInt,E]
theorem yCv{src dst:TypeId}{k k' k1:IntKind}{m:Int}(hs:P.underlying src=some (.int k1))(ht:P.underlying dst=some (.int k))(hx:aJ F x=some (.int k' m))(G:k.wrap m=m):∀S w ρ a,HRel S w ρ H.get->FRel S w ρ a n F->Yld P S w ρ a ty (.convert src dst x) (.int k m):=λS w ρ a hr E=>⟨_,by simp only[VRel],λw' _=>Rg E.fr hs ht (aV<|aq E hx) G⟩
end
section
variable{α β:Type}[DecidableEq α]
def dU(a:α):List (α×β)->Option β
 |[]=>none
 |p::r=>if p.1=a then some p.2 else dU a r
def eC(a:α)(b:β):List (α×β)->List (α×β)
 |[]=>[(a,b)]
 |p::r=>if p.1=a then(a,b)::r else p::eC a b r
theorem sI(a c:α)(b:β):∀l:List<|α×β,dU c (eC a b l)=if c=a then some b else dU c l
 |[]=>by
  simp only[eC,dU];by_cases h:c=a
  ·rw[if_pos h,if_pos h.symm]
  ·rw[if_neg h,if_neg λe=>h e.symm]
 | p::r=>by
  simp only[eC];split
  ·rename_i hp;simp only[dU];by_cases h:c=a
   ·rw[if_pos h,if_pos h.symm]
   ·rw[if_neg h,if_neg λe=>h e.symm,if_neg λe=>h<|by rw[<-e,hp]]
  ·rename_i hp;simp only[dU,sI a c b r];by_cases h:p.1=c
   ·rw[if_pos h,if_pos h,if_neg λe=>hp<|by rw[h,e]]
   ·rw[if_neg h,if_neg h]
def rN(a:α):List (α×β)->List MapEntry->Nat->Option (Nat×Value)
 |p::r,e::es,i=>if p.1=a then some (i,e.val)else rN a r es (i+1)
 |_,_,_=>none
end
structure KeyT (P:Program) (kt:TypeId) (α:Type) [DecidableEq α] (enc:α->V) where
 val:α->Value
 rel:∀a S w ρ x,VRel S w ρ (enc a) x↔x=val a
 chk:∀w em a,(Instr.checkKey em 10000 kt (val a)).run P w=.ok () w
 fnd:∀w a (β:Type) (l:List (α×β)) (es:List MapEntry),es.map (·.key)=l.map (λp=>val p.1)->(Instr.findKey kt (val a) es).run P w=.ok (rN a l es 0) w
 stay:∀w a,(Instr.keyThatStays (val a) (val a)).run P w=.ok (val a) w
variable{t:TypeId}
variable{ks vs:List V}
section
variable{P:Program}{α β:Type}[DecidableEq α]{enc:α->V}{kt:TypeId}
theorem yT(val:α->Value)(a:α):∀(l:List<|α×β) (es:List MapEntry) (i:Nat),es.map (·.key)=l.map (λp=>val p.1)->
  (rN a l es i=none∧dU a l=none∧∀b,eC a b l=l++[(a,b)])∨∃j e d,rN a l es i=some (i+j,e.val)∧es[j]?=some e∧e.key=val a∧l[j]?=some (a,d)∧dU a l=some d∧∀b,eC a b l=l.set j (a,b)
 |[],[],i,h=>.inl ⟨rfl,rfl,λb=>rfl⟩
 |[],e::es,i,h=>by simp at h
 |p::r,[],i,h=>by simp at h
 | p::r,e::es,i,h=>by
  simp only[aah,List.cons.injEq]at h;by_cases hp:p.1=a
  ·refine .inr ⟨0,e,p.2,by simp only[rN,if_pos hp];rfl,rfl,by rw[h.1,hp],by rw[<-hp];rfl,by simp only[dU,if_pos hp],λb=>by simp only[eC,if_pos hp];rfl⟩
  ·rcases yT val a r es (i+1) h.2 with⟨h1,h2,h3⟩|⟨j,e',d,h1,h2,h3,h4,h5,h6⟩
   ·exact .inl ⟨by simp only[rN,if_neg hp,h1],by simp only[dU,if_neg hp,h2],λb=>by simp only[eC,if_neg hp,h3 b];rfl⟩
   ·exact .inr ⟨j+1,e',d,by simp only[rN,if_neg hp,h1,show i+1+j=i+(j+1) by omega],by simpa using h2,h3,by simpa using h4,by simp only[dU,if_neg hp,h5],λb=>by simp only[eC,if_neg hp,h6 b];rfl⟩
theorem CH{d:TypeDesc}{val:α->Value}(hs:∀a b,Instr.sameNow d (val a) (val b)=some (decide<|b=a))(a:α):∀(l:List<|α×β) (es:List MapEntry) (i:Nat),es.map (·.key)=l.map (λp=>val p.1)->Instr.findNow d (val a) es i=some (rN a l es i)
 |[],[],i,h=>rfl
 |[],e::es,i,h=>by simp at h
 |p::r,[],i,h=>by simp at h
 | p::r,e::es,i,h=>by
  simp only[aah,List.cons.injEq]at h;unfold Instr.findNow;rw[h.1,hs];by_cases hp:p.1=a
  ·simp[hp,rN]
  ·simp only[hp,decide_false,rN,if_neg];exact CH hs a r es (i+1) h.2
def PV(E:P.underlying kt=some (.int .i64)):KeyT P kt Int (V.int .i64) where
 val a:=.int .i64 a
 rel a S w ρ x:=by simp only[VRel]
 chk w em a:=by show(Instr.checkKey em (9999+1) kt _).run P w=_;unfold Instr.checkKey;simp[run_underlying E]
 fnd w a β l es h:=MapKept.run_findKey E (CH (val:=λa=>Value.int .i64 a) (λa b=>by
  simp only[Instr.sameNow,if_true]
  congr 1
  by_cases h:a=b
  ·subst h;simp
  ·have h':¬b=a:=λe=>h e.symm;rw[decide_eq_false h'];simpa using h) a l es 0 h)
 stay w a:=by
  have :Instr.sameBits 10000 (.int .i64 a) (.int .i64 a)=true:=by unfold Instr.sameBits;simp
  simp[Instr.keyThatStays,this]
variable{S:Nat->Prop}{w w':World}{ρ ρ':Nat->Option Value}{h h':Nat->Ob}{a:Act}{n:Nat}{ty:TypeId}
theorem DF:Runs P a ty (.makeMap t none) w (.value<|.map<|some w.heap.size) (w.alloc<|.map #[] 0):=λ_ _ _ _=>by simp only[execOp,Option.map_none];simp[run_makeMap]
theorem e_mkMap{kt et:TypeId}{nid:Nat}(hr:HRel S w ρ h)(hf:h nid=.free):Does P S w ρ h a ty (.makeMap t none) (some<|.sl nid) (bE h nid<|.mp kt et [] []) (λ_=>False):=by
 have E:Chg [] w (w.alloc<|.map #[] 0):=Chg.alloc w _;refine⟨_,_,cz ρ nid<|.map<|some w.heap.size,DF,eff_new hr hf E ⟨w.heap.size,#[],0,aU _ _ _,heap_alloc_new w _,by simp[LRel],by simp[LRel]⟩ λb hb=>?_,_,rfl,?_⟩
 ·simp only[own]at hb;rw[aU]at hb;simp only[aab,Value.map.injEq]at hb;omega
 ·simp only[VRel];exact⟨aU _ _ _,rfl⟩
def IR(c:Bool)(o:Option β)(encV:β->V)(zv:V):V:=match o with
 |some d=>match c with|true=>.tup [encV d,.bool true]|false=>encV d
 |none=>match c with|true=>.tup [zv,.bool false]|false=>zv
theorem Ri{id:Nat}{et:TypeId}(hr:HRel S w ρ h)(ho:h id=.mp kt et ks vs):∃b es clock,ρ id=some (.map<|some b)∧w.heap[b]?=some (.map es clock)∧LRel S w ρ0 ks (es.toList.map (·.key))∧LRel S w ρ0 vs (es.toList.map (·.val)):=by have :=hr.ob id;rw[ho]at this;exact this
theorem Ae(D:KeyT P kt α enc){f:β->α}:∀{l:List β} {xs:List Value},LRel S w ρ0 (l.map λp=>enc<|f p) xs->xs=l.map λp=>D.val (f p)
 |[],xs,h=>by simp only[aav,LRel]at h;simp[h]
 |p::r,xs,h=>by simp only[aah,LRel]at h;obtain⟨x,ys,rfl,h1,h2⟩:=h;rw[(D.rel _ _ _ _ _).1 h1,Ae D h2];rfl
theorem DZ{f:β->V}:∀{l:List β} {xs:List Value} {j:Nat} {x:Value} {d:β},LRel S w ρ0 (l.map f) xs->xs[j]?=some x->l[j]?=some d->VRel S w ρ0 (f d) x
 |[],xs,j,x,d,h,_,E=>by simp at E
 |p::r,xs,0,x,d,h,hx,E=>by simp only[aah,LRel]at h;obtain⟨y,ys,rfl,h1,h2⟩:=h;simp only[List.getElem?_cons_zero,aab]at hx E;subst hx E;exact h1
 |p::r,xs,j+1,x,d,h,hx,E=>by simp only[aah,LRel]at h;obtain⟨y,ys,rfl,h1,h2⟩:=h;exact DZ h2 (by simpa using hx) (by simpa using E)
end
section
variable{P:Program}{T:Tab}{K:Ctx}{Q:Exit->Act->World->Prop}{p:EP}{s:List EI}{n:Nat}{F F1:Fm}{H H1:Hp}{α β:Type}[DecidableEq α]{enc:α->V}{kt:TypeId}
theorem dMM(kt et:TypeId):∀S w ρ a,HRel S w ρ H.get->FRel S w ρ a n F->Does P S w ρ H.get a ty (.makeMap t none) (some<|.sl H.nx) ((ED.new<|.mp kt et [] []).app H.get H.nx) (ED.new<|.mp kt et [] []).tch:=λS w ρ a hr E=>
 e_mkMap hr H.get_free
theorem gHM{kt et:TypeId}(id:Nat)(ks' vs':List V)(ho:H.get id=.mp kt et ks vs)(h1:ks=ks')(h2:vs=vs')(E:H.ap (.set id<|.mp kt et ks' vs') _root_.id=H1)(k:Go P K Q p s n F H1):Go P K Q p s n F H:=by
 subst h1 h2;rw[Hp.ap_eq]at E;subst E;have G:(H.app<|.set id<|.mp kt et ks vs).get=H.get:=by
  rw[Hp.get_app<|by exact⟨by rw[ho];simp,by rw[ho];simp⟩];exact Ay ho
 intro S w ρ a hr hi J;exact k S w ρ a (by rw[id_eq,G];exact hr) (by rw[id_eq,G];exact hi) J
section
variable{t e u ty:TypeId}{x:Operand}
end
end
variable{bs:YN}
variable{y:Operand}
section
variable{P:Program}{S:Nat->Prop}{w w':World}{ρ ρ':Nat->Option Value}{h h':Nat->Ob}{a:Act}{n:Nat}{ty:TypeId}{kt et e:TypeId}{ms:List (List V×List V)}{id nid:Nat}
theorem wa(hr:HRel S w ρ h)(ho:h id=.mps e kt et ms):∃v bs,ρ id=some (.tuple (v::mpV bs).toArray)∧w.ownsRow 0 e 1 v ms.length (mpV bs)∧bs.Nodup∧(∀b∈bs,v.ownBlock≠some b)∧KW S w bs ms:=by have :=hr.ob id;rw[ho]at this;exact this
theorem vy{k:MK}{z y:Value}(hx:Opd S w ρ a x<|.mm id k)(hz:ρ id=some z)(hy:mmV (some z) k=some y):aE (fA a) x=some y:=by obtain⟨u,h1,h2⟩:=hx;simp only[VRel]at h2;rw[hz,hy]at h2;rw[h1];exact h2.1.symm
theorem sO{xs:List Value}:mmV (some<|.tuple (v::xs).toArray) .row=some v:=by simp[mmV]
theorem Kt{g c:Nat}{xs:List Value}:mmV (some<|.tuple (Value.slice (some ⟨g,0,none⟩) m c::xs).toArray) (.ix i)=some (.pointer<|some ⟨g,i,none⟩):=by simp[mmV]
theorem AS{b:Nat}(hb:bs[i]?=some b):mmV (some<|.tuple (v::mpV bs).toArray) (.mp i)=some (.map<|some b):=by simp[mmV,mpV,hb]
theorem p_idxM{E:TypeId}(hr:HRel S w ρ h)(ho:h id=.mps e kt et ms)(fr:Fr a n<|fA a)(ht:P.underlying t=some (.slice E))(hz:dm P E=some 1)(hx:Opd S w ρ a x<|.mm id .row)(hy:Opd S w ρ a y<|.int .i64 (i:Int))(hi:i<ms.length):
  Yld P S w ρ a ty (.indexAddr t x y) (.mm id<|.ix i):=by
 obtain⟨v,bs,h1,h2,_,_,G,_⟩:=wa hr ho;obtain⟨g,cap,rfl,_⟩:=h2.form (by omega);exact⟨_,by simp only[VRel];exact⟨by rw[h1];exact Kt,rfl⟩,λw' _=>rj fr ht hz (vy hx h1 sO) (aV hy) rfl hi<|by simp⟩
theorem Ez(hr:HRel S w ρ h)(fr:Fr a n<|fA a)(hx:Opd S w ρ a x<|.mm id<|.ix i)(ho:h id=.mps e kt et ms)(ht:cU P t=true)(hi:i<ms.length):
  ∃E u b,VRel S w ρ (.mm id<|.mp i) E∧ρ id=some u∧tp u=some b∧∀w',w'.heap[b]?=w.heap[b]?->Runs P a ty (.load t x) w' (.value E) w':=by
 obtain⟨v,bs,h1,h2,_,_,O,_⟩:=wa hr ho;obtain⟨g,cap,rfl,_⟩:=h2.form (by omega);have hb:=List.getElem?_eq_getElem (l:=bs) (i:=i) (by omega);refine⟨.map<|some bs[i],_,g,by simp only[VRel];exact⟨by rw[h1];exact AS hb,rfl⟩,h1,by simp[tp],λw' G=>?_⟩;have J:w.cell? ⟨g,i,none⟩=some (.map<|some bs[i]):=by rw[ij h2<|by omega];simp[mpV,hb]
 exact ex_load fr (vy hx h1 Kt) ht (by rw[World.cell?_of_block (a:=⟨g,i,none⟩) G];exact J)
theorem e_loadM(hr:HRel S w ρ h)(fr:Fr a n<|fA a)(hx:Opd S w ρ a x<|.mm id<|.ix i)(ho:h id=.mps e kt et ms)(ht:cU P t=true)(hi:i<ms.length):Does P S w ρ h a ty (.load t x) (some<|.mm id<|.mp i) h (λ_=>False):=by obtain⟨E,u,b,h1,_,_,G⟩:=Ez (P:=P) (ty:=ty) hr fr hx ho ht hi;exact⟨_,w,ρ,G w I,Eff.refl hr,E,I,h1⟩
theorem Lo(hr:HRel S w ρ h)(ho:h id=.mps e kt et ms)(E:ms[i]?=some (ks,vs)):∃v bs b es clock,ρ id=some (.tuple (v::mpV bs).toArray)∧bs[i]?=some b∧bs.Nodup∧bs.length=ms.length∧v.ownBlock≠some b∧mmV (ρ id) (.mp i)=some (.map<|some b)∧w.heap[b]?=some (.map es clock)∧LRel S w ρ0 ks (es.toList.map (·.key))∧LRel S w ρ0 vs (es.toList.map (·.val)):=by
 obtain⟨v,bs,h1,h2,G,J,O,U⟩:=wa hr ho;have hi:=(List.getElem?_eq_some_iff.1 E).1;have hb:=List.getElem?_eq_getElem (l:=bs) (i:=i) (by omega);obtain⟨es,ck,g1,g2,Z⟩:=U i _ _ hb E;exact⟨v,bs,_,es,ck,h1,hb,G,O,J _<|List.mem_of_getElem? hb,by rw[h1];exact AS hb,g1,g2,Z⟩
variable{α β:Type}[DecidableEq α]{enc:α->V}
def bz(enc:α->V)(encV:β->V)(l:List<|α×β):List V×List V:=(l.map λp=>enc p.1,l.map λp=>encV p.2)
omit [DecidableEq α]in
theorem xx{encV:β->V}{L:List<|List<|α×β}{l:List<|α×β}(h:L[i]?=some l):(L.map<|bz enc encV)[i]?=some (l.map λp=>enc p.1,l.map λp=>encV p.2):=by rw[List.getElem?_map,h];rfl
theorem GX(D:KeyT P kt α enc){encV:β->V}{k:α}{L:List<|List<|α×β}{l:List<|α×β}{c:Bool}{zv:V}{z:Value}(hr:HRel S w ρ h)(fr:Fr a n<|fA a)(hx:Opd S w ρ a x<|.mm id<|.mp i)(hy:Opd S w ρ a y<|enc k)(ho:h id=.mps e kt et (L.map<|bz enc encV))(Z:L[i]?=some l)(ht:P.underlying t=some (.map kt et))(hz:(zeroValue et).run P w=.ok z w)(G:VRel S w ρ zv z):
  Does P S w ρ h a ty (.lookup t x y c) (some<|IR c (dU k l) encV zv) h (λ_=>False):=by
 obtain⟨q,k3,U⟩:=hy;obtain⟨v0,bs,b,es,ck,h1,O,_,_,_,hmm,h2,h3,h4⟩:=Lo hr ho<|xx Z;have k1:aE (fA a) x=some (.map<|some b):=vy hx h1<|AS O;rw[D.rel]at U;subst U;have J:=Ae D h3;have E:=D.fnd w k β l es.toList J;have key:∀v,(Instr.lookup t (.map<|some b) (D.val k) c).run P w=.ok v w->Runs P a ty (.lookup t x y c) w (.value v) w:=λv hv _ _ _ _=>by simp only[execOp,fr.eval k1,fr.eval k3];simp[hv]
 rcases yT D.val k l es.toList 0 J with⟨g1,g2,_⟩|⟨j,e,d,g1,g2,g3,g4,g5,_⟩
 ·rw[g1]at E;refine⟨_,w,ρ,key (if c then .tuple #[z,.bool false]else z) ?_,Eff.refl hr,_,I,?_⟩
  ·simp[Instr.lookup,run_underlying ht,MapKept.run_getObj_map h2,D.chk,E,hz,Result.andThen]
  ·rw[g2];cases c with
   |true=>simp only[IR,if_true,VRel];exact⟨[z,.bool false],rfl,z,_,rfl,G,_,_,rfl,rfl,rfl⟩
   |false=>exact G
 ·rw[g1]at E;have hv:VRel S w ρ (encV d) e.val:=(DZ (f:=λp:α×β=>encV p.2) h4 (by rw[List.getElem?_map,g2];rfl) g4).up up0;refine⟨_,w,ρ,key (if c then .tuple #[e.val,.bool true]else e.val) ?_,Eff.refl hr,_,I,?_⟩
  ·simp[Instr.lookup,run_underlying ht,MapKept.run_getObj_map h2,D.chk,E,Result.andThen]
  ·rw[g5];cases c with
   |true=>simp only[IR,if_true,VRel];exact⟨[e.val,.bool true],rfl,e.val,_,rfl,hv,_,_,rfl,rfl,rfl⟩
   |false=>exact hv
theorem Gz{b:Nat}{v0:Value}{o:Obj}{es:Array MapEntry}{ck:Nat}{ks' vs':List V}(hr:HRel S w ρ h)(ho:h id=.mps e kt et ms)(h1:ρ id=some (.tuple (v0::mpV bs).toArray))(J:bs[i]?=some b)(hm:ms[i]?=some (ks,vs))
  (h3:LRel S {w with heap:=w.heap.setIfInBounds b<|.map es ck} ρ0 ks' (es.toList.map (·.key))) (h4:LRel S {w with heap:=w.heap.setIfInBounds b<|.map es ck} ρ0 vs' (es.toList.map (·.val))):
  Eff S w {w with heap:=w.heap.setIfInBounds b<|.map es ck} ρ ρ h (bE h id<|.mps e kt et<|ms.set i (ks',vs')) (·=id):=by
 obtain⟨v1,bs1,g1,g2,g3,g4,g5,g6⟩:=wa hr ho;rw[h1]at g1;have e1:v0=v1∧bs=bs1:=by
  simp only[aab,Value.tuple.injEq,Array.mk.injEq,List.cons.injEq,mpV]at g1;exact⟨g1.1,by
   have :=congrArg (List.map λx:Value=>match x with|.map (some b)=>b|_=>0) g1.2;simpa[Function.comp_def]using this⟩
 obtain⟨rfl,rfl⟩:=e1;have G:own ρ id (h id) b:=by rw[ho];exact⟨_,h1,.inr ⟨i,by simp[mpV,J]⟩⟩
 have hlt:=dd (hr.ob id) G;have hX:∀c,c∈[b]->own ρ id (h id) c:=λc O=>by simp only[List.mem_singleton]at O;subst O;exact G
 have O:Chg [b] w {w with heap:=w.heap.setIfInBounds b (.map es ck)}:=⟨rfl,rfl,rfl,by simp,λc O E=>by simp only[List.mem_singleton]at E;simp only[Array.getElem?_setIfInBounds];rw[if_neg (λe=>E e.symm)]⟩
 have hob:({w with heap:=w.heap.setIfInBounds b<|.map es ck}:World).heap[b]?=some (.map es ck):=by simp[Array.getElem?_setIfInBounds,hlt]
 have hne:∀c,c<w.heap.size->c≠b->({w with heap:=w.heap.setIfInBounds b<|.map es ck}:World).heap[c]?=w.heap[c]?:=λc hcl E=>O.block c hcl (by simpa using E);have up:Up S S w {w with heap:=w.heap.setIfInBounds b<|.map es ck} ρ0 ρ0:=⟨λ_ h=>h,λc U hcl=>O.block c hcl (λE=>by simp only[List.mem_singleton]at E;subst E;exact hr.sep id c G U),λ_ _ h=>h⟩;refine BN hr O hX ⟨v0,bs,h1,?_,g3,g4,by rw[aay];exact g5,λj b' m' hj Z=>?_⟩ (λc O=>by rw[ho];exact O)
 ·rw[aay];exact cR g2 λc U=>hne c (g2.lt c U).2 (λe=>g4 b (List.mem_of_getElem? J)<|by rw[U,e])
 ·by_cases hij:i=j
  ·subst hij;rw[J]at hj;cases hj;have hil:=(List.getElem?_eq_some_iff.1 hm).1;rw[List.getElem?_set_self hil]at Z;cases Z;exact⟨es,ck,hob,h3,h4⟩
  ·rw[List.getElem?_set_ne hij]at Z;obtain⟨es',ck',q1,q2,q3⟩:=g6 j b' m' hj Z;have hbb:b'≠b:=λe=>by
    subst e;have hj1:=(List.getElem?_eq_some_iff.1 J);have hj2:=(List.getElem?_eq_some_iff.1 hj);have he:bs[i]'hj1.1=bs[j]'hj2.1:=hj1.2.trans hj2.2.symm;rcases Nat.lt_trichotomy i j with q|q|q
    ·exact List.pairwise_iff_getElem.1 g3 i j hj1.1 hj2.1 q he
    ·exact hij q
    ·exact List.pairwise_iff_getElem.1 g3 j i hj2.1 hj1.1 q he.symm
   have hbl:b'<w.heap.size:=by
    rcases Nat.lt_or_ge b' w.heap.size with h5|h5
    ·exact h5
    ·rw[Array.getElem?_eq_none h5]at q1;cases q1
   exact⟨es',ck',(hne b' hbl hbb).trans q1,LRel.up up q2,LRel.up up q3⟩
theorem QA(D:KeyT P kt α enc){encV:β->V}{z:Operand}{k:α}{d:β}{L:List<|List<|α×β}{l:List<|α×β}(hr:HRel S w ρ h)(fr:Fr a n<|fA a)(hx:Opd S w ρ a x<|.mm id<|.mp i)(hy:Opd S w ρ a y<|enc k)(hz:Opd S w ρ a z<|encV d)(hp:(encV d).pure=true)(ho:h id=.mps e kt et (L.map<|bz enc encV))(hl:L[i]?=some l)(ht:P.underlying t=some (.map kt et)):
  Does P S w ρ h a ty (.mapUpdate t x y z) none (bE h id<|.mps e kt et<|(L.set i<|eC k d l).map<|bz enc encV) (·=id):=by
 obtain⟨q,k3,k4⟩:=hy;obtain⟨v,k5,k6⟩:=hz;obtain⟨v0,bs,b,es,ck,h1,G,_,_,_,hmm,h2,h3,h4⟩:=Lo hr ho<|xx hl;have k1:aE (fA a) x=some (.map<|some b):=vy hx h1<|AS G;rw[D.rel]at k4;subst k4;have Z:=Ae D h3;have J:=D.fnd w k β l es.toList Z;have O:own ρ id (h id) b:=by rw[ho];exact⟨_,h1,.inr ⟨i,by simp[mpV,G]⟩⟩
 have hlt:=dd (hr.ob id) O;have key:∀w',(Instr.mapUpdate t (.map<|some b) (D.val k) v).run P w=.ok () w'->Runs P a ty (.mapUpdate t x y z) w .skip w':=λw' hv _ _ _ _=>by simp only[execOp,fr.eval k1,fr.eval k3,fr.eval k5];simp[hv]
 have hc:∀o,Chg [b] w {w with heap:=w.heap.setIfInBounds b o}:=λo=>⟨rfl,rfl,rfl,by simp,λc hc E=>by simp only[List.mem_singleton]at E;simp only[Array.getElem?_setIfInBounds];rw[if_neg (λe=>E e.symm)]⟩
 have up:∀o,Up S S w {w with heap:=w.heap.setIfInBounds b o} ρ0 ρ0:=λo=>⟨λ_ h=>h,λc hc' hcl=>(hc o).block c hcl (λE=>by simp only[List.mem_singleton]at E;subst E;exact hr.sep id c O hc'),λ_ _ h=>h⟩;have hv0:VRel S w ρ0 (encV d) v:=k6.pure hp;have hset:(L.set i<|eC k d l).map (bz enc encV)=(L.map<|bz enc encV).set i ((eC k d l).map λp=>enc p.1,(eC k d l).map λp=>encV p.2):=by rw[List.map_set];rfl
 rw[hset];rcases yT D.val k l es.toList 0 Z with⟨g1,_,g3⟩|⟨j,U,d',g1,g2,g3,g4,_,g6⟩
 ·rw[g1]at J;refine⟨_,_,ρ,key {w with heap:=w.heap.setIfInBounds b<|.map (es.push ⟨D.val k,v,ck⟩)<|ck+1} ?_,Gz (o:=.map es ck) hr ho h1 G (xx hl) ?_ ?_,I⟩
  ·simp[Instr.mapUpdate,run_underlying ht,MapKept.run_getObj_map h2,D.chk,J,MapKept.run_setObj_map _ h2,Result.andThen]
  ·rw[g3];simp only[aao,aah,aav,Array.toList_push];exact(LRel.up (up _) h3).append ⟨_,_,I,(D.rel _ _ _ _ _).2 I,I⟩
  ·rw[g3];simp only[aao,aah,aav,Array.toList_push];exact(LRel.up (up _) h4).append ⟨_,_,I,VRel.up (up _) hv0,I⟩
 ·rw[g1,Nat.zero_add]at J;have hj:es[j]?=some U:=by simpa using g2
  have hlist:(es.modify j (λU=>{U with key:=D.val k,val:=v})).toList=es.toList.set j {U with key:=D.val k,val:=v}:=by rw[Array.toList_modify,ChangeMaps.modify_eq_set _ _ _ _ g2]
  refine⟨_,_,ρ,key {w with heap:=w.heap.setIfInBounds b (.map (es.modify j (λU=>{U with key:=D.val k,val:=v})) ck)} ?_,Gz (o:=.map es ck) hr ho h1 G (xx hl) ?_ ?_,I⟩
  ·simp[Instr.mapUpdate,run_underlying ht,MapKept.run_getObj_map h2,D.chk,J,hj,g3,D.stay,MapKept.run_setObj_map _ h2,Result.andThen]
  ·rw[g6,hlist];simp only[List.map_set];exact(LRel.up (up _) h3).set<|(D.rel _ _ _ _ _).2 I
  ·rw[g6,hlist];simp only[List.map_set];exact(LRel.up (up _) h4).set<|VRel.up (up _) hv0
end
section
variable{P:Program}{S:Nat->Prop}{w w':World}{ρ ρ':Nat->Option Value}{h h':Nat->Ob}{a:Act}{n:Nat}{ty:TypeId}{kt et e:TypeId}{ms:List (List V×List V)}{id nid:Nat}
theorem vp{ρ:Nat->Option Value}{b:Nat}(hρ:ρ id=some (.tuple (v::mpV bs).toArray)):own ρ id (.mps e kt et ms) b↔v.ownBlock=some b∨b∈bs:=by
 simp only[own];constructor
 ·rintro⟨xs,h1,h2⟩;rw[hρ]at h1;simp only[aab,Value.tuple.injEq]at h1;subst h1;rcases h2 with⟨u,E,G⟩|⟨i,E⟩
  ·simp only[List.getElem?_toArray,List.getElem?_cons_zero,aab]at E;subst E;exact .inl G
  ·simp only[List.getElem?_toArray,List.getElem?_cons_succ,mpV,List.getElem?_map,Option.map_eq_some_iff,Value.map.injEq,aab]at E;obtain⟨c,J,rfl⟩:=E;exact .inr<|List.mem_of_getElem? J
 ·rintro(h1|h1)
  ·exact⟨_,hρ,.inl ⟨v,by simp,h1⟩⟩
  ·obtain⟨i,hi,rfl⟩:=aaA h1;exact⟨_,hρ,.inr ⟨i,by simp[mpV,hi]⟩⟩
theorem e_bsM{mid:Nat}{z:List Value}(hr:HRel S w ρ h)(fr:Fr a n<|fA a)(hf:h nid=.free)(hx:Opd S w ρ a x<|.sl mid)(ho:h mid=.mp kt et ks vs)(ht:P.underlying t=some (.slice e))(hz:dm P e=some 1)(hzero:nb P e=some z):
  Does P S w ρ h a ty (.buildSlice t 1 #[(0,x)]) (some<|.mm nid .row) (bE (bE h mid .gone) nid<|.mps e kt et [(ks,vs)]) (·=mid):=by
 obtain⟨u,k1,U⟩:=hx;simp only[VRel]at U;obtain⟨b,es,ck,h1,h2,h3,h4⟩:=Ri hr ho;rw[U.1]at h1;cases h1;have G:own ρ mid (h mid) b:=by rw[ho];exact U.1
 have Z:=dd (hr.ob mid) G;obtain⟨w',g,g1,g2,g3,g4,g5⟩:=sb (P:=P) (t:=t) (m:=1) (ps:=[(0,x)]) (vs:=[(0,.map<|some b)]) (sz:=1) fr (by simp[eL,k1]) ht hz hzero (by rfl) (by rfl) (by rfl) rfl w ty;have E:∀c,c<w.heap.size->w'.heap[c]?=w.heap[c]?:=λc E=>g3.block c E nm0;have up:Up S S w w' ρ0 ρ0:=⟨λ_ h=>h,λc _ hcl=>E c hcl,λ_ _ h=>h⟩;have hρ':cz ρ nid (.tuple (Value.slice (some ⟨g,0,none⟩) 1 1::mpV [b]).toArray) nid=some (.tuple (Value.slice (some ⟨g,0,none⟩) 1 1::mpV [b]).toArray):=aU _ _ _;refine⟨_,w',cz ρ nid<|.tuple (Value.slice (some ⟨g,0,none⟩) 1 1::mpV [b]).toArray,g1,Ao (X:=[]) hr hf (by rw[ho];simp) g3 (by simp) ⟨_,[b],hρ',xf (base:=0) g2 (aar _) (m:=1) (size:=1) rfl (by decide),by simp,λc E=>?_,rfl,λi c m hi J=>?_⟩ λc E=>?_,_,rfl,?_⟩
 ·simp only[List.mem_singleton]at E;subst E;simp only[Value.ownBlock,ne_eq,aab];omega
 ·match i,hi,J with
  |0,hi,J=>
   simp only[List.getElem?_cons_zero,aab]at hi J;subst hi J;exact⟨es,ck,(E _ Z).trans h2,LRel.up up h3,LRel.up up h4⟩
  |i+1,hi,J=>simp at hi
 ·rcases(vp hρ').1 E with O|O
  ·simp only[Value.ownBlock,aab]at O;exact .inr (by omega)
  ·simp only[List.mem_singleton]at O;subst O;exact .inl G
 ·simp only[VRel];exact⟨by rw[hρ'];exact sO,I⟩
theorem Az{ρ:Nat->Option Value}:∀{xs:List Value},(∀x∈xs,x.oneCell'=true)->CRel S w ρ 1 (xs.map V.raw) xs
 |[],_=>by simp[CRel]
 |x::r,hx=>by
  have h1:=hx x (by simp);simp only[aah,CRel,VRel];refine⟨x,r,by rw[pg h1];rfl,⟨by rw[pg h1];rfl,by rw[pg h1];simp[h1]⟩,⟨rfl,h1⟩,Az λy hy=>hx y<|by simp[hy]⟩
theorem AQ{ρ:Nat->Option Value}:∀{xs ys:List Value},CRel S w ρ 1 (xs.map V.raw) ys->ys=xs
 |[],ys,h=>by simpa[CRel]using h
 |x::r,ys,h=>by simp only[aah,CRel,VRel]at h;obtain⟨y,zs,rfl,_,⟨rfl,h1⟩,h2⟩:=h;rw[AQ h2,pg h1];rfl
theorem Gy(bs:YN):∀x∈mpV bs,x.oneCell'=true:=λx hx=>by simp only[mpV,List.mem_map]at hx;obtain⟨_,_,rfl⟩:=hx;rfl
theorem vh(bs:YN):(mpV bs).length=bs.length:=by simp[mpV]
theorem NQ{y:Value}(h2:w.ownsRow 0 e 1 v m<|mpV bs)(G:bs.length=m):tv S w ρ 1 ((mpV bs).map V.raw) v:=by
 obtain⟨A,c,rfl,_⟩:=cq h2;refine⟨A,c,mpV bs,by simp[vh,G],Az<|Gy bs,λhn=>?_⟩;simp only[aan,vh]at hn;obtain⟨g,cap,hv,_⟩:=h2.form (by omega);injection hv with E _ J
 subst E;exact⟨g,0,rfl,λj O=>by rw[Nat.zero_add];simp only[aan,vh]at O;exact ij h2<|by omega⟩
theorem Rf{t:TypeId}{E by_:Nat}{z:Value}{O:List<|List V×List V}(hr:HRel S w ρ h)(fr:Fr a n<|fA a)(hf:h nid=.free)(hx:Opd S w ρ a x<|.mm id .row)(hy:Opd S w ρ a y<|.mm E .row)(ho:h id=.mps e kt et ms)(Z:h E=.mps e kt et O)(hne:id≠E)
  (ht:P.underlying t=some (.slice e)) (hi:(P.info? e).map (λi=>(i.zero,i.size,i.bytes))=some (some z,1,by_)) (hzs:z.cells.size=1) (h63:ms.length+O.length<=maxLen) (hby:(ms.length+O.length)*by_<=140737488355328):
  Does P S w ρ h a ty (.call {callee:=.builtin .append,args:=#[x,y],argTypes:=#[t,t]}) (some<|.mm nid .row) (bE (bE (bE h id .gone) E .gone) nid<|.mps e kt et<|ms++O) (λi=>i=id∨i=E):=by
 obtain⟨v1,G,a1,a2,a3,a4,a5,a6⟩:=wa hr ho;obtain⟨v2,J,b1,b2,b3,b4,b5,b6⟩:=wa hr Z;have k1:=vy hx a1 sO;have k2:=vy hy b1 sO;have l1:((mpV G).map V.raw).length=ms.length:=by simp[vh,a5]
 have l2:((mpV J).map V.raw).length=O.length:=by simp[vh,b5]
 obtain⟨v',w',ys,c1,c2,c3,c4,U⟩:=wF (P:=P) (ty:=ty) (S:=S) (ρ:=ρ) (els:=(mpV G).map V.raw) (news:=(mpV J).map V.raw) fr k1 k2 (by rw[l1];exact a2) (Az<|Gy G) (NQ (y:=v2) b2 b5) ht hi hzs (Nat.one_pos) (by rw[l1,l2];exact h63) (by rw[l1,l2];exact hby);rw[l1,l2]at c2;rw[<-aao]at c3;have hy':=AQ c3;have hmp:mpV G++mpV J=mpV (G++J):=by simp[mpV]
 rw[hmp]at hy';subst hy';have o1:∀b,own ρ id (h id) b↔v1.ownBlock=some b∨b∈G:=λb=>by rw[ho];exact vp a1
 have o2:∀b,own ρ E (h E) b↔v2.ownBlock=some b∨b∈J:=λb=>by rw[Z];exact vp b1
 have hn:ρ nid=none:=by have :=hr.ob nid;rw[hf]at this;exact this
 have hnid:id≠nid:=λe=>by subst e;rw[hf]at ho;cases ho
 have hnid2:E≠nid:=λe=>by subst e;rw[hf]at Z;cases Z
 have lt1:∀b∈G,b<w.heap.size:=λb hb=>dd (hr.ob id)<|(o1 b).2 (.inr hb);have lt2:∀b∈J,b<w.heap.size:=λb hb=>dd (hr.ob E)<|(o2 b).2 (.inr hb);have dj:∀b,own ρ id (h id) b->own ρ E (h E) b->False:=λb q1 q2=>hne<|hr.dis id E b q1 q2;have kp1:∀b∈G,w'.heap[b]?=w.heap[b]?:=λb hb=>c4.block b (lt1 b hb) (λhc=>a4 b hb<|by simpa using hc);have kp2:∀b∈J,w'.heap[b]?=w.heap[b]?:=λb hb=>c4.block b (lt2 b hb) (λhc=>dj b ((o1 b).2 (.inl<|by simpa using hc))<|(o2 b).2 (.inr hb));have hX:∀b,b∈v1.ownBlock.toList->own ρ id (h id) b:=λb hb=>(o1 b).2 (.inl<|by simpa using hb);have up:Up S S w w' ρ0 ρ0:=⟨λ_ h=>h,λb hb hlt=>c4.block b hlt λhc=>hr.sep id b (hX b hc) hb,λ_ _ h=>h⟩;have hv':∀b∈G++J,v'.ownBlock≠some b:=λb hb e=>by
  rcases U with U|U
  ·rw[U]at e;rcases List.mem_append.1 hb with hb|hb
   ·exact a4 b hb e
   ·exact dj b ((o1 b).2 (.inl e))<|(o2 b).2 (.inr hb)
  ·rw[U]at e;simp only[aab]at e;rcases List.mem_append.1 hb with hb|hb
   ·have :=lt1 b hb;omega
   ·have :=lt2 b hb;omega
 have hρ':cz ρ nid (.tuple (v'::mpV (G++J)).toArray) nid=some (.tuple (v'::mpV (G++J)).toArray):=aU _ _ _;refine⟨_,w',cz ρ nid<|.tuple (v'::mpV (G++J)).toArray,c1,Pa (X:=(·∈v1.ownBlock.toList)) nid (λs=>s=id∨s=E) hr (ChgP.of c4) (λi q hq=>?_) (λb hb=>⟨id,.inl I,hX b hb⟩) ?_ (λb hb=>?_) (λs hs hsn=>?_) λi hin=>?_,_,I,?_⟩
 ·have :i≠nid:=λe=>by subst e;rw[hn]at hq;cases hq
  rw[nc _ _ this];exact hq
 ·rw[aY];refine⟨v',G++J,hρ',by rw[aac];exact c2,?_,hv',by simp[a5,b5],λi b m hb hm=>?_⟩
  ·exact List.nodup_append.2 ⟨a3,b3,λb hb c hc e=>by subst e;exact dj b ((o1 b).2 (.inr hb))<|(o2 b).2 (.inr hc)⟩
  ·by_cases hil:i<G.length
   ·rw[List.getElem?_append_left hil]at hb;rw[List.getElem?_append_left<|by omega]at hm;obtain⟨es,ck,q1,q2,q3⟩:=a6 i b m hb hm;exact⟨es,ck,(kp1 b<|List.mem_of_getElem? hb).trans q1,LRel.up up q2,LRel.up up q3⟩
   ·rw[List.getElem?_append_right<|by omega]at hb;rw[List.getElem?_append_right (by omega),<-a5]at hm;obtain⟨es,ck,q1,q2,q3⟩:=b6 _ b m hb hm;exact⟨es,ck,(kp2 b<|List.mem_of_getElem? hb).trans q1,LRel.up up q2,LRel.up up q3⟩
 ·rw[aY]at hb;rcases(vp hρ').1 hb with q|q
  ·rcases U with U|U
   ·exact .inr ⟨id,.inl I,(o1 b).2 (.inl (by rw[<-U];exact q))⟩
   ·rw[U]at q;simp only[aab]at q;exact .inl (by omega)
  ·rcases List.mem_append.1 q with q|q
   ·exact .inr ⟨id,.inl I,(o1 b).2 (.inr q)⟩
   ·exact .inr ⟨E,.inr I,(o2 b).2 (.inr q)⟩
 ·rw[bo _ _ hsn];rcases hs with rfl|rfl
  ·rw[bo _ _ hne,aY]
  ·rw[aY]
 ·rw[bo _ _ hin];by_cases h1:i=E
  ·subst h1;rw[aY];exact .inl rfl
  ·rw[bo _ _ h1];by_cases h2:i=id
   ·subst h2;rw[aY];exact .inl rfl
   ·rw[bo _ _ h2];refine .inr ⟨I,λhfi=>?_,λb hob hx=>h2<|hr.dis i id b hob<|hX b hx⟩;rw[nc _ _ hin];have :=hr.ob i;rw[hfi]at this;exact this
 ·simp only[VRel];exact⟨by rw[hρ'];exact sO,vu c2⟩
theorem Ng(e kt et:TypeId)(hr:HRel S w ρ h)(hf:h nid=.free):Eff S w w ρ (cz ρ nid<|.tuple (Value.slice none 0 0::mpV []).toArray) h (bE h nid<|.mps e kt et []) (λ_=>False):=
 eff_new hr hf (Chg.refl _ _) ⟨_,[],aU _ _ _,⟨by simp[mpV],.inl ⟨rfl,rfl⟩⟩,by simp,by simp,rfl,λi b m hb=>by simp at hb⟩ (λb hb=>by
  rcases(vp (aU _ _ _)).1 hb with q|q
  ·cases q
  ·cases q)
end
section
variable{P:Program}{T:Tab}{K:Ctx}{Q:Exit->Act->World->Prop}{p:EP}{s:List EI}{n:Nat}{F F1:Fm}{H H1:Hp}{kt et e:TypeId}{ms:List (List V×List V)}{α β:Type}[DecidableEq α]{enc:α->V}
theorem St{cs:List V}(id o:Nat)(e kt et:TypeId)(hp:p.still=true)(ho:H.get id=.var t cs)(hc:cs[o]?=some .nils)(h2:(H.ap (.new<|.mps e kt et []) λH1=>H1.ap (.set id<|.var t<|cs.set o<|.mm H.nx .row) _root_.id)=H1)(k:Go P K Q p s n F H1):Go P K Q p s n F H:=by
 rw[Hp.ap_eq,Hp.ap_eq]at h2;subst h2;intro S w ρ a hr hi hF;have U:=Ng e kt et hr H.get_free;obtain⟨R,hR⟩:∃R,R=Value.tuple (Value.slice none 0 0::mpV []).toArray:=⟨_,rfl⟩;rw[<-hR]at U;have Z:(H.app<|.new<|.mps e kt et []).get=bE H.get H.nx (.mps e kt et []):=Hp.get_app trivial;have hne:id≠H.nx:=λe1=>by subst e1;rw[H.get_free]at ho;cases ho
 have E:(H.app<|.new<|.mps e kt et []).get id=.var t cs:=by rw[Z,bo _ _ hne,ho]
 have J:((H.app<|.new<|.mps e kt et []).app<|.set id<|.var t<|cs.set o<|.mm H.nx .row).get=bE (H.app<|.new<|.mps e kt et []).get id (.var t<|cs.set o<|.mm H.nx .row):=Hp.get_app (by exact⟨by rw[E];simp,by rw[E];simp⟩);have h1:HRel S w (cz ρ H.nx R) (H.app<|.new<|.mps e kt et []).get:=by rw[Z];exact U.hr
 have h2:Inv K S w (cz ρ H.nx R) (H.app<|.new<|.mps e kt et []).get:=by rw[Z];exact hi.eff U
 have G:∀i b,own (cz ρ H.nx R) i (bE (H.app<|.new<|.mps e kt et []).get id (.var t<|cs.set o<|.mm H.nx .row) i) b↔own (cz ρ H.nx R) i ((H.app<|.new<|.mps e kt et []).get i) b:=λi b=>by
  by_cases hi:i=id
  ·subst hi;rw[aY,E];rfl
  ·rw[bo _ _ hi]
 have :=k S w (cz ρ H.nx R) a (by
  rw[id_eq,J];refine⟨λi=>?_,λi b hb=>h1.sep i b<|(G i b).1 hb,λi j b q1 q2=>h1.dis i j b ((G i b).1 q1)<|(G j b).1 q2,h1.slt⟩;by_cases O:i=id
  ·subst O;rw[aY];obtain⟨b,xs,q1,q2,q3⟩:=sm h1 E;obtain⟨x,q4,q5⟩:=q3.get hc;simp only[VRel]at q5;subst q5;refine⟨b,xs,q1,q2,?_⟩;have :=q3.set (i:=o) (v:=.mm H.nx .row) (x:=.slice none 0 0) (by simp only[VRel];exact⟨by rw[aU,hR];exact sO,rfl⟩);have e2:xs.set o (.slice none 0 0)=xs:=by
    obtain⟨hl,q6⟩:=List.getElem?_eq_some_iff.1 q4;rw[<-q6];exact List.set_getElem_self ..
   rw[e2]at this;exact this
  ·rw[bo _ _ O];exact h1.ob i) (by
  rw[id_eq,J];exact⟨h2.chg,h2.s0,h2.s1,λi b hb=>h2.ow i b ((G i b).1 hb),h2.pin⟩) (hF.up U.up)
 cases p with
 |drw all L m left listed=>cases hp
 |code c=>exact this
 |ops all rest=>exact this
 |ex e=>exact this
theorem Ip{G:TypeId}{id:Nat}(ht:P.underlying t=some (.slice G))(hz:dm P G=some 1)(hx:aJ F x=some (.mm id .row))(hy:aJ F y=some (.int .i64 (i:Int)))(ho:H.get id=.mps e kt et ms)(hi:i<ms.length):∀S w ρ a,HRel S w ρ H.get->FRel S w ρ a n F->Yld P S w ρ a ty (.indexAddr t x y) (.mm id<|.ix i):=λS w ρ a hr E=>
 p_idxM hr ho E.fr ht hz (aq E hx) (aq E hy) hi
theorem Sw{id:Nat}(ht:cU P t=true)(hx:aJ F x=some (.mm id<|.ix i))(ho:H.get id=.mps e kt et ms)(hi:i<ms.length):∀S w ρ a,HRel S w ρ H.get->FRel S w ρ a n F->Does P S w ρ H.get a ty (.load t x) (some<|.mm id<|.mp i) (ED.nop.app H.get H.nx) ED.nop.tch:=λS w ρ a hr E=>
 e_loadM hr E.fr (aq E hx) ho ht hi
theorem Rl(D:KeyT P kt α enc){encV:β->V}{ty:TypeId}{id:Nat}{k:α}{L:List<|List<|α×β}{l:List<|α×β}{c:Bool}{zv v:V}{z:Value}(hq:dU k l=none)(ht:P.underlying t=some (.map kt et))(hz:∀w,(zeroValue et).run P w=.ok z w)(E:zEq z zv=true)(hx:aJ F x=some (.mm id<|.mp i))(hy:aJ F y=some (enc k))(ho:H.get id=.mps e kt et (L.map<|bz enc encV))(J:L[i]?=some l)(hv:(match c with|true=>V.tup [zv,.bool false]|false=>zv)=v):
  ∀S w ρ a,HRel S w ρ H.get->FRel S w ρ a n F->Does P S w ρ H.get a ty (.lookup t x y c) (some v) (ED.nop.app H.get H.nx) ED.nop.tch:=λS w ρ a hr G=>by
 have :=GX (ty:=ty) (c:=c) (zv:=zv) D hr G.fr (aq G hx) (aq G hy) ho J ht (hz w)<|Ee E;rw[hq]at this;subst hv;exact this
theorem Rp(D:KeyT P kt α enc){encV:β->V}{ty:TypeId}{id:Nat}{k:α}{L:List<|List<|α×β}{l:List<|α×β}{c:Bool}{v:V}{z:Value}{d:β}{zv:V}(hq:dU k l=some d)(ht:P.underlying t=some (.map kt et))(hz:∀w,(zeroValue et).run P w=.ok z w)(E:zEq z zv=true)(hx:aJ F x=some (.mm id<|.mp i))(hy:aJ F y=some (enc k))(ho:H.get id=.mps e kt et (L.map<|bz enc encV))(J:L[i]?=some l)(hv:(match c with|true=>V.tup [encV d,.bool true]|false=>encV d)=v):
  ∀S w ρ a,HRel S w ρ H.get->FRel S w ρ a n F->Does P S w ρ H.get a ty (.lookup t x y c) (some v) (ED.nop.app H.get H.nx) ED.nop.tch:=λS w ρ a hr G=>by
 have :=GX (ty:=ty) (c:=c) (zv:=zv) D hr G.fr (aq G hx) (aq G hy) ho J ht (hz w)<|Ee E;rw[hq]at this;subst hv;exact this
theorem Jr(D:KeyT P kt α enc){encV:β->V}{ty:TypeId}{z:Operand}{id:Nat}{k:α}{d:β}{L:List<|List<|α×β}{l:List<|α×β}{v:V}{ms':List<|List V×List V}(ht:P.underlying t=some (.map kt et))(hx:aJ F x=some (.mm id<|.mp i))(hy:aJ F y=some (enc k))(hz:aJ F z=some v)(hv:v=encV d)(hp:v.pure=true)(ho:H.get id=.mps e kt et (L.map<|bz enc encV))(G:L[i]?=some l)(J:(L.set i<|eC k d l).map (bz enc encV)=ms'):
  ∀S w ρ a,HRel S w ρ H.get->FRel S w ρ a n F->Does P S w ρ H.get a ty (.mapUpdate t x y z) none ((ED.set id<|.mps e kt et ms').app H.get H.nx) (ED.set id<|.mps e kt et ms').tch:=λS w ρ a hr E=>by
 subst hv J;exact QA D hr E.fr (aq E hx) (aq E hy) (aq E hz) hp ho G ht
theorem Sl{ty:TypeId}{mid:Nat}{z:List Value}(ht:P.underlying t=some (.slice e))(hz:dm P e=some 1)(hzero:nb P e=some z)(hx:aJ F x=some (.sl mid))(ho:H.get mid=.mp kt et ks vs):
  ∀S w ρ a,HRel S w ρ H.get->FRel S w ρ a n F->Does P S w ρ H.get a ty (.buildSlice t 1 #[(0,x)]) (some<|.mm H.nx .row) ((ED.repl mid<|.mps e kt et [(ks,vs)]).app H.get H.nx) (ED.repl mid<|.mps e kt et [(ks,vs)]).tch:=λS w ρ a hr E=>
 e_bsM hr E.fr H.get_free (aq E hx) ho ht hz hzero
theorem Sz{ty:TypeId}{id E by_:Nat}{z:Value}{G ms':List<|List V×List V}(O:id≠E)(ht:P.underlying t=some (.slice e))(hi:(P.info? e).map (λi=>(i.zero,i.size,i.bytes))=some (some z,1,by_))(hzs:z.cells.size=1)(U:Nat.ble by_ 100000=true)(hx:aJ F x=some (.mm id .row))(hy:aJ F y=some (.mm E .row))(ho:H.get id=.mps e kt et ms)(Z:H.get E=.mps e kt et G)(hm:ms++G=ms')(hb:ms'.length<=1000000000):
  ∀S w ρ a,HRel S w ρ H.get->FRel S w ρ a n F->Does P S w ρ H.get a ty (.call {callee:=.builtin .append,args:=#[x,y],argTypes:=#[t,t]}) (some<|.mm H.nx .row) ((ED.repl2 id E<|.mps e kt et ms').app H.get H.nx) (ED.repl2 id E<|.mps e kt et ms').tch:=λS w ρ a hr hF=>by
 subst hm;rw[aac]at hb;have J:by_<=100000:=Nat.le_of_ble_eq_true U;have hmul:=Nat.mul_le_mul hb J;exact Rf hr hF.fr H.get_free (aq hF hx) (aq hF hy) ho Z O ht hi hzs (by simp only[maxLen];omega) (by omega)
theorem Ml{id:Nat}{o':Ob}(ho:H.get id=.mps e kt et ms):(ED.set id o').ok H.get:=by exact⟨by rw[ho];simp,by rw[ho];simp⟩
theorem Sd{id:Nat}{o':Ob}(ho:H.get id=.mp kt et ks vs):(ED.repl id o').ok H.get:=by exact⟨by rw[ho];simp,by rw[ho];simp⟩
theorem Si{J:List<|List V×List V}{id E:Nat}{o':Ob}(ho:H.get id=.mps e kt et ms)(G:H.get E=.mps e kt et J):(ED.repl2 id E o').ok H.get:=by exact⟨⟨by rw[ho];simp,by rw[ho];simp⟩,by rw[G];simp,by rw[G];simp⟩
theorem Pq(id:Nat)(ms':List<|List V×List V)(ho:H.get id=.mps e kt et ms)(h1:ms=ms')(E:H.ap (.set id<|.mps e kt et ms') _root_.id=H1)(k:Go P K Q p s n F H1):Go P K Q p s n F H:=by
 subst h1;rw[Hp.ap_eq]at E;subst E;have G:(H.app<|.set id<|.mps e kt et ms).get=H.get:=by
  rw[Hp.get_app<|by exact⟨by rw[ho];simp,by rw[ho];simp⟩];exact Ay ho
 intro S w ρ a hr hi J;exact k S w ρ a (by rw[id_eq,G];exact hr) (by rw[id_eq,G];exact hi) J
end
section
variable{P:Program}{T:Tab}{K:Ctx}{Q:Exit->Act->World->Prop}{s:List EI}{n:Nat}{F F1:Fm}{H:Hp}{all:Array Oper}{L:YN}{m fuel:Nat}{listed:Array Bool}{kt et e:TypeId}{ms:List (List V×List V)}
theorem LJ{id j:Nat}{d:Option Tmp}{ps:String}{af:Array Edge}{g:Option<|Nat×Bool}(i:Nat)(hi:all[i]?=some ⟨d,.load t x,ty,ps,af,g⟩)
  (J:(!Nat.beq i m&&zx .any all m i&&!(listed.getD m false)&&Region.free .any all listed i&&(Region.ready .any all listed).contains i&&L.contains id&&Region.noSelect all)=true) (O:bg F all g=some true) (ht:cU P t=true) (hx:aJ F x=some (.mm id<|.ix j)) (ho:H.get id=.mps e kt et ms) (U:j<ms.length)
  (h1:F.puto d (some<|.mm id<|.mp j) _root_.id=F1) (k:Go P K Q (.drw all L m fuel<|listed.setIfInBounds i true) s n F1 H):Go P K Q (.drw all L m (fuel+1) listed) s n F H:=by
 rw[Fm.puto_eq]at h1;subst h1;simp only[aaa,Bool.not_eq_true']at J;obtain⟨⟨⟨⟨⟨⟨Z,c2⟩,c3⟩,c4⟩,c5⟩,c6⟩,c7⟩:=J;intro S w ρ a hr G E hs;obtain⟨x',u,b,h1,h2,h3,h4⟩:=Ez (P:=P) (ty:=ty) hr E.fr (aq E hx) ho ht U;refine FS (Nat.ne_of_beq_eq_false Z) c2 hi (Region.noSelect_spec c7) (λ_ _ _ h=>h.elim) fuel listed a w (Region.free_spec hi c4) (by simpa using c5) (.inl ⟨cu E O,λw' hA=>?_⟩) Agree.refl pu c3<|k S w ρ _ hr G (cX E d h1) hs;have hb:=hA.2 id (by simpa using c6) u b h2 h3;exact h4 w' hb _ _ _ _
end
variable{d:Nat}
variable{a:Int}
variable{b:Bool}
section
variable{P:Program}
def EqV(P:Program)(d:Nat)(t:TypeId)(x y:Value)(r:Bool):Prop:=∀w,(Op.equalIn d t x y).run P w=.ok r w
def FD(P:Program)(d:Nat)(xs ys:Array Value):List Field->List Bool->Prop
 |[],rs=>rs=[]
 |f::fs,rs=>∃r q,rs=r::q∧f.name≠ "_" ∧(∃a b,(∀w,(part f.type xs f.offset).run P w=.ok a w)∧(∀w,(part f.type ys f.offset).run P w=.ok b w)∧EqV P d f.type a b r)∧FD P d xs ys fs q
theorem Hb{d:Nat}{xs ys:Array Value}:∀{fs:List Field} {rs:List Bool},FD P d xs ys fs rs->∀w,(Op.eqFields d xs ys fs).run P w=.ok (rs.all id) w
 |[],rs,h,w=>by simp only[FD]at h;subst h;simp[Op.eqFields]
 |f::fs,rs,h,w=>by simp only[FD]at h;obtain⟨r,q,rfl,hn,⟨a,b,h1,h2,E⟩,G⟩:=h;have ih:=Hb G w;cases r<;>simp[Op.eqFields,hn,h1,h2,E w,ih,Result.andThen]
theorem Cx{fs:Array Field}{xs ys:Array Value}{rs:List Bool}(ht:P.underlying t=some (.struct fs))(hs:P.stoodInHeld t=false)(h:FD P d xs ys fs.toList rs):EqV P (d+1) t (.agg xs) (.agg ys) (rs.all id):=λw=>by
 have hf:P.fieldsOf t=fs:=by simp[Program.fieldsOf,ht]
 rw[run_equalIn_struct w d t xs ys (by rw[ht,hf]) hs,hf];exact Hb h w
theorem gz{xs:Array Value}{o:Nat}(hp:P.plainKey t=true)(h:xs[o]?=some v):∀w,(part t xs o).run P w=.ok v w:=λw=>run_part_plain w hp h
theorem DY{fs:Array Field}{xs:Array Value}{o:Nat}(ht:P.underlying t=some (.struct fs))(hz:dm P t=some m):∀w,(part t xs o).run P w=.ok (.agg<|xs.extract o<|o+m) w:=λw=>by obtain⟨i,hi,hs⟩:=Option.map_eq_some_iff.1 (show(P.info? t).map (·.size)=some m from hz);subst hs;simp[part,isAgg,run_underlying ht,sizeOf,typeInfo,hi]
theorem zr{b:Int}(h:P.underlying t=some (.int .i64)):EqV P (d+1) t (.int .i64 a) (.int .i64 b) (a==b):=λw=>run_equalIn_int w d t _ _ a b h
theorem Lu{a:Bool}(h:P.underlying t=some .bool):EqV P (d+1) t (.bool a) (.bool b) (a==b):=λw=>run_equalIn_bool w d t a b h
theorem OB{a b:YB}(h:P.underlying t=some .string):EqV P (d+1) t (.string ⟨a.toArray⟩) (.string ⟨b.toArray⟩) (a==b):=λw=>by have :=run_equalIn_string w d t ⟨a.toArray⟩ ⟨b.toArray⟩ h;simpa using this
abbrev yM(n:Int)(f:Bool)(t:YB)(r:Int):List Value:=[.int .i64 n,.bool f,.string ⟨t.toArray⟩,.int .i64 r]
abbrev ep(a:Int)(b:Bool)(c:YB)(d:Int)(a':Int)(b':Bool)(c':YB)(d':Int):Bool:=a==a'&&(b==b'&&(c==c'&&d==d'))
section
variable{t:TypeId}{f0 f1 f2 f3:Field}(ht:P.underlying t=some (.struct #[f0,f1,f2,f3]))(hs:P.stoodInHeld t=false) (hn:(f0.name != "_" &&f1.name != "_" &&f2.name != "_" &&f3.name != "_")=true) (ho:f0.offset=0∧f1.offset=1∧f2.offset=2∧f3.offset=3)
  (u0:P.underlying f0.type=some (.int .i64)) (u1:P.underlying f1.type=some .bool) (u2:P.underlying f2.type=some .string) (u3:P.underlying f3.type=some (.int .i64))
include ht hs hn ho u0 u1 u2 u3
theorem vq(a0:Int)(a1:Bool)(E:YB)(G:Int)(J:Int)(O:Bool)(U:YB)(Z:Int):EqV P (d+2) t (.agg (yM a0 a1 E G).toArray) (.agg (yM J O U Z).toArray) (ep a0 a1 E G J O U Z):=by
 simp only[aaa,bne_iff_ne,ne_eq]at hn;obtain⟨⟨⟨n0,n1⟩,n2⟩,n3⟩:=hn;obtain⟨o0,o1,o2,o3⟩:=ho;have p0:P.plainKey f0.type=true:=by simp[Program.plainKey,u0]
 have p1:P.plainKey f1.type=true:=by simp[Program.plainKey,u1]
 have p2:P.plainKey f2.type=true:=by simp[Program.plainKey,u2]
 have p3:P.plainKey f3.type=true:=by simp[Program.plainKey,u3]
 have :=Cx (d:=d+1) (xs:=(yM a0 a1 E G).toArray) (ys:=(yM J O U Z).toArray) (rs:=[a0==J,a1==O,E==U,G==Z]) ht hs ⟨_,_,rfl,n0,⟨_,_,gz p0 (by rw[o0];rfl),gz p0 (by rw[o0];rfl),zr u0⟩,_,_,rfl,n1,⟨_,_,gz p1 (by rw[o1];rfl),gz p1 (by rw[o1];rfl),Lu u1⟩,_,_,rfl,n2,⟨_,_,gz p2 (by rw[o2];rfl),gz p2 (by rw[o2];rfl),OB u2⟩,_,_,rfl,n3,⟨_,_,gz p3 (by rw[o3];rfl),gz p3 (by rw[o3];rfl),zr u3⟩,rfl⟩;simpa[ep]using this
variable{t':TypeId}{g0 g1 g2:Field}(ht':P.underlying t'=some (.struct #[g0,g1,g2]))(hs':P.stoodInHeld t'=false) (hn':(g0.name != "_" &&g1.name != "_" &&g2.name != "_")=true) (ho':g0.offset=0∧g1.offset=1∧g2.offset=2) (v0:P.underlying g0.type=some (.int .i64)) (v1:P.underlying g1.type=some (.int .i64)) (v2:g2.type=t) (hz:dm P t=some 4)
include ht' hs' hn' ho' v0 v1 v2 hz
theorem BZ(i f:Int)(a0:Int)(a1:Bool)(E:YB)(G:Int)(i' f':Int)(J:Int)(O:Bool)(U:YB)(Z:Int):EqV P (d+3) t' (.agg (.int .i64 i::.int .i64 f::yM a0 a1 E G).toArray) (.agg (.int .i64 i'::.int .i64 f'::yM J O U Z).toArray) (i==i'&&(f==f'&&ep a0 a1 E G J O U Z)):=by
 simp only[aaa,bne_iff_ne,ne_eq]at hn';obtain⟨⟨n0,n1⟩,n2⟩:=hn';obtain⟨o0,o1,o2⟩:=ho';have p0:P.plainKey g0.type=true:=by simp[Program.plainKey,v0]
 have p1:P.plainKey g1.type=true:=by simp[Program.plainKey,v1]
 have hv:=vq ht hs hn ho u0 u1 u2 u3 (d:=d) a0 a1 E G J O U Z;have :=Cx (d:=d+2) (xs:=(.int .i64 i::.int .i64 f::yM a0 a1 E G).toArray) (ys:=(.int .i64 i'::.int .i64 f'::yM J O U Z).toArray) (rs:=[i==i',f==f',ep a0 a1 E G J O U Z]) ht' hs' ⟨_,_,rfl,n0,⟨_,_,gz p0 (by rw[o0];rfl),gz p0 (by rw[o0];rfl),zr v0⟩,_,_,rfl,n1,⟨_,_,gz p1 (by rw[o1];rfl),gz p1 (by rw[o1];rfl),zr v1⟩,_,_,rfl,n2,⟨_,_,DY (by rw[v2];exact ht) (by rw[v2];exact hz),DY (by rw[v2];exact ht) (by rw[v2];exact hz),by rw[v2,o2];exact hv⟩,rfl⟩;simpa using this
end
end
variable{a' d':Int}{b':Bool}{c':YB}
section
variable{P:Program}{n:Nat}{F:Fm}{H:Hp}
def Ib:V->Option Value
 |.int k z=>some<|.int k z
 |.bool b=>some<|.bool b
 |.str l=>some<|.string ⟨l.toArray⟩
 |_=>none
def wt:List V->Option (List Value)
 |[]=>some []
 |v::r=>match Ib v,wt r with
  |some x,some q=>some<|x::q
  |_,_=>none
theorem MD{S:Nat->Prop}{w:World}{ρ:Nat->Option Value}{v:V}{x y:Value}(h:Ib v=some x)(hv:VRel S w ρ v y):y=x:=by
 cases v<;>simp only[Ib,aab]at h<;>try (cases h;done)
 all_goals (subst h;simpa only[VRel]using hv)
theorem yp{S:Nat->Prop}{w:World}{ρ:Nat->Option Value}:∀{vs:List V} {xs ys:List Value},wt vs=some xs->LRel S w ρ vs ys->ys=xs
 |[],xs,ys,h,hl=>by simp only[wt,aab]at h;subst h;simpa only[LRel]using hl
 | v::r,xs,ys,h,hl=>by
  simp only[wt]at h;split at h
  ·rename_i x q h1 h2;simp only[aab]at h;subst h;simp only[LRel]at hl;obtain⟨z,zs,rfl,h3,h4⟩:=hl;rw[MD h1 h3,yp h2 h4]
  ·cases h
theorem yy{neg:Bool}{u ty:TypeId}{ua ub:List V}{xs ys:List Value}{r:Bool}(G:P.eqGuardType P.depth t=false)(hx:aJ F x=some (.agg ua))(hy:aJ F y=some (.agg ub))(Z:wt ua=some xs)(hb:wt ub=some ys)(J:EqV P 10000 t (.agg xs.toArray) (.agg ys.toArray) r):
  ∀S w ρ a,HRel S w ρ H.get->FRel S w ρ a n F->Yld P S w ρ a ty (.binOp (if neg then .neq else .eql) t x y u) (.bool<|if neg then !r else r):=λS w ρ a hr E=>by
 obtain⟨v,k1,O⟩:=aq E hx;obtain⟨v',k3,U⟩:=aq E hy;simp only[VRel]at O U;obtain⟨xs',rfl,m1⟩:=O;obtain⟨ys',rfl,m2⟩:=U;have e1:=yp Z m1;have e2:=yp hb m2;subst e1 e2;refine⟨.bool<|if neg then !r else r,by simp only[VRel],λw' _ _ _ _ _=>?_⟩;simp only[execOp,E.fr.eval k1,E.fr.eval k3];cases neg
 ·simp[run_eqGuard_agg _ _ _ _ _ _ _ G,run_eql_struct,J w',Result.andThen]
 ·simp[run_eqGuard_agg _ _ _ _ _ _ _ G,run_neq_struct,J w',Result.andThen]
theorem Bn{c:YB}{d:Int}(h:ep a b c d a' b' c' d'=true):a=a'∧b=b'∧c=c'∧d=d':=by simpa[ep]using h
theorem AZ{c:YB}{d:Int}(h:ep a b c d a' b' c' d'=false):¬(a=a'∧b=b'∧c=c'∧d=d'):=λ⟨E,G,J,O⟩=>by subst E G J O;simp[ep]at h
theorem BP{i f E f':Int}{c:YB}{d:Int}(h:(i==E&&(f==f'&&ep a b c d a' b' c' d'))=true):i=E∧f=f'∧a=a'∧b=b'∧c=c'∧d=d':=by simpa[ep]using h
theorem BR{i f E f':Int}{c:YB}{d:Int}(h:(i==E&&(f==f'&&ep a b c d a' b' c' d'))=false):¬(i=E∧f=f'∧a=a'∧b=b'∧c=c'∧d=d'):=λ⟨G,J,O,U,Z,e4⟩=>by subst G J O U Z e4;simp[ep]at h
end
section
variable{P:Program}{T:Tab}{n:Nat}{F:Fm}{H:Hp}
theorem zn{m:Int}(h:0<=m∧m<=255):IntKind.u8.wrap m=m:=by simp only[IntKind.wrap,IntKind.bits,IntKind.signed];simp;omega
end
section
variable{P:Program}{f:Nat->Option Value}{a:Act}{w:World}{n:Nat}{ty t u:TypeId}{x y:Operand}{k':IntKind}{m l:Int}
theorem yY(n:Int)(h₀:0<=n)(h₁:n<2^63):IntKind.i64.wrap n=n:=IntWalk.i64_in _ (by omega)
theorem MG(h:Fr a n f)(hx:aE f x=some (.int .i64 m))(hy:aE f y=some (.int k' 20)):Runs P a ty (.binOp .shr t x y u) w (.value<|.int .i64<|m/1048576) w:=λ_ _ _ _=>by have e:=shift_shr .i64 k' m 20 (by decide) (by decide);simp only[execOp,h.eval hx,h.eval hy];simp[go_sem,eqGuard,e]
theorem MO(h:Fr a n f)(hx:aE f x=some (.int .i64 m))(hy:aE f y=some (.int k' 20))(hb:InI<|m*1048576):Runs P a ty (.binOp .shl t x y u) w (.value<|.int .i64<|m*1048576) w:=λ_ _ _ _=>by have e:=shift_shl .i64 k' m 20 (by decide) (by decide);have E:IntKind.i64.wrap (m*1048576)=m*1048576:=IntWalk.i64_in _ (by omega);simp only[execOp,h.eval hx,h.eval hy];simp[go_sem,eqGuard,e,E]
theorem MJ(h:Fr a n f)(hx:aE f x=some (.int .i64 m))(hy:aE f y=some (.int .i64 1048575))(E:0<=m)(h1:m<=9223372036854775807):Runs P a ty (.binOp .and t x y u) w (.value<|.int .i64<|m%1048576) w:=λ_ _ _ _=>by have e:bits .and .i64 m 1048575=m%1048576:=bits_mask .i64 63 (by decide) yY 20 (by decide) m E (by omega);simp only[execOp,h.eval hx,h.eval hy];simp[go_sem,eqGuard,e]
theorem NW(h:Fr a n f)(hx:aE f x=some (.int .i64 m))(hy:aE f y=some (.int .i64 l))(E:0<=m)(h1:m<=4611686018427387904)(h2:m%1048576=0)(G:0<=l)(J:l<1048576):Runs P a ty (.binOp .or t x y u) w (.value<|.int .i64<|m+l) w:=λ_ _ _ _=>by have e:bits .or .i64 m l=m+l:=bits_join .i64 63 (by decide) yY 20 m l E h2 (by omega) G (by omega) (by omega);simp only[execOp,h.eval hx,h.eval hy];simp[go_sem,eqGuard,e]
end
section
variable{P:Program}{n:Nat}{F:Fm}{H:Hp}{ty t u:TypeId}{x y:Operand}{k':IntKind}{m l:Int}
theorem DW(hx:aJ F x=some (.int .i64 m))(hy:aJ F y=some (.int k' 20)):∀S w ρ a,HRel S w ρ H.get->FRel S w ρ a n F->Yld P S w ρ a ty (.binOp .shr t x y u) (.int .i64<|m/1048576):=λS w ρ a hr E=>⟨_,by simp only[VRel],λw' _=>MG E.fr (aV<|aq E hx)<|aV<|aq E hy⟩
theorem QK(hx:aJ F x=some (.int .i64 m))(hy:aJ F y=some (.int k' 20))(hb:InI<|m*1048576):∀S w ρ a,HRel S w ρ H.get->FRel S w ρ a n F->Yld P S w ρ a ty (.binOp .shl t x y u) (.int .i64<|m*1048576):=λS w ρ a hr E=>⟨_,by simp only[VRel],λw' _=>MO E.fr (aV<|aq E hx) (aV<|aq E hy) hb⟩
theorem JG(hx:aJ F x=some (.int .i64 m))(hy:aJ F y=some (.int .i64 1048575))(hb:0<=m∧m<=9223372036854775807):∀S w ρ a,HRel S w ρ H.get->FRel S w ρ a n F->Yld P S w ρ a ty (.binOp .and t x y u) (.int .i64<|m%1048576):=λS w ρ a hr E=>⟨_,by simp only[VRel],λw' _=>MJ E.fr (aV<|aq E hx) (aV<|aq E hy) hb.1 hb.2⟩
theorem Rn(hx:aJ F x=some (.int .i64 m))(hy:aJ F y=some (.int .i64 l))(hb:0<=m∧m<=4611686018427387904∧m%1048576=0∧0<=l∧l<1048576):∀S w ρ a,HRel S w ρ H.get->FRel S w ρ a n F->Yld P S w ρ a ty (.binOp .or t x y u) (.int .i64<|m+l):=λS w ρ a hr E=>⟨_,by simp only[VRel],λw' _=>NW E.fr (aV<|aq E hx) (aV<|aq E hy) hb.1 hb.2.1 hb.2.2.1 hb.2.2.2.1 hb.2.2.2.2⟩
theorem PT{src dst e G ty:TypeId}{x:Operand}{id:Nat}{m l:Int}(hs:P.underlying src=some (.slice G))(he:P.underlying G=some (.int .u8))(hd:P.underlying dst=some .string)(hx:aJ F x=some (.sl id))(ho:H.get id=.row e 1 [.int .u8 m,.int .u8 l]):
  ∀S w ρ a,HRel S w ρ H.get->FRel S w ρ a n F->Does P S w ρ H.get a ty (.convert src dst x) (some<|.str [UInt8.ofNat m.toNat,UInt8.ofNat l.toNat]) (ED.nop.app H.get H.nx) ED.nop.tch:=λS w ρ a hr O=>by
 obtain⟨u,k1,U⟩:=aq O hx;simp only[VRel]at U;obtain⟨u',xs,h1,h2,Z⟩:=lG hr ho;rw[U.1]at h1;cases h1;simp only[CRel,VRel]at Z;obtain⟨z,zs,hz,hzs,rfl,z2,zs2,J,hzs2,rfl,rfl⟩:=Z;have E:xs=[.int .u8 m,.int .u8 l]:=by rw[hz,J];rfl
 have hl:[V.int .u8 m,V.int .u8 l].length=2:=rfl;rw[hl]at h2;rcases h2.2 with⟨_,h0⟩|⟨g,cap,cur,rfl,hb,hg,h4,h5,h6,h7⟩
 ·cases h0
 have c0:w.cell? ⟨g,0,none⟩=some (.int .u8 m):=by rw[ij h2 (j:=0) (by omega),E];rfl
 have c1:w.cell? ⟨g,1,none⟩=some (.int .u8 l):=by rw[ij h2 (j:=1) (by omega),E];rfl
 have fr:=O.fr;refine⟨.value (.string ⟨[UInt8.ofNat m.toNat,UInt8.ofNat l.toNat].toArray⟩),w,ρ,λ_ _ _ _=>?_,Eff.refl hr,_,rfl,by simp only[VRel]⟩;have :=run_convert_bytes_arg (P:=P) w src G hs he g 0 2 cap [m,l] rfl (λi hi=>by
  rcases(by omega:i=0∨i=1)with rfl|rfl
  ·exact c0
  ·exact c1) dst hd
 simp only[execOp,fr.eval k1];simp[this,strOfNums]
end
def so(E:Int)(G:Bool):Prop:=qS 52 [qi E]<|.bool G
def yJ(E G J O:Int):Prop:=qS 53 [qi E,qi G]<|.tup [qi J,qi O]
def mJ(E G J O:Int):Prop:=qS 22 [qi E,qi G]<|.tup [qi J,qi O]
def iK(E:Int)(G:Bool):Prop:=qS 28 [qi E]<|.bool G
def mN(E G J O:Int):Prop:=qS 29 [qi E,qi G]<|.tup [qi J,qi O]
def nO(E:Int)(G:(List YB)):Prop:=qS 100 [qi E]<|.row 1<|List.map V.str G
def lr(E:Int)(G:(List YB)):Prop:=qS 33 [qi E]<|.row 1<|List.map V.str G
theorem Cm(m:Nat)(E:Int)(G:Bool)(h:((1<=(E/1048576))->decide ((E/1048576)<=32)=G)∧((¬1<=(E/1048576))->false=G)):so E G:=by
 refine⟨I,I,?_⟩;refine qA 11 [] func52 λK J=>?_;refine gR 8 rfl<|gY (DW rfl rfl) rfl rfl<|gR 2 rfl<|qBdZ 6 5 rfl rfl rfl rfl h ?_ ?_<;>intro h;refine gR 1 I<|gY (DW I I) I I<|gR 6 I ?_;subst h;exact qN [.tmp 2];refine gR 8 I ?_;subst h;exact qN [.tmp 2]
theorem Dm(m:Nat)(E G J O:Int)(h:((E<1)->0=J∧5=O)∧((¬E<1)->((32<E)->0=J∧5=O)∧((¬32<E)->((G<1)->0=J∧5=O)∧((¬G<1)->((1048575<G)->0=J∧5=O)∧((¬1048575<G)->InI (E*1048576)∧(0<=(E*1048576)∧(E*1048576)<=4611686018427387904∧(E*1048576)%1048576=0∧0<=G∧G<1048576)∧((E*1048576)+G)=J∧0=O))))):yJ E G J O:=by
 refine⟨I,I,?_⟩;refine qA 24 [] func53 λK U=>?_;refine gR 12 rfl<|qBdZ 8 7 rfl rfl rfl rfl h ?_ ?_<;>intro h;refine gR 22 I ?_;obtain⟨rfl,rfl⟩:=h;exact qN [.tmp 4,.tmp 5];refine gR 4 rfl<|qBdZ 12 11 rfl rfl rfl rfl h ?_ ?_<;>intro h;refine gR 18 I ?_;obtain⟨rfl,rfl⟩:=h;exact qN [.tmp 4,.tmp 5];refine gR 4 rfl<|qBdZ 16 15 rfl rfl rfl rfl h ?_ ?_<;>intro h;refine gR 14 I ?_;obtain⟨rfl,rfl⟩:=h;exact qN [.tmp 4,.tmp 5];refine gR 5 rfl<|qBd 19 rfl rfl rfl h ?_ ?_<;>intro h;refine gR 9 I ?_;obtain⟨rfl,rfl⟩:=h;exact qN [.tmp 4,.tmp 5];refine gR 6 I ?_;obtain⟨hb,h⟩:=h;refine gY (QK I I hb) I I<|gR 1 I ?_;obtain⟨hb,h⟩:=h;refine gY (Rn I I hb) I I<|gR 5 I ?_;obtain⟨rfl,rfl⟩:=h;exact qN [.tmp 4,.tmp 5]
theorem Dq(m:Nat)(E G J O:Int)(h:∃a,so E a∧((a=false)->0=J∧5=O)∧((a=true)->((G<0)->0=J∧5=O)∧((¬G<0)->(0<=E∧E<=9223372036854775807)∧InI (1048575-(E%1048576))∧(((1048575-(E%1048576))<G)->0=J∧17=O)∧((¬(1048575-(E%1048576))<G)->(0<=E∧E<=9223372036854775807)∧InI ((E%1048576)+G)∧∃b c,yJ (E/1048576) ((E%1048576)+G) b c∧b=J∧c=O)))):mJ E G J O:=by
 refine⟨I,I,?_⟩;refine qA 27 [] func22 λK U=>?_;refine gR 10 I ?_;obtain⟨a,d,h⟩:=h;refine qC0 d rfl<|gR 2 rfl<|qBhZ 9 8 rfl rfl rfl rfl h bI bJ ?_ ?_<;>intro h;refine gR 14 I ?_;obtain⟨rfl,rfl⟩:=h;exact qN [.tmp 4,.tmp 5];refine gR 5 rfl<|qBd 12 rfl rfl rfl h ?_ ?_<;>intro h;refine gR 9 I ?_;obtain⟨rfl,rfl⟩:=h;exact qN [.tmp 4,.tmp 5];refine gR 8 I ?_;obtain⟨hb,h⟩:=h;refine gY (JG I I hb) I I ?_;obtain⟨hb,h⟩:=h;refine gR 1 rfl<|gV 16 (qi<|1048575-(E%1048576)) rfl (al hb rfl) rfl<|gR 3 rfl<|qBd 17 rfl rfl rfl h ?_ ?_<;>intro h;refine gR 9 I ?_;obtain⟨rfl,rfl⟩:=h;exact qN [.tmp 4,.tmp 5];refine gR 6 I<|gY (DW I I) I I<|gR 1 I ?_;obtain⟨hb,h⟩:=h;refine gY (JG I I hb) I I<|gR 1 I ?_;obtain⟨hb,h⟩:=h;refine gR 1 I<|gV 23 (qi<|(E%1048576)+G) I (al hb I) I ?_;obtain⟨b,c,e,h⟩:=h;refine qC0 e I<|gR 7 I ?_;obtain⟨rfl,rfl⟩:=h;exact qN [.tmp 4,.tmp 5]
theorem wT(m:Nat)(E:Int)(G:Bool)(h:((1048576<=E)->decide (E<34603008)=G)∧((¬1048576<=E)->false=G)):iK E G:=by
 refine⟨I,I,?_⟩;refine qA 9 [] func28 λK J=>?_;refine gR 10 rfl<|qBdZ 5 4 rfl rfl rfl rfl h ?_ ?_<;>intro h;refine gR 7 I ?_;subst h;exact qN [.tmp 2];refine gR 7 I ?_;subst h;exact qN [.tmp 2]
def lQ(m:Nat)(E G:Int)(a:Bool)(J O:Int):Prop:=z6 [] f29 (z3<|.tup [qi J,qi O]) (cB<|xN<|cB<|ac f29) [.blk 0,.seq<|xA<|ac f29] 29 [(0,qi E),(1,qi G),(6,.bool a)] ⟨0,[]⟩
theorem xZ(m:Nat)(E G O U:Int)(h:∃a,iK E a∧((a=false)->lQ m E G true O U)∧((a=true)->lQ m E G (decide<|G<0) O U)):mN E G O U:=by
 refine⟨I,I,?_⟩;refine qA 29 [] func29 λK J=>?_;refine gR 11 I ?_;obtain⟨a,b,h⟩:=h;refine qC0 b rfl<|gR 2 rfl<|qBhZ 10 9 rfl rfl rfl rfl h bI bJ ?_ ?_<;>intro h;exact gR 6 I<|qJ J (h K J) [];exact gR 6 I<|qJ J (h K J) []
theorem qr(m:Nat)(E G:Int)(a:Bool)(J O:Int)(h:z9 a (0=J∧5=O)<|(1048576:Int)≠0∧InI (1048575-(Int.tmod E 1048576))∧z8 ((1048575-(Int.tmod E 1048576))<G) (0=J∧17=O) ((1048576:Int)≠0∧InI ((Int.tmod E 1048576)+G)∧y5 ((Int.tmod E 1048576)+G) 0 (0=J∧5=O) (InI (E+G)∧(E+G)=J∧0=O))):lQ (m+1) E G a J O:=by
 intro K U;refine qBi 6 rfl rfl rfl h ?_ ?_<;>intro h;refine gR 10 I ?_;obtain⟨rfl,rfl⟩:=h;exact qN [.tmp 4,.tmp 5];refine gR 5 I ?_;obtain⟨hb,h⟩:=h;refine gY (Fv I I hb) I I ?_;obtain⟨hb,h⟩:=h;refine gR 1 rfl<|gV 18 (qi (1048575-(Int.tmod E 1048576))) rfl (al hb rfl) rfl<|gR 4 rfl<|qBdZ 14 19 rfl rfl rfl rfl h ?_ ?_<;>intro h;refine gR 10 I ?_;obtain⟨rfl,rfl⟩:=h;exact qN [.tmp 4,.tmp 5];refine gR 4 I ?_;obtain⟨hb,h⟩:=h;refine gY (Fv I I hb) I I<|gR 1 I ?_;obtain⟨hb,h⟩:=h;refine gR 1 rfl<|gV 24 (qi ((Int.tmod E 1048576)+G)) rfl (al hb rfl) rfl<|gR 4 rfl<|qBeZ 20 25 rfl rfl rfl rfl h ?_ ?_<;>intro h;refine gR 10 I ?_;obtain⟨rfl,rfl⟩:=h;exact qN [.tmp 4,.tmp 5];refine gR 8 I ?_;obtain⟨hb,h⟩:=h;refine gR 1 I<|gV 28 (qi (E+G)) I (al hb I) I<|gR 5 I ?_;obtain⟨rfl,rfl⟩:=h;exact qN [.tmp 4,.tmp 5]
def iZ(m:Nat)(E:Int)(a:(List YB))(b:Nat)(G:(List YB)):Prop:=z5 m [] f100 (z3<|.row 1<|List.map V.str G) (xK<|ac f100) [.blk 0,.seq<|xF<|cB<|ac f100] 40 [(3,qi<|Int.tdiv 650<|E+1),(4,.sl 0),(16,qi E),(17,qi (b:Int))] ⟨1,[(0,.row 9 1<|List.map V.str a)]⟩
theorem yN(m:Nat)(p0:Int)(r0:(List YB))(h:((p0<0)->[]=r0)∧((¬p0<0)->((400<p0)->[]=r0)∧((¬400<p0)->InI (p0+1)∧(((p0+1):Int)≠0∧InI (Int.tdiv 650<|p0+1))∧iZ m p0 ([]:List YB) 0 r0))):nO p0 r0:=by
 refine⟨I,I,?_⟩;refine qA 40 [] func100 λK hK=>?_;refine gR 11 rfl<|qXdZ 9 8 rfl rfl rfl rfl h ?_ ?_<;>intro hd h;refine gR 13 I ?_;subst h;exact go_sub (F':=(mkF 40 0 [(2,.row 1<|List.map V.str [])])) (H':=⟨0,[]⟩) [] [] I hK ⟨⟨_,I,(.nil 1)⟩,trivial⟩ trivial I<|qN [.tmp 2];refine gR 5 rfl<|qXd 12 rfl rfl rfl h ?_ ?_<;>intro hd h;refine gR 8 I ?_;subst h;exact go_sub (F':=(mkF 40 0 [(2,.row 1<|List.map V.str [])])) (H':=⟨0,[]⟩) [] [] I hK ⟨⟨_,I,(.nil 1)⟩,trivial⟩ trivial I<|qN [.tmp 2];refine gR 6 I ?_;obtain⟨hb,h⟩:=h;refine gR 1 I<|gV 14 (qi<|p0+1) I (al hb I) I ?_;obtain⟨hb,h⟩:=h;exact gY (Jo I I hb.1 hb.2) I I<|gR 16 I<|go_loop m<|gNS 4 9 1 I I I I<|qW hK h [0]
theorem qX(m:Nat)(E:Int)(b:(List YB))(a:Nat)(G:(List YB))(h:z8 ((a:Int)<E) (a+1<=9223372036854775807∧InI (((a+1:Nat):Int)*(Int.tdiv 650<|E+1))∧((25:Int)≠0∧InI (Int.tdiv (((a+1:Nat):Int)*(Int.tdiv 650<|E+1)) 25))∧(0<=(Int.tdiv (((a+1:Nat):Int)*(Int.tdiv 650<|E+1)) 25)∧(Int.tdiv (((a+1:Nat):Int)*(Int.tdiv 650<|E+1)) 25)<=255)∧(0<=97+(Int.tdiv (((a+1:Nat):Int)*(Int.tdiv 650<|E+1)) 25)∧97+(Int.tdiv (((a+1:Nat):Int)*(Int.tdiv 650<|E+1)) 25)<=255)∧(25:Int)≠0∧InI (1+(Int.tmod (((a+1:Nat):Int)*(Int.tdiv 650<|E+1)) 25))∧(0<=(1+(Int.tmod (((a+1:Nat):Int)*(Int.tdiv 650<|E+1)) 25))∧(1+(Int.tmod (((a+1:Nat):Int)*(Int.tdiv 650<|E+1)) 25))<=255)∧(0<=97+(1+(Int.tmod (((a+1:Nat):Int)*(Int.tdiv 650<|E+1)) 25))∧97+(1+(Int.tmod (((a+1:Nat):Int)*(Int.tdiv 650<|E+1)) 25))<=255)∧(b++[[UInt8.ofNat (97+(Int.tdiv (((a+1:Nat):Int)*(Int.tdiv 650<|E+1)) 25)).toNat,UInt8.ofNat (97+(1+(Int.tmod (((a+1:Nat):Int)*(Int.tdiv 650<|E+1)) 25))).toNat]]).length<=1000000000∧a+1<=9223372036854775807∧iZ m E (b++[[UInt8.ofNat (97+(Int.tdiv (((a+1:Nat):Int)*(Int.tdiv 650<|E+1)) 25)).toNat,UInt8.ofNat (97+(1+(Int.tmod (((a+1:Nat):Int)*(Int.tdiv 650<|E+1)) 25))).toNat]]) (a+1) G)<|b=G):iZ (m+1) E b a G:=by
 refine qj λK O J c=>?_;refine gR 6 rfl<|qXd 18 rfl rfl rfl h ?_ ?_<;>intro U h;refine gR 14 I ?_;obtain⟨hb,h⟩:=h;refine gR 1 I<|gV 21 (qi ((a+1:Nat):Int)) I (al (by omega)<|by omega) I<|gR 1 I ?_;obtain⟨hb,h⟩:=h;refine gY (Nj I I hb) I I<|gR 6 I ?_;obtain⟨hb,h⟩:=h;refine gY (Jo I I hb.1 hb.2) I I ?_;obtain⟨hb,h⟩:=h;refine gY (yCv underlying3 underlying5 I<|zn hb) I I ?_;obtain⟨hb,h⟩:=h;refine gR 1 I<|gV 28 (.int .u8<|97+(Int.tdiv (((a+1:Nat):Int)*(Int.tdiv 650<|E+1)) 25)) I (congrArg (V.int .u8)<|zn hb) I<|gR 1 I ?_;obtain⟨hb,h⟩:=h;refine gY (Fv I I hb) I I ?_;obtain⟨hb,h⟩:=h;refine gR 1 I<|gV 31 (qi<|1+(Int.tmod (((a+1:Nat):Int)*(Int.tdiv 650<|E+1)) 25)) I (al hb I) I ?_;obtain⟨hb,h⟩:=h;refine gY (yCv underlying3 underlying5 I<|zn hb) I I ?_;obtain⟨hb,h⟩:=h;refine gR 1 I<|gV 33 (.int .u8<|97+(1+(Int.tmod (((a+1:Nat):Int)*(Int.tdiv 650<|E+1)) 25))) I (congrArg (V.int .u8)<|zn hb) I<|gR 1 I<|gDo (.nop) (PT underlying115 underlying5 underlying9 I I) trivial I I I<|gR 1 I ?_;obtain⟨hb,h⟩:=h;refine gDo (.repl 0<|.row 9 1<|List.map V.str<|b++[[UInt8.ofNat (97+(Int.tdiv (((a+1:Nat):Int)*(Int.tdiv 650<|E+1)) 25)).toNat,UInt8.ofNat (97+(1+(Int.tmod (((a+1:Nat):Int)*(Int.tdiv 650<|E+1)) 25))).toNat]]) (aX ab I I I I I (apM V.str b [UInt8.ofNat (97+(Int.tdiv (((a+1:Nat):Int)*(Int.tdiv 650<|E+1)) 25)).toNat,UInt8.ofNat (97+(1+(Int.tmod (((a+1:Nat):Int)*(Int.tdiv 650<|E+1)) 25))).toNat]) (by rw[az];exact hb)) (okR I) I I I<|gR 5 I ?_;obtain⟨hb,h⟩:=h;exact gR 1 I<|gV 38 (qi ((a+1:Nat):Int)) I (al (by omega)<|by omega) I<|gR 2 I<|go_xloop<|qW J h [3];refine gR 3 I<|go_xloopE<|gR 9 I<|gFR 0 I (cw _ (λ_=>I) _) I I ?_;subst h;exact qN [.tmp 2]
def gh(m:Nat)(E:Int)(a:(List YB))(b:Nat)(G:(List YB)):Prop:=z5 m [] f33 (z3<|.row 1<|List.map V.str G) (xK<|ac f33) [.blk 0,.seq<|xF<|cB<|ac f33] 38 [(0,qi E),(3,.sl 0),(4,qi<|Int.tdiv 650<|E+1),(5,qi (b:Int))] ⟨1,[(0,.row 9 1<|List.map V.str a)]⟩
theorem vO(m:Nat)(p0:Int)(r0:(List YB))(h:((p0<0)->[]=r0)∧((¬p0<0)->((400<p0)->[]=r0)∧((¬400<p0)->InI (p0+1)∧(((p0+1):Int)≠0∧InI (Int.tdiv 650<|p0+1))∧gh m p0 ([]:List YB) 1 r0))):lr p0 r0:=by
 refine⟨I,I,?_⟩;refine qA 38 [] func33 λK hK=>?_;refine gR 16 rfl<|qXdZ 8 7 rfl rfl rfl rfl h ?_ ?_<;>intro hd h;refine gR 13 I ?_;subst h;exact go_sub (F':=(mkF 38 0 [(2,.row 1<|List.map V.str [])])) (H':=⟨0,[]⟩) [] [] I hK ⟨⟨_,I,(.nil 1)⟩,trivial⟩ trivial I<|qN [.tmp 2];refine gR 5 rfl<|qXd 11 rfl rfl rfl h ?_ ?_<;>intro hd h;refine gR 8 I ?_;subst h;exact go_sub (F':=(mkF 38 0 [(2,.row 1<|List.map V.str [])])) (H':=⟨0,[]⟩) [] [] I hK ⟨⟨_,I,(.nil 1)⟩,trivial⟩ trivial I<|qN [.tmp 2];refine gR 6 I ?_;obtain⟨hb,h⟩:=h;refine gR 1 I<|gV 13 (qi<|p0+1) I (al hb I) I ?_;obtain⟨hb,h⟩:=h;exact gY (Jo I I hb.1 hb.2) I I<|gR 10 I<|go_loop m<|gNS 3 9 1 I I I I<|qW hK h [0]
theorem oy(m:Nat)(E:Int)(b:(List YB))(a:Nat)(G:(List YB))(h:z8 ((a:Int)<=E) (InI ((a:Int)*(Int.tdiv 650<|E+1))∧((25:Int)≠0∧InI (Int.tdiv ((a:Int)*(Int.tdiv 650<|E+1)) 25))∧InI (97+(Int.tdiv ((a:Int)*(Int.tdiv 650<|E+1)) 25))∧(0<=(97+(Int.tdiv ((a:Int)*(Int.tdiv 650<|E+1)) 25))∧(97+(Int.tdiv ((a:Int)*(Int.tdiv 650<|E+1)) 25))<=255)∧InI ((a:Int)*(Int.tdiv 650<|E+1))∧(25:Int)≠0∧InI (98+(Int.tmod ((a:Int)*(Int.tdiv 650<|E+1)) 25))∧(0<=(98+(Int.tmod ((a:Int)*(Int.tdiv 650<|E+1)) 25))∧(98+(Int.tmod ((a:Int)*(Int.tdiv 650<|E+1)) 25))<=255)∧(b++[[UInt8.ofNat (97+(Int.tdiv ((a:Int)*(Int.tdiv 650<|E+1)) 25)).toNat,UInt8.ofNat (98+(Int.tmod ((a:Int)*(Int.tdiv 650<|E+1)) 25)).toNat]]).length<=1000000000∧a+1<=9223372036854775807∧gh m E (b++[[UInt8.ofNat (97+(Int.tdiv ((a:Int)*(Int.tdiv 650<|E+1)) 25)).toNat,UInt8.ofNat (98+(Int.tmod ((a:Int)*(Int.tdiv 650<|E+1)) 25)).toNat]]) (a+1) G)<|b=G):gh (m+1) E b a G:=by
 refine qj λK O J c=>?_;refine gR 8 rfl<|qXd 17 rfl rfl rfl h ?_ ?_<;>intro U h;refine gR 9 I ?_;obtain⟨hb,h⟩:=h;refine gY (Nj I I hb) I I ?_;obtain⟨hb,h⟩:=h;refine gY (Jo I I hb.1 hb.2) I I ?_;obtain⟨hb,h⟩:=h;refine gR 1 I<|gV 25 (qi<|97+(Int.tdiv ((a:Int)*(Int.tdiv 650<|E+1)) 25)) I (al hb I) I ?_;obtain⟨hb,h⟩:=h;refine gY (yCv underlying3 underlying5 I<|zn hb) I I<|gR 2 I ?_;obtain⟨hb,h⟩:=h;refine gY (Nj I I hb) I I ?_;obtain⟨hb,h⟩:=h;refine gY (Fv I I hb) I I ?_;obtain⟨hb,h⟩:=h;refine gR 1 I<|gV 31 (qi<|98+(Int.tmod ((a:Int)*(Int.tdiv 650<|E+1)) 25)) I (al hb I) I ?_;obtain⟨hb,h⟩:=h;refine gY (yCv underlying3 underlying5 I<|zn hb) I I<|gR 1 I<|gDo (.nop) (PT underlying115 underlying5 underlying9 I I) trivial I I I<|gR 1 I ?_;obtain⟨hb,h⟩:=h;refine gDo (.repl 0<|.row 9 1<|List.map V.str<|b++[[UInt8.ofNat (97+(Int.tdiv ((a:Int)*(Int.tdiv 650<|E+1)) 25)).toNat,UInt8.ofNat (98+(Int.tmod ((a:Int)*(Int.tdiv 650<|E+1)) 25)).toNat]]) (aX ab I I I I I (apM V.str b [UInt8.ofNat (97+(Int.tdiv ((a:Int)*(Int.tdiv 650<|E+1)) 25)).toNat,UInt8.ofNat (98+(Int.tmod ((a:Int)*(Int.tdiv 650<|E+1)) 25)).toNat]) (by rw[az];exact hb)) (okR I) I I I<|gR 6 I ?_;obtain⟨hb,h⟩:=h;exact gR 1 I<|gV 19 (qi ((a+1:Nat):Int)) I (al (by omega)<|by omega) I<|gR 2 I<|go_xloop<|qW J h [3];refine gR 3 I<|go_xloopE<|gR 9 I<|gFR 0 I (cw _ (λ_=>I) _) I I ?_;subst h;exact qN [.tmp 2]
end Go.Proofs.YtehhanlhfdoiaaaGreat
