/- StoreHears, wherever what it reads is of bulk at most 1048576: proved over a checked abstract run of the translated code; no condition but that. A part. -/
import Derived.Test.YtidacoblmebfcaaGreatDoorChecked
import Derived.Lib.LaidU8
import Derived.Lib.OthersKept
import Derived.Laws.RangeAny
import Derived.WalkKit
import Derived.BigCall
import Derived.Test.YtidacoblmebfcaaGreatDoorG2
set_option linter.unusedSimpArgs false
set_option linter.unusedVariables false
set_option linter.constructorNameAsVariable false
set_option linter.defProp false
set_option maxRecDepth 100000
set_option maxHeartbeats 16000000
namespace Sg
abbrev PgT:=Nat->Option Fn
@[simp] def HpZ (n:Nat) (f:F):PgT->Prop:=fun p=>p n=some (.code f)
@[simp] def HpQ (n:Nat) (f:F) (k:Nat):PgT->Prop:=fun p=>p n=some (.codeR f k)
@[simp] def HpC (n:Nat) (f:F) (r:PgT->Prop):PgT->Prop:=fun p=>p n=some (.code f)/\r p
@[simp] def HpR (n:Nat) (f:F) (k:Nat) (r:PgT->Prop):PgT->Prop:=fun p=>p n=some (.codeR f k)/\r p
@[simp] def HpA (a b:PgT->Prop):PgT->Prop:=fun p=>a p/\b p
theorem inc64q {i:Nat} (h:i<9223372036854775807):_root_.Go.IntKind.i64.wrap ((i:Int)+1)=((i+1:Nat):Int):=by rw[bv (by omega) (by omega)];omega
end Sg
namespace Sg
def look {α:Type}:List (Nat×α)->Nat->Option α
 |[],_=>none
 |(k,a)::l,n=>if k=n then some a else look l n
def L4:Option Nat->Bool
 |some j=>decide (j<3000)
 |none=>true
def L5 (F:F) (j:Nat):Bool:=F.own.isNone&&kY j F.body&&decide (j<1000)
def dt (P:Go.Program) (cx:Cx) (p:List (Nat×Fn)):List (Nat×Fn)->Bool
 |[]=>true
 |(k,.code F)::l=>jg P cx (look p) (cx.fm k) F&&dt P cx p l
 |(k,.codeR F j)::l=>jg P cx (look p) (cx.fm k) F&&L5 F j&&dt P cx p l
 |(_,.prim o _)::l=>L4 o&&dt P cx p l
theorem dO {α:Type}:∀{l:List (Nat×α)} {n:Nat} {a:α},look l n=some a->(n,a)∈l
 |(k,b)::l,n,a,h=>by
  simp only[look] at h;split at h
  ·rename_i e;subst e;simp only[Gb] at h;subst h;exact G0
  ·exact G2 _ (dO h)
 |[],n,a,h=>by simp[look] at h
def C3 (P:Go.Program) (cx:Cx) (tab:List (Nat×Fn)) (k:Nat):Fn->Prop
 |.code F=>jg P cx (look tab) (cx.fm k) F=true
 |.codeR F j=>jg P cx (look tab) (cx.fm k) F=true/\L5 F j=true
 |.prim o _=>L4 o=true
theorem D7 {P:Go.Program} {cx:Cx} {j:List (Nat×Fn)}:∀{l:List (Nat×Fn)},dt P cx j l=true->∀k f,(k,f)∈l->C3 P cx j k f
 |(k',g)::l,h,k,f,hm=>by
  have o:C3 P cx j k' g/\dt P cx j l=true:=by
   cases g<;>simp only[dt,Ge] at h
   ·exact h
   ·exact h
   ·exact⟨h.1,h.2⟩
  simp only[GH,Gr] at hm;rcases hm with⟨rfl,rfl⟩|hm
  ·exact o.1
  ·exact D7 o.2 k f hm
 |[],h,k,f,hm=>by simp at hm
def nb {P:Go.Program} {cx:Cx} {j:List (Nat×Fn)} (hm:P.follows .mixedOrders=true) (o:dt P cx j j=true)
  (q:∀f own p,look j f=some (.prim own p)->∀args r,p args=some r->jR P cx own f args r)
  (y:∀f z p,z<1000->look j f=some (.prim (some (1000+z)) p)->∃E el,ki P (cx.fm f) z E el) (u:∀f z p,look j f=some (.prim (some (2000+z)) p)->nE P (cx.fm f) z)
  (n f:Nat) (args:Eq) (r:V) (h:Jm (look j) n f args=some r):jR P cx (aR (look j) f) f args r:=
 (J0 hm (fun f F w=>D7 o f _ (dO w)) q y u (fun f F k w=>by
  have h1:C3 P cx j f (.codeR F k):=D7 o f _ (dO w);have B:=h1.2;simp only[L5,Ge,yD] at B;exact⟨h1.1,B.1.1,B.1.2⟩) (fun f own p w k H D=>by
  have h1:C3 P cx j f (.prim own p):=D7 o f _ (dO w);subst D;simp only[C3,L4,Gj] at h1;omega) n f args r h).1
end Sg
namespace Sg
open _root_.Go (IntKind BinOp UnOp)
@[go_sem] abbrev jE:_root_.Go.Value:=.int .i64 0
@[go_sem] abbrev Or:V:=.int .i64 0
@[go_sem] abbrev z_0:Eq:=[.str [],.str [],Or,Or,Or]
@[go_sem] abbrev z_1:Eq:=[.str [],.str []]
@[go_sem] abbrev z_2:Eq:=[Or,Or,Or,.bool false,.str []]
@[go_sem] abbrev z_3:Eq:=[Or,Or,Or]
@[go_sem] abbrev z_4:Eq:=[Or,Or,Or,Or,Or,Or,.bool false,.str [],.slice 2 [],.str [],.bool false]
@[go_sem] abbrev z_5:Eq:=[Or,Or,.slice 1 [],Or,.str [],.str [],.slice 1 []]
@[go_sem] abbrev z_6:Eq:=[Or,Or,Or,Or,Or,.slice 1 [],.str []]
@[go_sem] abbrev z_7:Eq:=[.str [],.slice 5 []]
@[go_sem] abbrev z_8:Eq:=[.slice 17 [],Or,Or,Or,Or]
@[go_sem] abbrev z_9:Eq:=[Or,Or,Or,Or,.bool false,.str [],.slice 2 [],.str [],.bool false]
@[go_sem] abbrev z_10:Eq:=[Or,Or,.str [],.str [],Or,.slice 2 [],Or,Or,Or,Or,Or,Or,.slice 11 [],Or,Or,Or,Or]
@[go_sem] abbrev z_11:Eq:=[Or,.slice 9 []]
@[go_sem] abbrev z_12:Eq:=[Or,Or,Or,.slice 1 [],Or,.str [],.str [],.slice 1 [],.slice 36 []]
@[go_sem] abbrev z_13:Eq:=[Or,.nslice 9]
@[go_sem] abbrev z_14:Eq:=[.str [],.bool false]
@[go_sem] abbrev z_15:Eq:=[.nslice 17,Or,Or,Or,Or]
@[go_sem] abbrev z_16:Eq:=[Or,Or,Or,Or,Or,Or,Or,Or,Or,Or,Or,Or,.str [],Or,Or,Or,.str [],.str [],.bool false,.str [],Or,Or,Or,.str [],Or,Or,Or,Or,Or,.bool false,.str [],.slice 2 [],.str [],.bool false,.slice 5 [],.slice 1 []]
@[go_sem] abbrev z_17:Eq:=[Or,Or,Or,.str [],.str [],.bool false,.str [],Or,Or,Or,.str [],Or]
@[go_sem] abbrev z_18:Eq:=[.str [],.nslice 5]
@[go_sem] abbrev z_19:Eq:=[Or,Or,.str [],.str [],Or,.nslice 2,Or,Or,Or,Or,Or,Or,.nslice 11,Or,Or,Or,Or]
def c142:C:=rs 0 (qB 2 0^qF 4)<|rs 5 (qb 2 2^qc 167^ya^qm 1^qc 168^za 2^ya^qm 1^qr 2 0^qr 2 1^qC 169 (ls [7,9,11])^za 6^qv 4) .ret
def F142:F:=mF 2 [.t 4] none c142
def l149_0:C:=em (lq 13 (qm 6^qm 0^eq^qQ .lss 0) 16 0<|sq (bk 1 (rs 19 (qm 0^qm 6^qi 5^qg 0^qJ 2^qm 1^q3 (.call (.k 142) .no none [.l 4,.l 5]))<|cd 25 (rs 26 (qm 0^qm 6^qi 5^qJ 5^qt 4 5 3^qT 5) .ret) .skip))<|r1 17 (qm 6^qk .add 1^qv 6))
def c149:C:=rs 0 (qG 4 z_0^qF 5)<|i1 7 (qm 1^ge^qK .eql 0) 9 (rs 10 (qm 0^q1 (.iad 5 (.l 0) (ci 0))^qJ 5^qt 4 5 2^qT 5) .ret)<|sq (rs 0 (qz 6 0)<|bk 0 l149_0)<|rs 30 (q1 (.build z_0 [])^qt 4 5 0^qF 5) .ret
def F149:F:=mF 2 [.cell 4 (some 5),.t 5] none c149
def l153_0:C:=em (lq 11 (qm 5^qm 0^eq^qQ .lss 0) 14 0<|sq (bk 1 (rt 17 (qm 0^qm 5^qi 5^qJ 5^qm 1^qm 5^qi 5^qJ 5^q3 (.eqa true [.s,.s,.i,.i,.i] (.l 3) (.l 7)))<|cd 25 (rs 0 (qF 4) .ret) .skip))<|r1 15 (qm 5^qk .add 1^qv 5))
def c153:C:=rs 0 (qF 4)<|i1 6 (qm 0^eq^qm 1^eq^qQ .neq 1) 10 (rs 0 (qF 4) .ret)<|sq (rs 0 (qz 5 0)<|bk 0 l153_0)<|rs 0 (qT 4) .ret
def F153:F:=mF 2 [.t 4] none c153
def c167:C:=rs 0 (qB 1 0^qF 2)<|i1 3 (qr 1 0^ge^qk .gtr 0^ya^qr 1 0^qc 168^qn^zA 4) 12 (rs 0 (qF 2) .ret)<|i1 13 (qr 1 1^ge^qK .eql 0) 16 (rs 0 (qT 2) .ret)<|rs 17 (qr 1 1^qc 168^ya^qr 1 0^qr 1 1^qC 187 (ls [5,7])^qk .eql (-1)^za 3^qv 2) .ret
def F167:F:=mF 1 [.t 2] none c167
def l168_0:C:=em (lq 13 (qm 0^ge^qK .gtr 0) 15 0<|bk 1 (rs 17 (qm 0^qc 188^q2 16 (.mov (.l 1))^qx 0^qy 1^qw 3^qw 4)<|i1 21 (qm 3^qc 189^qN) 23 (rs 0 (qF 2) .ret)<|r1 24 (qm 0^qm 4^q1 (.sl true 0 (.l 0) (some (.l 1)) none)^qv 0)))
def c168:C:=rs 0 (qF 2)<|i1 5 (qm 0^ge^qk .eql 0^yo^qm 0^ge^qk .gtr 16^zO 3) 12 (rs 0 (qF 2) .ret)<|sq (bk 0 l168_0)<|rs 0 (qT 2) .ret
def F168:F:=mF 1 [.t 2] none c168
def c169:C:=rs 0 (qF 6)<|rs 7 (qm 0^qm 1^qd 187^qk .geq 0^ya^qm 2^ge^qk .eql 0^yo^qm 0^qm 2^qd 187^qk .lss 0^y1 4^qo 8^za 4^qv 6) .ret
def F169:F:=mF 3 [.t 6] none c169
def c171:C:=rs 0 (qB 2 0^qF 4)<|rs 5 (qb 2 2^qc 186^ya^qm 1^qc 170^za 2^ya^qr 2 0^qm 1^qd 192^qk .leq 0^za 6^ya^qr 2 1^q1 (.bin .eql (.l 15) (.c (.str [])))^yo^qm 1^qr 2 1^qC 192 (ls [18,20])^qk .lss 0^y1 13^qo 17^za 13^qv 4) .ret
def F171:F:=mF 2 [.t 4] none c171
def c178:C:=rs 0 (qB 2 0^qG 4 z_1^qG 5 z_1^qz 6 0)<|sq (bk 0 (rs 8 (qb 2 2^qc 186^qn^yo^qm 1^qc 170^qn^zo 3^qv 7)<|cd 7 (rs 16 (q1 (.build z_1 [])^q1 (.build z_1 [])^qt 4 2 0^qt 5 2 1^qz 6 1) .ret)<|rs 19 (qm 1^qr 2 0^qq .eql 0^yo^qb 2 2^qm 1^qd 171^qn^zo 4^qv 18)<|cd 18 (rs 29 (q1 (.build z_1 [])^q1 (.build z_1 [])^qt 4 2 0^qt 5 2 1^qz 6 9) .ret) .skip))<|rt 31 (qr 2 0^qm 1^q1 (.build z_1 [(0,1,.l 1),(1,1,.l 2)])^qm 1^qr 2 1^q1 (.build z_1 [(0,1,.l 4),(1,1,.l 6)])^qt 4 2 3^qt 5 2 7^qz 6 0) .ret
def F178:F:=mF 2 [.cell 4 (some 2),.cell 5 (some 2),.t 6] none c178
def c183:C:=rs 0 (qB 2 0^qG 4 z_1^qG 5 z_1^qz 6 0)<|i1 9 (qb 2 2^qc 167^qn^yo^qm 1^qc 168^qn^zO 3) 16 (rs 17 (q1 (.build z_1 [])^q1 (.build z_1 [])^qt 4 2 0^qt 5 2 1^qz 6 1) .ret)<|rt 19 (qr 2 0^qm 1^q1 (.build z_1 [(0,1,.l 1),(1,1,.l 2)])^qm 1^qr 2 1^q1 (.build z_1 [(0,1,.l 4),(1,1,.l 6)])^qG 7 z_1^qG 8 z_1^qs 7 2 8 3^qs 8 2 9 7)<|i1 27 (qb 7 2^qc 167^qn^yo^qb 8 2^qc 167^qn^zO 3) 34 (rs 35 (q1 (.build z_1 [])^q1 (.build z_1 [])^qt 4 2 0^qt 5 2 1^qz 6 9) .ret)<|rt 37 (qb 7 2^qb 8 2^qt 4 2 0^qt 5 2 1^qz 6 0) .ret
def F183:F:=mF 2 [.cell 4 (some 2),.cell 5 (some 2),.t 6] none c183
def c184:C:=rs 0 (qB 2 0^qB 3 1^qG 4 z_1^qz 5 0)<|i1 6 (qb 2 2^qc 167^qn^yo^qb 3 2^qc 167^qn^zO 3) 13 (rs 14 (q1 (.build z_1 [])^qt 4 2 0^qz 5 1) .ret)<|i1 15 (qr 2 1^ge^qk .eql 0^yo^qr 2 1^qr 3 0^qq .neq 6^zO 4) 25 (rs 26 (q1 (.build z_1 [])^qt 4 2 0^qz 5 9) .ret)<|rs 27 (qr 2 0^qr 3 1^q1 (.build z_1 [(0,1,.l 1),(1,1,.l 3)])^qt 4 2 4^qz 5 0) .ret
def F184:F:=mF 2 [.cell 4 (some 2),.t 5] none c184
def c186:C:=rs 0 (qB 1 0^qF 2)<|i1 3 (qr 1 0^q1 (.bin .neq (.l 1) (.c (.str [])))^ya^qr 1 0^qc 170^qn^zA 3) 11 (rs 0 (qF 2) .ret)<|rs 12 (qr 1 1^q1 (.bin .eql (.l 1) (.c (.str [])))^yo^qr 1 1^qc 170^ya^qr 1 0^qr 1 1^qC 192 (ls [9,11])^qk .lss 0^y0 3^qa 7^zo 3^qv 2) .ret
def F186:F:=mF 1 [.t 2] none c186
def l187_0:C:=em (lq 12 (qm 7^qm 5^eq^qq .lss 0^ya^qm 7^qm 6^eq^qq .lss 5^zA 4) 21 0<|sq (bk 1 (i2 24 (qm 5^qm 7^qi 1^qj^qm 6^qm 7^qi 1^qj^qQ .lss 3) 32 (rs 0 (qz 4 (-1)) .ret)<|rt 33 (qm 5^qm 7^qi 1^qj^qm 6^qm 7^qi 1^qj^qQ .gtr 3)<|cd 41 (rs 0 (qz 4 1) .ret) .skip))<|r1 22 (qm 7^qk .add 1^qv 7))
def c187:C:=rs 0 (qz 4 0)<|rs 8 (qm 0^qc 195^qm 1^qc 195^qV 5 1^qw 6)<|sq (rs 0 (qz 7 0)<|bk 0 l187_0)<|i1 42 (qm 5^eq^qm 6^eq^qQ .lss 1) 46 (rs 0 (qz 4 (-1)) .ret)<|i1 47 (qm 5^eq^qm 6^eq^qQ .gtr 1) 51 (rs 0 (qz 4 1) .ret)<|rs 0 (qz 4 0) .ret
def F187:F:=mF 2 [.t 4] none c187
def l188_0:C:=em (lq 46 (qm 7^qm 5^qQ .lss 0) 48 0<|sq (bk 1 (i1 51 (qm 0^qm 7^q1 (.idx (.l 0) (.l 1))^q1 (.bin .lss (.l 2) (.c (.int .u8 128)))^yo^qm 0^qm 7^q1 (.idx (.l 5) (.l 6))^q1 (.bin .gtr (.l 7) (.c (.int .u8 191)))^zO 4) 60 (rs 0 (qz 2 (-1)^qz 3 1) .ret)<|r1 61 (qm 4^q1 (.bin .mul (ci 64) (.l 0))^qm 0^qm 7^q1 (.idx (.l 2) (.l 3))^q1 (.conv (.int .i64) (.l 4))^qq .add 1^qk .sub 128^qv 4)))<|r1 49 (qm 7^qk .add 1^qv 7))
def c188:C:=rs 0 (qz 2 0^qz 3 0)<|rs 8 (qm 0^q1 (.idx (.l 0) (ci 0))^q1 (.conv (.int .i64) (.l 1))^qv 4)<|i1 11 (qm 4^qK .lss 128) 12 (rs 13 (qm 4^qv 2^qz 3 1) .ret)<|rs 0 (qz 5 0^qz 6 0)<|sq (rs 14 (qm 4^qk .geq 194^ya^qm 4^qk .lss 224^zA 2)<|cd 19 (r1 20 (qm 4^qk .sub 192^qz 5 2^qz 6 128^qV 4 1))<|rs 22 (qm 4^qk .geq 224^ya^qm 4^qk .lss 240^zA 2)<|cd 27 (r1 28 (qm 4^qk .sub 224^qz 5 3^qz 6 2048^qV 4 1))<|rs 30 (qm 4^qk .geq 240^ya^qm 4^qk .lss 245^zA 2)<|cd 35 (r1 36 (qm 4^qk .sub 240^qz 5 4^qz 6 65536^qV 4 1)) .skip)<|i1 38 (qm 5^qk .eql 0^yo^qm 0^ge^qm 5^qq .lss 4^zO 2) 45 (rs 0 (qz 2 (-1)^qz 3 1) .ret)<|sq (rs 0 (qz 7 1)<|bk 0 l188_0)<|i1 69 (qm 4^qm 6^qq .lss 0^yo^qm 4^qk .gtr 1114111^zo 3^yo^qm 4^qk .geq 55296^ya^qm 4^qk .lss 57344^y0 7^qa 10^zO 7) 83 (rs 0 (qz 2 (-1)^qz 3 1) .ret)<|rs 84 (qm 4^qm 5^qw 2^qw 3) .ret
def F188:F:=mF 1 [.t 2,.t 3] none c188
def c189:C:=rs 0 (qF 2)<|rs 3 (qm 0^qk .gtr 32^ya^qm 0^qk .neq 127^za 2^ya^qm 0^qk .lss 128^yo^qm 0^qk .gtr 159^y1 6^qo 9^za 6^qv 2) .ret
def F189:F:=mF 1 [.t 2] none c189
def c191:C:=rs 0 (qF 4)<|rs 5 (qm 0^q1 (.bin .geq (.l 0) (.c (.int .i32 33)))^ya^qm 0^q1 (.bin .lss (.l 3) (.c (.int .i32 127)))^yo^qm 0^q1 (.bin .gtr (.l 6) (.c (.int .i32 159)))^y1 2^qo 5^za 2^ya^qm 0^q1 (.bin .neq (.l 11) (.c (.int .i32 65533)))^yo^qm 1^qk .eql 3^y1 10^qo 13^za 10^qv 4) .ret
def F191:F:=mF 2 [.t 4] none c191
def l192_0:C:=em (lq 9 (qm 0^q1 (.bin .neq (.l 0) (.c (.str [])))^ya^qm 1^q1 (.bin .neq (.l 3) (.c (.str [])))^zA 2) 14 0<|bk 1 (rs 16 (qm 0^qc 190^q2 15 (.mov (.l 1))^qx 0^qy 1^qw 5^qw 6)<|rs 21 (qm 1^qc 190^q2 20 (.mov (.l 1))^qx 0^qy 1^qw 7^qw 8)<|sq (bk 2 (rs 26 (qm 5^qm 7^qq .lss 0^qv 25)<|cd 25 (rs 0 (qz 4 (-1)) .ret)<|rs 30 (qm 5^qm 7^qq .gtr 0^qv 29)<|cd 29 (rs 0 (qz 4 1) .ret) .skip))<|r2 33 (qm 0^qm 6^q1 (.sl true 0 (.l 0) (some (.l 1)) none)^qm 1^qm 8^q1 (.sl true 0 (.l 3) (some (.l 4)) none)^qV 0 2^qw 1)))
def c192:C:=rs 0 (qz 4 0)<|sq (bk 0 l192_0)<|sq (bk 3 (rs 40 (qm 0^q1 (.bin .neq (.l 0) (.c (.str [])))^qv 39)<|cd 39 (rs 0 (qz 4 1) .ret)<|rs 43 (qm 1^q1 (.bin .neq (.l 0) (.c (.str [])))^qv 42)<|cd 42 (rs 0 (qz 4 (-1)) .ret) .skip))<|rs 0 (qz 4 0) .ret
def F192:F:=mF 2 [.t 4] none c192
def l195_0:C:=em (lq 6 (qm 0^ge^qK .gtr 0) 8 0<|bk 1 (rs 10 (qm 0^qc 188^q2 9 (.mov (.l 1))^qx 0^qy 1^qw 4^qw 5)<|i1 14 (qm 4^qK .lss 0) 15 (r1 0 (qz 4 65533))<|rs 16 (qm 3^qm 4^q1 (.mks 1 1 [.int .i64 0] [(0,.l 1)])^q1 (.app 3 1 (.l 0) (.l 2))^qv 3)<|r1 20 (qm 0^qm 5^q1 (.sl true 0 (.l 0) (some (.l 1)) none)^qv 0)))
def c195:C:=rs 0 (qS 2 1)<|rs 3 (q3 (.mko 1))<|sq (bk 0 l195_0)<|rs 23 (qm 3^qv 2) .ret
def F195:F:=mF 1 [.t 2] none c195
attribute [go_sem] c142 F142 c149 F149 c153 F153 c167 F167 c168 F168 c169 F169 c171 F171 c178 F178 c183 F183 c184 F184 c186 F186 c187 F187 c188 F188 c189 F189 c191 F191 c192 F192 c195 F195
def c3:C:=rs 0 (qB 3 1^qS 4 5^qz 5 0)<|sq (bk 0 (rs 7 (qm 0^qc 7^qn^yo^qb 3 5^qc 22^qn^zo 3^qv 6)<|cd 6 (rs 0 (qS 4 5^qz 5 1) .ret)<|rt 16 (qm 0^eq^qk .gtr 0^ya^qm 0^qm 0^eq^qk .sub 1^q1 (.iad 5 (.l 4) (.l 7))^qg 0^qJ 3^qR 3 0 3^qC 15 (ls [10,12])^qk .geq 0^za 3^qv 15)<|cd 15 (rs 0 (qS 4 5^qz 5 9) .ret)<|rs 33 (qm 0^eq^qk .eql 64^qv 32)<|cd 32 (rs 0 (qS 4 5^qz 5 6) .ret) .skip))<|rt 36 (qm 0^q1 (.call (.k 23) .no (some 0) [.l 0])^qb 3 5^q1 (.mks 5 1 z_2 [(0,.l 2)])^q1 (.app 37 5 (.l 1) (.l 3))^qv 4^qz 5 0) .ret
def F3:F:=mF 2 [.t 4,.t 5] none c3
def l4_0:C:=em (lq 7 (qm 3^qm 0^eq^qQ .lss 0) 10 0<|sq (bk 1 (i1 13 (qm 0^qm 3^qi 5^qJ 5^qc 5^qN) 18 (rs 0 (qF 2) .ret)<|rt 19 (qm 3^qk .gtr 0^ya^qm 0^qm 3^qk .sub 1^q1 (.iad 5 (.l 3) (.l 5))^qg 0^qJ 3^qm 0^qm 3^qi 5^qg 0^qJ 3^qC 6 (ls [8,13])^qn^zA 2)<|cd 35 (rs 0 (qF 2) .ret) .skip))<|r1 11 (qm 3^qk .add 1^qv 3))
def c4:C:=rs 0 (qF 2)<|i1 4 (qm 0^eq^qK .gtr 64) 6 (rs 0 (qF 2) .ret)<|sq (rs 0 (qz 3 0)<|bk 0 l4_0)<|rs 0 (qT 2) .ret
def F4:F:=mF 1 [.t 2] none c4
def c5:C:=rs 0 (qB 1 0^qF 2)<|i1 3 (qr 1 3^ya^qr 1 4^ge^qk .gtr 0^zA 2) 10 (rs 0 (qF 2) .ret)<|rs 11 (qR 1 0 3^qc 24^ya^qr 1 4^ge^qk .lss 17^za 3^qv 2) .ret
def F5:F:=mF 1 [.t 2] none c5
def c6:C:=rs 0 (qB 2 0^qB 3 1^qF 4)<|i1 5 (qr 2 0^qr 3 0^qQ .neq 1) 9 (rs 10 (qr 2 0^qr 3 0^qq .lss 1^qv 4) .ret)<|i1 15 (qr 2 1^qr 3 1^qQ .neq 1) 19 (rs 20 (qr 2 1^qr 3 1^qq .lss 1^qv 4) .ret)<|rs 25 (qr 2 2^qr 3 2^qq .lss 1^qv 4) .ret
def F6:F:=mF 2 [.t 4] none c6
def l7_0:C:=.loop [] [] [4] [] (rs 8 (q3 (.bin .lss (.g 7) (.g 6)))<|sq (cd 8 .skip<|.exit 0)<|sq (bk 1 (rs 9 (qm 7^q1 (.iad 5 (.g 5) (.g 7))^qJ 5^qG 4 z_2^qV 3 0^qs 4 5 3 2)<|rt 12 (qb 4 5^qc 22^qn^yo^qm 3^qk .gtr 0^ya^qm 0^qm 3^qk .sub 1^q1 (.iad 5 (.l 7) (.l 9))^qg 0^qJ 3^qR 4 0 3^qC 15 (ls [12,14])^qk .geq 0^y0 3^qa 6^zO 3)<|cd 30 (rs 0 (qF 2) .ret) .skip))<|r1 31 (q1 (.bin .add (.g 7) (ci 1))^qv 7))
def c7:C:=rs 0 (qF 2)<|sq (rs 5 (q3 (.mov (.g 0))^qH false^q3 (.mov (ci 0)))<|bk 0 l7_0)<|rs 32 (qm 0^eq^qk .leq 64^qv 2) .ret
def F7:F:=mF 1 [.t 2] none c7
def l8_0:C:=em (lq 11 (qm 5^qm 0^eq^qQ .lss 0) 14 0<|sq (bk 1 (rt 17 (qm 0^qm 5^qi 5^qJ 5^qm 1^qm 5^qi 5^qJ 5^q3 (.eqa true [.i,.i,.i,.b,.s] (.l 3) (.l 7)))<|cd 25 (rs 0 (qF 4) .ret) .skip))<|r1 15 (qm 5^qk .add 1^qv 5))
def c8:C:=rs 0 (qF 4)<|i1 6 (qm 0^eq^qm 1^eq^qQ .neq 1) 10 (rs 0 (qF 4) .ret)<|sq (rs 0 (qz 5 0)<|bk 0 l8_0)<|rs 0 (qT 4) .ret
def F8:F:=mF 2 [.t 4] none c8
def c10:C:=rs 0 (qB 3 1^qG 4 z_2^qF 5)<|i1 7 (qm 0^qc 7^qN) 9 (rs 10 (q1 (.build z_2 [])^qt 4 5 0^qF 5) .ret)<|rs 11 (qm 0^qb 3 3^qd 25^qv 6)<|i1 14 (qm 6^qK .eql 0) 15 (rs 16 (q1 (.build z_2 [])^qt 4 5 0^qF 5) .ret)<|rs 17 (qm 0^qm 6^qk .sub 1^q1 (.iad 5 (.l 0) (.l 2))^qJ 5^qt 4 5 4^qT 5) .ret
def F10:F:=mF 2 [.cell 4 (some 5),.t 5] none c10
def l11_0:C:=em (lq 10 (qm 8^qm 0^eq^qq .lss 0^ya^qm 0^qc 4^zA 4) 17 0<|sq (bk 1 (rt 20 (qb 3 3^qm 0^qm 8^qi 5^qg 0^qJ 3^qC 6 (ls [0,5])^qN)<|cd 27 (r1 28 (qm 0^qm 8^qi 5^qJ 5^qt 6 5 3^qT 7)) .skip))<|r1 18 (qm 8^qk .add 1^qv 8))
def c11:C:=rs 0 (qB 3 1^qG 4 z_2^qF 5)<|rs 9 (q1 (.build z_2 [])^qG 6 z_2^qs 6 5 1 0^qF 7)<|sq (rs 0 (qz 8 0)<|bk 0 l11_0)<|rs 32 (qb 6 5^qm 7^qt 4 5 0^qw 5) .ret
def F11:F:=mF 2 [.cell 4 (some 5),.t 5] none c11
def c12:C:=rs 0 (qB 3 1^qE 4^qF 5)<|rs 9 (qm 0^qb 3 3^qd 10^q2 8 (.mov (.l 2))^qx 0^qy 1^qG 6 z_2^qs 6 5 6 4^qV 7 5)<|rt 14 (qr 6 4^qm 7^ya^qr 6 3^qn^za 3^qV 4 1^qw 5) .ret
def F12:F:=mF 2 [.t 4,.t 5] none c12
def c13:C:=rs 0 (qB 3 1^qE 4^qF 5)<|rs 9 (qm 0^qb 3 3^qd 11^q2 8 (.mov (.l 2))^qx 0^qy 1^qG 6 z_2^qs 6 5 6 4^qV 7 5)<|i1 14 (qm 7^qn^yo^qr 6 3^zO 2) 19 (rs 0 (qE 4^qF 5) .ret)<|rs 20 (qr 6 4^qv 4^qT 5) .ret
def F13:F:=mF 2 [.t 4,.t 5] none c13
def c15:C:=rs 0 (qB 2 0^qB 3 1^qz 4 0)<|rt 5 (qr 2 0^qr 3 0^qC 26 (ls [1,3])^qr 2 1^qr 3 1^qC 26 (ls [6,8])^qr 2 2^qr 3 2^qC 26 (ls [11,13])^q1 (.mks 1 3 [.int .i64 0] [(0,.l 4),(1,.l 9),(2,.l 14)])^qc 27^qv 4) .ret
def F15:F:=mF 2 [.t 4] none c15
def c17:C:=rs 0 (qB 3 1^qS 4 5)<|i1 6 (qm 0^qc 7^qN) 8 (rs 0 (qS 4 5) .ret)<|rs 9 (qm 0^qb 3 3^qd 25^qv 5)<|i1 12 (qm 5^qk .gtr 0^ya^qm 0^qm 5^qk .sub 1^q1 (.iad 5 (.l 3) (.l 5))^qg 3^qj^qn^zA 2) 22 (r1 23 (qm 5^qk .sub 1^qv 5))<|rs 25 (qm 0^qm 5^q1 (.sl false 5 (.l 0) (some (.l 1)) none)^qc 23^qv 4) .ret
def F17:F:=mF 2 [.t 4] none c17
def l18_0:C:=em (lq 15 (qm 8^qm 0^eq^qQ .lss 0) 18 0<|sq (bk 1 (i2 21 (qm 6^ya^qm 0^qm 8^qi 5^qg 0^qJ 3^qR 5 0 3^qC 6 (ls [6,8])^yo^qr 5 3^ya^qm 0^qm 8^qi 5^qg 0^qJ 3^qR 5 0 3^q1 (.eqa false [.i,.i,.i] (.l 18) (.l 20))^y0 10^qa 13^y1 1^qo 10^zA 1) 45 (.exit 1)<|r1 46 (qm 7^qm 0^qm 8^qi 5^qJ 5^q1 (.mks 5 1 z_2 [(0,.l 4)])^q1 (.app 7 5 (.l 0) (.l 5))^qv 7)))<|r1 19 (qm 8^qk .add 1^qv 8))
def c18:C:=rs 0 (qB 3 1^qS 4 5)<|rs 10 (qm 0^qb 3 3^qd 11^q2 9 (.mov (.l 2))^qx 0^qy 1^qG 5 z_2^qs 5 5 6 4^qV 6 5)<|rs 7 (q3 (.mko 5))<|sq (rs 0 (qz 8 0)<|bk 0 l18_0)<|rs 53 (qm 7^qv 4) .ret
def F18:F:=mF 2 [.t 4] none c18
def c21:C:=rs 0 (qB 2 0^qB 3 1^qG 4 z_3)<|i1 5 (qb 2 3^qb 3 3^qd 15^qK .lss 0) 8 (rs 9 (qb 3 3^qt 4 3 0) .ret)<|rs 10 (qb 2 3^qt 4 3 0) .ret
def F21:F:=mF 2 [.cell 4 (some 3)] none c21
def c22:C:=rs 0 (qB 1 0^qF 2)<|rs 3 (qR 1 0 3^qc 28^ya^qr 1 4^ge^qk .leq 16^za 3^ya^qr 1 3^qn^yo^qr 1 4^q1 (.bin .eql (.l 15) (.c (.str [])))^y1 9^qo 13^za 9^qv 2) .ret
def F22:F:=mF 1 [.t 2] none c22
def c24:C:=rs 0 (qB 1 0^qF 2)<|rs 3 (qr 1 0^qk .geq 0^ya^qr 1 0^qk .leq 1099511627776^za 3^ya^qr 1 1^qk .geq 0^za 8^ya^qr 1 1^qk .leq 1048576^za 13^ya^qr 1 2^qk .geq 0^za 18^ya^qr 1 2^qk .leq 255^za 23^qv 2) .ret
def F24:F:=mF 1 [.t 2] none c24
def c25:C:=rs 0 (qB 3 1^qz 4 0)<|rs 8 (qm 0^qb 3 3^qC 29 [.l 0,.l 1,.f 30]^q2 7 (.mov (.l 2))^qx 0^qy 1^qw 5^qw 6)<|i1 13 (q3 (.mov (.g 6))) 13 (r1 14 (qm 5^qk .add 1^qv 5))<|rs 16 (qm 5^qv 4) .ret
def F25:F:=mF 2 [.t 4] none c25
def c26:C:=rs 0 (qz 4 0)<|rs 7 (qm 0^qc 31^qv 5)<|rs 9 (qm 1^qc 31^qv 6)<|i1 11 (q3 (.mov (.g 5))) 11 (i1 12 (q3 (.mov (.g 6))) 12 (rs 0 (qz 4 0) .ret)<|rs 0 (qz 4 (-1)) .ret)<|i1 13 (q3 (.mov (.g 6))) 13 (rs 0 (qz 4 1) .ret)<|i1 14 (qm 0^qm 1^qQ .lss 0) 16 (rs 0 (qz 4 (-1)) .ret)<|i1 17 (qm 0^qm 1^qQ .gtr 0) 19 (rs 0 (qz 4 1) .ret)<|rs 0 (qz 4 0) .ret
def F26:F:=mF 2 [.t 4] none c26
def l27_0:C:=em (rs 9 (q3 (.bin .lss (.g 8) (.g 7)))<|sq (cd 9 .skip<|.exit 0)<|sq (bk 1 (rs 10 (q1 (.iad 1 (.g 6) (.g 8))^qj^qv 5)<|rs 12 (qm 5^qm 3^qQ .neq 0)<|cd 14 (rs 15 (qm 5^qv 2) .ret) .skip))<|r1 16 (q1 (.bin .add (.g 8) (ci 1))^qv 8))
def c27:C:=rs 0 (qz 2 0)<|rs 0 (qz 3 0)<|sq (rs 6 (q3 (.mov (.g 0))^qH false^q3 (.mov (ci 0)))<|bk 0 l27_0)<|rs 17 (qm 3^qv 2) .ret
def F27:F:=mF 1 [.t 2] none c27
def c28:C:=rs 0 (qB 1 0^qF 2)<|rs 3 (qr 1 0^qC 32 [.l 1,ci 1099511627776]^ya^qr 1 1^qC 32 [.l 5,ci 1048576]^za 3^ya^qr 1 2^qC 32 [.l 10,ci 255]^za 8^qv 2) .ret
def F28:F:=mF 1 [.t 2] none c28
def l29_0:C:=em (lq 15 (qm 9^qm 10^qQ .lss 0) 17 0<|bk 1 (rs 18 (qm 9^qm 10^qq .add 0^q1 (.conv (.int .u64) (.l 2))^q1 (.sh .shr (.l 3) (.c (.int .u64 1)))^q1 (.conv (.int .i64) (.l 4))^qv 11)<|rt 24 (qm 2^qm 0^qm 11^qi 5^qJ 5^qb 4 3^q1 (.call (.v (.l 0)) .no none [.l 4,.l 5])^qK .lss 0)<|cd 31 (r1 32 (qm 11^qk .add 1^qv 9))<|r1 34 (qm 11^qv 10)))
def c29:C:=rs 0 (qB 4 1^qz 6 0^qF 7)<|rs 12 (qm 0^eq^qv 8)<|rs 14 (qm 8^qz 9 0^qw 10)<|sq (bk 0 l29_0)<|rt 35 (qm 9^qm 9^qm 8^qq .lss 1^ya^qm 2^qm 0^qm 9^qi 5^qJ 5^qb 4 3^q1 (.call (.v (.l 5)) .no none [.l 9,.l 10])^qk .eql 0^za 4^qV 6 0^qw 7) .ret
def F29:F:=mF 3 [.t 6,.t 7] none c29
def c30:C:=rs 0 (qB 2 0^qB 3 1^qz 4 0)<|rs 5 (qR 2 0 3^qb 3 3^qd 15^qv 4) .ret
def F30:F:=mF 2 [.t 4] none c30
def c31:C:=rs 0 (qF 2)<|rs 3 (qm 0^qm 0^qq .neq 0^qv 2) .ret
def F31:F:=mF 1 [.t 2] none c31
def c32:C:=rs 0 (qF 4)<|rs 5 (qm 0^qk .geq 0^ya^qm 0^qm 1^qq .leq 3^za 2^qv 4) .ret
def F32:F:=mF 2 [.t 4] none c32
attribute [go_sem] c3 F3 c4 F4 c5 F5 c6 F6 c7 F7 c8 F8 c10 F10 c11 F11 c12 F12 c13 F13 c15 F15 c17 F17 c18 F18 c21 F21 c22 F22 c24 F24 c25 F25 c26 F26 c27 F27 c28 F28 c29 F29 c30 F30 c31 F31 c32 F32
def l78_0:C:=em (lq 7 (qm 3^qm 0^eq^qQ .lss 0) 10 0<|sq (bk 1 (rs 13 (qm 0^qm 3^qi 11^qg 2^qg 6^qj^eq^qK .gtr 100)<|cd 20 (rs 0 (qF 2) .ret) .skip))<|r1 11 (qm 3^qk .add 1^qv 3))
def c78:C:=rs 0 (qF 2)<|i1 4 (qm 0^eq^qK .gtr 40) 6 (rs 0 (qF 2) .ret)<|sq (rs 0 (qz 3 0)<|bk 0 l78_0)<|rs 0 (qT 2) .ret
def F78:F:=mF 1 [.t 2] none c78
def l80_0:C:=em (lq 7 (qm 3^qm 0^eq^qQ .lss 0) 10 0<|sq (bk 1 (i1 13 (qm 0^qm 3^qi 11^qg 0^qj^qc 95^qn^yo^qm 0^qm 3^qi 11^qg 1^qj^qc 95^qn^zo 7^yo^qm 0^qm 3^qi 11^qg 2^qJ 9^qc 96^qn^zO 16) 37 (rs 0 (qF 2) .ret)<|rt 38 (qm 3^qk .gtr 0^ya^qm 0^qm 3^qk .sub 1^q1 (.iad 11 (.l 3) (.l 5))^qg 0^qj^qm 0^qm 3^qi 11^qg 0^qj^qq .geq 8^zA 2)<|cd 53 (rs 0 (qF 2) .ret) .skip))<|r1 11 (qm 3^qk .add 1^qv 3))
def c80:C:=rs 0 (qF 2)<|i1 4 (qm 0^eq^qK .gtr 8) 6 (rs 0 (qF 2) .ret)<|sq (rs 0 (qz 3 0)<|bk 0 l80_0)<|rs 0 (qT 2) .ret
def F80:F:=mF 1 [.t 2] none c80
def l81_0:C:=.loop [] [] [5] [] (rs 9 (q3 (.bin .lss (.g 8) (.g 7)))<|sq (cd 9 .skip<|.exit 0)<|sq (bk 1 (rs 10 (q1 (.iad 11 (.g 6) (.g 8))^qJ 11^qG 5 z_4^qs 5 11 2 1)<|i1 12 (qr 5 0^qm 3^qq .leq 1^yo^qr 5 0^qc 97^qn^zo 4^yo^qr 5 1^qc 97^qn^zo 10^yo^qR 5 2 9^qc 98^qn^zO 16) 33 (rs 0 (qF 2) .ret)<|r1 34 (qr 5 0^qv 3)))<|r1 36 (q1 (.bin .add (.g 8) (ci 1))^qv 8))
def c81:C:=rs 0 (qF 2)<|rs 0 (qz 3 0)<|sq (rs 6 (q3 (.mov (.g 0))^qH false^q3 (.mov (ci 0)))<|bk 0 l81_0)<|rs 37 (qm 0^eq^qk .leq 8^qv 2) .ret
def F81:F:=mF 1 [.t 2] none c81
def c82:C:=rs 0 (qz 6 0)<|i1 9 (qm 0^qc 81^qn^yo^qm 1^qc 97^qn^zo 3^yo^qm 2^qc 97^qn^zO 8) 21 (rs 0 (qz 6 0) .ret)<|rs 23 (qm 0^qm 1^qd 84^q2 22 (.mov (.l 2))^qx 0^qy 1^qG 7 z_4^qs 7 11 6 4^qV 8 5)<|sq (bk 0 (rs 29 (qm 8^qn^yo^qm 2^qr 7 1^qq .gtr 3^zo 2^qv 28)<|cd 28 (rs 0 (qz 6 1) .ret)<|rs 38 (qm 2^qr 7 1^qq .eql 0^qv 37)<|cd 37 (rs 0 (qz 6 2) .ret) .skip))<|rs 0 (qz 6 3) .ret
def F82:F:=mF 3 [.t 6] none c82
def c84:C:=rs 0 (qG 4 z_4^qF 5)<|i1 8 (qm 0^qc 81^qN) 10 (rs 11 (q1 (.build z_4 [])^qt 4 11 0^qF 5) .ret)<|rs 13 (qm 0^qm 1^qd 100^q2 12 (.mov (.l 2))^qx 0^qy 1^qw 6^qw 7)<|i1 18 (qm 7^qN) 19 (rs 20 (q1 (.build z_4 [])^qt 4 11 0^qF 5) .ret)<|rs 21 (qm 0^qm 6^qi 11^qJ 11^qt 4 11 3^qT 5) .ret
def F84:F:=mF 2 [.cell 4 (some 11),.t 5] none c84
def l85_0:C:=em (lq 7 (qm 6^qm 0^eq^qQ .lss 0) 10 0<|sq (bk 1 (rs 13 (qm 0^qm 6^qi 11^qg 0^qj^qm 1^qQ .eql 4)<|cd 19 (rs 20 (qm 0^qm 6^qi 11^qJ 11^qt 4 11 3^qT 5) .ret) .skip))<|r1 11 (qm 6^qk .add 1^qv 6))
def c85:C:=rs 0 (qG 4 z_4^qF 5)<|sq (rs 0 (qz 6 0)<|bk 0 l85_0)<|rs 24 (q1 (.build z_4 [])^qt 4 11 0^qF 5) .ret
def F85:F:=mF 2 [.cell 4 (some 11),.t 5] none c85
def l86_0:C:=em (lq 11 (qm 5^qm 0^eq^qQ .lss 0) 14 0<|sq (bk 1 (rt 17 (qm 0^qm 5^qi 11^qg 0^qj^qm 1^qm 5^qi 11^qg 0^qj^qq .neq 4^yo^qm 0^qm 5^qi 11^qg 1^qj^qm 1^qm 5^qi 11^qg 1^qj^qq .neq 16^zo 11^yo^qm 0^qm 5^qi 11^qg 2^qJ 9^qm 1^qm 5^qi 11^qg 2^qJ 9^qC 101 (ls [29,34])^qn^zO 24)<|cd 54 (rs 0 (qF 4) .ret) .skip))<|r1 15 (qm 5^qk .add 1^qv 5))
def c86:C:=rs 0 (qF 4)<|i1 6 (qm 0^eq^qm 1^eq^qQ .neq 1) 10 (rs 0 (qF 4) .ret)<|sq (rs 0 (qz 5 0)<|bk 0 l86_0)<|rs 0 (qT 4) .ret
def F86:F:=mF 2 [.t 4] none c86
def c88:C:=rs 0 (qB 3 1^qS 4 11^qz 5 0)<|i1 9 (qm 0^qc 81^qn^yo^qb 3 11^q1 (.mks 11 1 z_4 [(0,.l 4)])^qc 81^qn^zO 3) 17 (rs 0 (qS 4 11^qz 5 1) .ret)<|rs 19 (qm 0^qr 3 0^qC 100 (ls [0,2])^q2 18 (.mov (.l 3))^qx 0^qy 1^qw 6^qw 7)<|sq (bk 0 (rt 26 (qm 7^ya^qm 0^qm 6^qi 11^qg 1^qj^qr 3 1^qq .geq 6^za 1^qv 25)<|cd 25 (rs 0 (qS 4 11^qz 5 9) .ret)<|rs 38 (qm 7^qn^ya^qm 0^eq^qk .eql 8^za 2^qv 37)<|cd 37 (rs 0 (qS 4 11^qz 5 6) .ret) .skip))<|rs 45 (qm 0^q1 (.call (.k 102) .no (some 0) [.l 0])^qv 8)<|i1 47 (q3 (.mov (.g 7))) 47 (rs 48 (qm 8^qm 6^qb 3 11^q1 (.iad 11 (.l 0) (.l 1))^q5 (.store (.e 46) 11 (.l 3) (.l 2)))<|rs 52 (qm 8^qv 4^qz 5 0) .ret)<|rs 53 (qm 8^qm 6^qb 3 11^q1 (.mks 11 1 z_4 [(0,.l 2)])^q1 (.ins 103 46 11 (.l 0) (.l 1) (.l 3))^qv 4^qz 5 0) .ret
def F88:F:=mF 2 [.t 4,.t 5] none c88
def c89:C:=rs 0 (qB 3 1^qS 4 11^qz 5 0)<|i1 7 (qm 0^qc 80^qn^yo^qb 3 11^q1 (.mks 11 1 z_4 [(0,.l 4)])^qc 80^qn^zO 3) 15 (rs 0 (qS 4 11^qz 5 1) .ret)<|i2 16 (qm 0^qr 3 0^qC 99 (ls [0,2])^qr 3 1^qQ .geq 3) 22 (rs 0 (qS 4 11^qz 5 9) .ret)<|rs 23 (qb 3 11^q1 (.mkb 11 1 z_4 [(0,.l 0)])^qm 0^q1 (.app 24 11 (.l 1) (.l 2))^q1 (.call (.k 104) .freeze none [.l 3])^qv 6)<|i1 28 (qm 6^eq^qK .gtr 8) 30 (rs 0 (qS 4 11^qz 5 6) .ret)<|rs 31 (qm 6^qv 4^qz 5 0) .ret
def F89:F:=mF 2 [.t 4,.t 5] none c89
def l91_0:C:=em (lq 15 (qm 0^eq^qk .gtr 0^yo^qm 1^eq^qk .gtr 0^zO 3) 22 0<|bk 1 (bk 2 (rt 34 (qm 1^eq^qk .eql 0^yo^qm 0^eq^qk .gtr 0^ya^qm 0^q1 (.iad 11 (.l 8) (ci 0))^qg 0^qj^qm 1^q1 (.iad 11 (.l 12) (ci 0))^qg 0^qj^qq .lss 11^y0 3^qa 7^zo 3^qv 33)<|cd 33 (r2 53 (qm 6^qm 0^q1 (.iad 11 (.l 1) (ci 0))^qJ 11^q1 (.mks 11 1 z_4 [(0,.l 3)])^q1 (.app 6 11 (.l 0) (.l 4))^qm 0^q1 (.sl false 11 (.l 6) (some (ci 1)) none)^qV 6 5^qw 0))<|rt 62 (qm 0^eq^qk .eql 0^yo^qm 1^q1 (.iad 11 (.l 4) (ci 0))^qg 0^qj^qm 0^q1 (.iad 11 (.l 8) (ci 0))^qg 0^qj^qq .lss 7^zo 3^qv 61)<|cd 61 (r2 76 (qm 6^qm 1^q1 (.iad 11 (.l 1) (ci 0))^qJ 11^q1 (.mks 11 1 z_4 [(0,.l 3)])^q1 (.app 6 11 (.l 0) (.l 4))^qm 1^q1 (.sl false 11 (.l 6) (some (ci 1)) none)^qV 6 5^qw 1))<|rt 85 (qm 0^q1 (.iad 11 (.l 0) (ci 0))^qg 1^qj^qm 1^q1 (.iad 11 (.l 4) (ci 0))^qg 1^qj^qq .geq 3^qv 84)<|cd 84 (r2 94 (qm 6^qm 0^q1 (.iad 11 (.l 1) (ci 0))^qJ 11^q1 (.mks 11 1 z_4 [(0,.l 3)])^q1 (.app 6 11 (.l 0) (.l 4))^qm 0^q1 (.sl false 11 (.l 6) (some (ci 1)) none)^qm 1^q1 (.sl false 11 (.l 8) (some (ci 1)) none)^qV 6 5^qV 0 7^qV 1 9))<|r2 23 (qm 6^qm 1^q1 (.iad 11 (.l 1) (ci 0))^qJ 11^q1 (.mks 11 1 z_4 [(0,.l 3)])^q1 (.app 6 11 (.l 0) (.l 4))^qm 0^q1 (.sl false 11 (.l 6) (some (ci 1)) none)^qm 1^q1 (.sl false 11 (.l 8) (some (ci 1)) none)^qV 6 5^qV 0 7^qV 1 9))))
def c91:C:=rs 0 (qS 4 11^qz 5 0)<|i1 7 (qm 0^qc 81^qn^yo^qm 1^qc 81^qn^zO 3) 14 (rs 0 (qS 4 11^qz 5 1) .ret)<|rs 6 (q3 (.mko 11))<|sq (bk 0 l91_0)<|i1 104 (qm 6^eq^qK .gtr 8) 106 (rs 0 (qS 4 11^qz 5 6) .ret)<|rs 107 (qm 6^qv 4^qz 5 0) .ret
def F91:F:=mF 2 [.t 4,.t 5] none c91
def l92_0:C:=em (lq 17 (qm 7^qm 0^eq^qQ .lss 0) 20 0<|sq (bk 1 (rt 23 (qm 1^qm 0^qm 7^qi 11^qg 0^qj^qC 99 (ls [0,5])^qm 0^qm 7^qi 11^qg 1^qj^qQ .leq 6)<|cd 35 (r1 36 (qm 6^qm 0^qm 7^qi 11^qJ 11^q1 (.mks 11 1 z_4 [(0,.l 4)])^q1 (.app 6 11 (.l 0) (.l 5))^qv 6)) .skip))<|r1 21 (qm 7^qk .add 1^qv 7))
def l92_1:C:=em (lq 43 (qm 8^qm 1^eq^qQ .lss 0) 46 2<|sq (bk 3 (rt 49 (qm 0^qm 1^qm 8^qi 11^qg 0^qj^qC 99 (ls [0,5])^qm 1^qm 8^qi 11^qg 1^qj^qQ .lss 6)<|cd 61 (r1 62 (qm 6^qm 1^qm 8^qi 11^qJ 11^q1 (.mks 11 1 z_4 [(0,.l 4)])^q1 (.app 6 11 (.l 0) (.l 5))^qv 6)) .skip))<|r1 47 (qm 8^qk .add 1^qv 8))
def c92:C:=rs 0 (qS 4 11^qz 5 0)<|i1 9 (qm 0^qc 80^qn^yo^qm 1^qc 80^qn^zO 3) 16 (rs 0 (qS 4 11^qz 5 1) .ret)<|rs 6 (q3 (.mko 11))<|sq (rs 0 (qz 7 0)<|bk 0 l92_0)<|sq (rs 0 (qz 8 0)<|bk 2 l92_1)<|i1 69 (qm 6^eq^qK .gtr 8) 71 (rs 0 (qS 4 11^qz 5 6) .ret)<|rs 72 (qm 6^q1 (.call (.k 104) .freeze none [.l 0])^qv 4^qz 5 0) .ret
def F92:F:=mF 2 [.t 4,.t 5] none c92
def c95:C:=rs 0 (qF 2)<|rs 3 (qm 0^qk .gtr 0^ya^qm 0^qk .leq 1099511627776^za 2^qv 2) .ret
def F95:F:=mF 1 [.t 2] none c95
def c96:C:=rs 0 (qB 1 0^qF 2)<|i1 3 (qr 1 0^qk .lss 0^yo^qr 1 0^qk .gtr 16^zo 3^yo^qr 1 5^ge^qk .gtr 16^zo 8^yo^qr 1 6^eq^qk .gtr 0^zo 14^yo^qr 1 7^ge^qk .gtr 0^zo 20^yo^qr 1 8^zO 26) 32 (rs 0 (qF 2) .ret)<|rs 33 (qR 1 1 3^qc 24^qv 2) .ret
def F96:F:=mF 1 [.t 2] none c96
def c97:C:=rs 0 (qF 2)<|rs 3 (qm 0^qk .geq 1^ya^qm 0^qk .leq 1099511627776^za 2^qv 2) .ret
def F97:F:=mF 1 [.t 2] none c97
def c98:C:=rs 0 (qB 1 0^qF 2)<|rs 3 (qr 1 0^qk .geq 0^ya^qr 1 0^qk .leq 16^za 3^ya^qR 1 1 3^qc 28^za 8^ya^qr 1 5^ge^qk .leq 16^za 13^ya^qr 1 6^eq^qk .eql 0^za 19^ya^qr 1 7^q1 (.bin .eql (.l 27) (.c (.str [])))^za 25^ya^qr 1 8^qn^za 30^qv 2) .ret
def F98:F:=mF 1 [.t 2] none c98
def l99_0:C:=em (lq 6 (qm 5^qm 0^eq^qQ .lss 0) 9 0<|sq (bk 1 (rs 12 (qm 0^qm 5^qi 11^qg 0^qj^qm 1^qQ .eql 4)<|cd 18 (rs 19 (qm 0^qm 5^qi 11^qg 1^qj^qv 4) .ret) .skip))<|r1 10 (qm 5^qk .add 1^qv 5))
def c99:C:=rs 0 (qz 4 0)<|sq (rs 0 (qz 5 0)<|bk 0 l99_0)<|rs 0 (qz 4 0) .ret
def F99:F:=mF 2 [.t 4] none c99
def c100:C:=rs 0 (qB 3 1^qz 4 0^qF 5)<|rs 7 (qm 0^q1 (.fn 105 [.g 3] [3])^qd 106^qv 6)<|i1 10 (qm 6^qK .lss 0) 11 (rs 12 (qm 0^eq^qv 4^qF 5) .ret)<|rt 14 (qm 6^qm 0^qm 6^qi 11^qg 0^qj^q1 (.load (.v 3) none (.g 3))^qq .eql 5^qV 4 0^qw 5) .ret
def F100:F:=mF 2 [.t 4,.t 5] none c100
def l101_0:C:=em (lq 13 (qm 5^qr 2 6^eq^qQ .lss 0) 17 0<|sq (bk 1 (rt 20 (qr 2 6^qm 5^qi 2^qJ 2^qr 3 6^qm 5^qi 2^qJ 2^q3 (.eqa true [.s,.s] (.l 4) (.l 9)))<|cd 30 (rs 0 (qF 4) .ret) .skip))<|r1 18 (qm 5^qk .add 1^qv 5))
def c101:C:=rs 0 (qB 2 0^qB 3 1^qF 4)<|i1 6 (qr 2 6^eq^qr 3 6^eq^qQ .neq 2) 12 (rs 0 (qF 4) .ret)<|sq (rs 0 (qz 5 0)<|bk 0 l101_0)<|rs 31 (qr 2 0^qr 3 0^qq .eql 1^ya^qR 2 1 3^qR 3 1 3^q1 (.eqa false [.i,.i,.i] (.l 7) (.l 9))^za 5^ya^qr 2 4^qr 3 4^q1 (.eqb false (.l 14) (.l 16))^za 12^ya^qr 2 5^qr 3 5^qq .eql 21^za 19^ya^qr 2 7^qr 3 7^qq .eql 28^za 26^ya^qr 2 8^qr 3 8^q1 (.eqb false (.l 35) (.l 37))^za 33^qv 4) .ret
def F101:F:=mF 2 [.t 4] none c101
def l104_1:C:=em (lq 6 (qm 5^qm 0^eq^qQ .lss 0) 9 2<|sq (bk 3 (rt 12 (qm 3^eq^qk .eql 0^yo^qm 0^qm 5^qi 11^qg 0^qj^qm 3^qm 3^eq^qk .sub 1^q1 (.iad 11 (.l 9) (.l 12))^qg 0^q1 (.load (.e 3) none (.l 14))^qq .gtr 8^zo 3^ya^qm 4^qk .lss 0^yo^qm 0^qm 5^qi 11^qg 0^qj^qm 0^qm 4^qi 11^qg 0^qj^qq .lss 26^y1 18^qo 21^zA 18)<|cd 46 (r1 47 (qm 5^qv 4)) .skip))<|r1 10 (qm 5^qk .add 1^qv 5))
def l104_0:C:=em (bk 1 (rs 0 (qz 4 (-1))<|sq (rs 0 (qz 5 0)<|bk 2 l104_1)<|i1 48 (qm 4^qK .lss 0) 49 (rs 50 (qm 3^qv 2) .ret)<|r1 51 (qm 3^qm 0^qm 4^qi 11^qJ 11^q1 (.mks 11 1 z_4 [(0,.l 4)])^q1 (.app 3 11 (.l 0) (.l 5))^qv 3)))
def c104:C:=rs 0 (qS 2 11)<|rs 3 (q3 (.mko 11))<|bk 0 l104_0
def F104:F:=mF 1 [.t 2] none c104
def c105:C:=rs 0 (qB 2 0^qF 3)<|rs 4 (qr 2 0^q1 (.load (.c) none (.g 1))^qq .geq 1^qv 3) .ret
def F105:F:=mF 2 [.t 3] none c105
def l106_0:C:=em (rs 9 (q3 (.bin .lss (.g 8) (.g 7)))<|sq (cd 9 .skip<|.exit 0)<|sq (bk 1 (rs 10 (qm 8^qv 5)<|rs 11 (qm 1^qm 0^qm 5^qi 11^qJ 11^q3 (.call (.v (.l 0)) .no none [.l 4]))<|cd 16 (rs 17 (qm 5^qv 4) .ret) .skip))<|r1 18 (q1 (.bin .add (.g 8) (ci 1))^qv 8))
def c106:C:=rs 0 (qz 4 0)<|sq (rs 6 (qm 0^qH false^q3 (.mov (ci 0)))<|bk 0 l106_0)<|rs 0 (qz 4 (-1)) .ret
def F106:F:=mF 2 [.t 4] none c106
attribute [go_sem] c78 F78 c80 F80 c81 F81 c82 F82 c84 F84 c85 F85 c86 F86 c88 F88 c89 F89 c91 F91 c92 F92 c95 F95 c96 F96 c97 F97 c98 F98 c99 F99 c100 F100 c101 F101 c104 F104 c105 F105 c106 F106
def l37_0:C:=em (lq 46 (qm 3^qr 1 6^eq^qQ .lss 0) 50 0<|sq (bk 1 (rt 53 (qr 1 2^qr 1 6^qm 3^qi 1^qj^qC 62 (ls [1,6])^qN)<|cd 61 (rs 0 (qF 2) .ret) .skip))<|r1 51 (qm 3^qk .add 1^qv 3))
def c37:C:=rs 0 (qB 1 0^qF 2)<|i1 4 (qr 1 0^qk .lss 1^yo^qr 1 0^qk .gtr 255^zo 3^yo^qr 1 1^qk .neq 0^ya^qr 1 1^qc 60^qn^y0 8^qa 12^zo 8^yo^qr 1 3^qk .neq 0^ya^qr 1 3^qc 60^qn^y0 19^qa 23^zo 19^yo^qr 1 2^qc 61^qn^zo 30^yo^qr 1 6^qc 61^qn^zO 36) 45 (rs 0 (qF 2) .ret)<|sq (rs 0 (qz 3 0)<|bk 0 l37_0)<|i1 62 (qr 1 2^eq^qk .gtr 0^ya^qr 1 2^qr 1 0^qC 62 (ls [6,8])^qn^zA 4) 73 (rs 0 (qF 2) .ret)<|i1 74 (qb 1 7^qc 38^qN) 76 (rs 77 (qr 1 6^eq^qk .eql 0^ya^qr 1 4^qr 1 5^qq .eql 6^za 4^qv 2) .ret)<|i1 88 (qr 1 6^qr 1 0^qC 62 (ls [1,3])^qN) 93 (rs 0 (qF 2) .ret)<|rs 94 (qb 1 7^qc 42^qn^yo^qr 1 4^qr 1 5^qq .eql 5^zo 3^qv 2) .ret
def F37:F:=mF 1 [.t 2] none c37
def c38:C:=rs 0 (qB 1 0^qF 2)<|rt 3 (qr 1 2^eq^qk .gtr 0^ya^qr 1 2^q1 (.iad 1 (.l 6) (ci 0))^qj^qr 1 0^qq .eql 8^za 4^qv 2) .ret
def F38:F:=mF 1 [.t 2] none c38
def c39:C:=rs 0 (qB 1 0^qF 2)<|i1 3 (qr 1 0^qk .lss 1^yo^qr 1 0^qk .gtr 255^zo 3^yo^qr 1 1^qC 63 [.l 10,ci 0]^qn^zo 8^yo^qr 1 3^qC 63 [.l 16,ci 0]^qn^zo 14^yo^qr 1 2^qc 64^qn^zo 20^yo^qr 1 6^qc 64^qn^zO 26) 34 (rs 0 (qF 2) .ret)<|i1 35 (qr 1 2^eq^qk .gtr 0^ya^qr 1 2^qr 1 0^qC 65 (ls [6,8])^qn^zA 4) 46 (rs 0 (qF 2) .ret)<|i1 47 (qr 1 6^q1 (.fn 66 [.g 1] [1])^q3 (.call (.k 67) .no none [.l 1,.l 2])) 50 (rs 0 (qF 2) .ret)<|i1 51 (qb 1 7^qc 68^qN) 53 (rs 54 (qr 1 6^eq^qk .eql 0^ya^qr 1 4^qr 1 5^qq .eql 6^za 4^qv 2) .ret)<|rs 65 (qr 1 6^qr 1 0^qC 65 (ls [1,3])^ya^qr 1 6^eq^qr 1 2^eq^qq .lss 8^yo^qr 1 4^qr 1 5^qq .eql 15^y1 5^qo 13^za 5^qv 2) .ret
def F39:F:=mF 1 [.t 2] none c39
def c40:C:=rs 0 (qB 1 0^qF 2)<|rs 3 (qb 1 7^qc 39^ya^qb 1 7^qc 68^za 2^qv 2) .ret
def F40:F:=mF 1 [.t 2] none c40
def c41:C:=rs 0 (qB 1 0^qF 2)<|rs 3 (qb 1 7^qc 40^ya^qr 1 6^eq^qr 1 2^eq^qq .lss 5^za 2^qv 2) .ret
def F41:F:=mF 1 [.t 2] none c41
def l42_0:C:=em (lq 4 (qm 3^qr 1 2^eq^qQ .lss 0) 8 0<|sq (bk 1 (rt 11 (qr 1 6^qr 1 2^qm 3^qi 1^qj^qC 62 (ls [1,6])^qN)<|cd 19 (rs 0 (qF 2) .ret) .skip))<|r1 9 (qm 3^qk .add 1^qv 3))
def c42:C:=rs 0 (qB 1 0^qF 2)<|sq (rs 0 (qz 3 0)<|bk 0 l42_0)<|rs 0 (qT 2) .ret
def F42:F:=mF 1 [.t 2] none c42
def c43:C:=rs 0 (qG 6 z_5^qz 7 0)<|rs 9 (qm 0^qm 1^qc 69^qm 2^qm 2^q1 (.build z_5 [(0,1,.l 0),(1,1,.c (.int .i64 1)),(2,1,.l 2),(3,1,.c (.int .i64 1)),(4,1,.l 3),(5,1,.l 4)])^qG 8 z_5^qs 8 7 6 5)<|i1 15 (qb 8 7^q3 (.call (.k 68) .no none [.l 0])) 16 (r1 17 (qm 1^qc 69^qf 8 6^qs 8 1 2 1))<|i1 20 (qm 1^eq^qk .eql 0^yo^qb 8 7^qc 39^qn^zO 3) 27 (rs 28 (q1 (.build z_5 [])^qt 6 7 0^qz 7 1) .ret)<|rs 29 (qb 8 7^qt 6 7 0^qz 7 0) .ret
def F43:F:=mF 3 [.cell 6 (some 7),.t 7] none c43
def c45:C:=rs 0 (qB 2 0^qB 3 1^qF 4)<|rs 5 (qr 2 0^qr 3 0^qq .eql 1^ya^qr 2 1^qr 3 1^qq .eql 7^za 5^ya^qr 2 2^qr 3 2^qC 70 (ls [14,16])^za 12^ya^qr 2 3^qr 3 3^qq .eql 21^za 19^ya^qr 2 4^qr 3 4^qq .eql 28^za 26^ya^qr 2 5^qr 3 5^qq .eql 35^za 33^ya^qr 2 6^qr 3 6^qC 70 (ls [42,44])^za 40^qv 4) .ret
def F45:F:=mF 2 [.t 4] none c45
def c47:C:=rs 0 (qB 2 0^qG 4 z_5^qS 5 7^qz 6 0)<|sq (bk 0 (rs 8 (qb 2 7^qc 39^qn^qv 7)<|cd 7 (rs 11 (q1 (.build z_5 [])^qt 4 7 0^qS 5 7^qz 6 1) .ret)<|rs 13 (qb 2 7^qc 68^qn^qv 12)<|cd 12 (rs 16 (q1 (.build z_5 [])^qt 4 7 0^qS 5 7^qz 6 10) .ret)<|rs 18 (qb 2 7^qc 41^qv 17)<|cd 17 (rs 20 (q1 (.build z_5 [])^qt 4 7 0^qS 5 7^qz 6 11) .ret)<|rs 22 (qr 2 3^qk .eql 1099511627776^qv 21)<|cd 21 (rs 25 (q1 (.build z_5 [])^qt 4 7 0^qS 5 7^qz 6 6) .ret) .skip))<|rs 26 (qr 2 3^qk .add 1^qf 2 3^qs 2 1 3 2)<|rs 30 (qm 1^qr 2 0^q1 (.mks 1 1 [.int .i64 0] [(0,.l 2)])^qf 2 5^qs 2 1 4 0^qf 2 6^qs 2 1 6 3)<|rt 36 (qb 2 7^qc 71^qb 2 7^qc 72^qt 4 7 1^qw 5^qz 6 0) .ret
def F47:F:=mF 2 [.cell 4 (some 7),.t 5,.t 6] none c47
def c48:C:=rs 0 (qB 2 0^qG 4 z_5^qS 5 7^qz 6 0)<|i1 7 (qb 2 7^qc 37^qN) 9 (rs 10 (q1 (.build z_5 [])^qt 4 7 0^qS 5 7^qz 6 1) .ret)<|i1 11 (qb 2 7^qc 38^qN) 13 (rs 14 (q1 (.build z_5 [])^qt 4 7 0^qS 5 7^qz 6 10) .ret)<|i1 15 (qb 2 7^qc 42^qN) 17 (rs 18 (q1 (.build z_5 [])^qt 4 7 0^qS 5 7^qz 6 11) .ret)<|i1 19 (qr 2 3^qK .geq 1099511627776) 21 (rs 22 (q1 (.build z_5 [])^qt 4 7 0^qS 5 7^qz 6 6) .ret)<|rs 23 (qr 2 3^qk .add 1^qm 1^qr 2 0^q1 (.mks 1 1 [.int .i64 0] [(0,.l 5)])^qf 2 3^qs 2 1 7 2^qf 2 5^qs 2 1 9 3^qf 2 6^qs 2 1 11 6)<|i1 33 (qr 2 2^eq^qK .eql 1) 36 (r1 37 (qm 1^qf 2 4^qs 2 1 1 0))<|rt 39 (qb 2 7^qb 2 7^qc 52^qt 4 7 0^qw 5^qz 6 0) .ret
def F48:F:=mF 2 [.cell 4 (some 7),.t 5,.t 6] none c48
def c51:C:=rs 0 (qB 1 0^qS 2 7)<|i1 3 (qb 1 7^qc 41^qN) 5 (rs 0 (qS 2 7) .ret)<|rs 6 (qb 1 7^qc 72^qv 2) .ret
def F51:F:=mF 1 [.t 2] none c51
def l52_0:C:=em (lq 5 (qm 4^qr 1 2^eq^qQ .lss 0) 9 0<|sq (bk 1 (rt 12 (qr 1 6^qr 1 2^qm 4^qi 1^qj^qC 62 (ls [1,6])^qN)<|cd 20 (r2 21 (qm 3^qr 1 0^qr 1 2^qm 4^qi 1^qj^qr 1 1^qr 1 3^qr 1 2^qr 1 5^q1 (.build z_6 [(0,1,.c (.int .i64 1)),(1,1,.l 2),(2,1,.l 7),(3,1,.l 9),(4,1,.l 11),(5,1,.l 13),(6,1,.l 15)])^q1 (.mks 7 1 z_6 [(0,.l 16)])^q1 (.app 3 7 (.l 0) (.l 17))^qv 3)) .skip))<|r1 10 (qm 4^qk .add 1^qv 4))
def c52:C:=rs 0 (qB 1 0^qS 2 7)<|rs 3 (q3 (.mko 7))<|sq (rs 0 (qz 4 0)<|bk 0 l52_0)<|rs 40 (qm 3^qv 2) .ret
def F52:F:=mF 1 [.t 2] none c52
def c54:C:=rs 0 (qB 3 0^qG 6 z_5^qS 7 7^qz 8 0)<|i1 9 (qb 3 7^qc 39^qn^yo^qm 2^qr 3 0^qr 3 0^qC 73 (ls [4,6,8])^qn^zo 3^yo^qm 1^qC 63 [.l 13,ci 1]^qn^zO 12) 25 (rs 26 (q1 (.build z_5 [])^qt 6 7 0^qS 7 7^qz 8 1) .ret)<|sq (bk 0 (rs 28 (qm 1^qr 3 1^qq .eql 0^ya^qb 3 7^qc 68^za 4^qv 27)<|cd 27 (rt 36 (qb 3 7^qb 3 7^qc 72^qt 6 7 0^qw 7^qz 8 0) .ret)<|rs 40 (qm 1^qr 3 1^qk .add 1^qq .neq 0^yo^qr 3 2^eq^qk .eql 0^zo 5^qv 39)<|cd 39 (rs 51 (q1 (.build z_5 [])^qt 6 7 0^qS 7 7^qz 8 10) .ret)<|rs 53 (qr 3 3^qk .eql 1099511627776^qv 52)<|cd 52 (rs 56 (q1 (.build z_5 [])^qt 6 7 0^qS 7 7^qz 8 6) .ret) .skip))<|rt 57 (qm 1^qm 2^qc 69^qr 3 5^qr 3 0^q1 (.mks 1 1 [.int .i64 0] [(0,.l 6)])^qf 3 1^qs 3 1 8 0^qf 3 2^qs 3 1 10 2^qf 3 4^qs 3 1 12 4^qf 3 6^qs 3 1 14 7)<|rs 69 (qr 3 3^qk .add 1^qf 3 3^qs 3 1 3 2)<|rt 73 (qb 3 7^qb 3 7^qc 72^qt 6 7 0^qw 7^qz 8 0) .ret
def F54:F:=mF 3 [.cell 6 (some 7),.t 7,.t 8] none c54
def c55:C:=rs 0 (qB 3 0^qG 6 z_5^qS 7 7^qz 8 0)<|i2 9 (qb 3 7^qc 37^qn^yo^qm 2^qc 61^qn^zo 3^yo^qm 2^eq^qk .eql 0^zo 8^yo^qm 2^q1 (.iad 1 (.l 14) (ci 0))^qj^qr 3 0^qq .neq 16^zo 13^yo^qm 1^qc 60^qn^zO 21) 34 (rs 35 (q1 (.build z_5 [])^qt 6 7 0^qS 7 7^qz 8 1) .ret)<|i1 36 (qm 1^qr 3 1^qq .eql 0^ya^qb 3 7^qc 38^zA 4) 43 (rt 44 (qb 3 7^qb 3 7^qc 52^qt 6 7 0^qw 7^qz 8 0) .ret)<|i1 47 (qm 1^qk .sub 1^qr 3 1^qq .neq 1^yo^qr 3 2^eq^qk .eql 0^zO 5) 57 (rs 58 (q1 (.build z_5 [])^qt 6 7 0^qS 7 7^qz 8 10) .ret)<|i1 59 (qr 3 3^qK .geq 1099511627776) 61 (rs 62 (q1 (.build z_5 [])^qt 6 7 0^qS 7 7^qz 8 6) .ret)<|rs 63 (qr 3 0^qm 1^qm 2^qr 3 3^qk .add 1^qr 3 5^qr 3 5^qr 3 0^q1 (.mks 1 1 [.int .i64 0] [(0,.l 12)])^q1 (.build z_5 [(0,1,.l 1),(1,1,.l 2),(2,1,.l 3),(3,1,.l 6),(4,1,.l 8),(5,1,.l 10),(6,1,.l 13)])^qt 3 7 14)<|rt 78 (qb 3 7^qb 3 7^qc 52^qt 6 7 0^qw 7^qz 8 0) .ret
def F55:F:=mF 3 [.cell 6 (some 7),.t 7,.t 8] none c55
def c57:C:=rs 0 (qB 2 0^qB 3 1^qG 4 z_5^qS 5 7)<|i1 6 (qb 2 7^q1 (.call (.k 39) .borrow none [.l 0])^qn^yo^qr 3 2^qr 2 0^qq .neq 5^zO 3) 15 (rs 16 (qb 2 7^qt 4 7 0^qS 5 7) .ret)<|sq (rs 17 (qf 3 0^q3 (.load (.v 3) none (.l 0)))<|bk 0 (rs 20 (q1 (.bin .eql (.g 18) (ci 1))^qv 19)<|cd 19 (rs 21 (qb 2 7^qb 3 7^q1 (.call (.k 74) .freeze none [.l 0,.l 1])^qx 0^qy 1^qt 4 7 3^qw 5) .ret)<|rs 27 (q1 (.bin .eql (.g 18) (ci 2))^qv 26)<|cd 26 (rs 28 (qb 2 7^q1 (.call (.k 68) .borrow none [.l 0])^ya^qr 3 3^qr 2 1^qq .eql 4^za 2^ya^qr 3 4^qr 2 3^qq .eql 11^za 9^ya^qr 2 2^qr 3 1^q1 (.call (.k 65) .borrow none [.l 18,.l 20])^za 16^ya^qr 2 6^qr 3 1^q1 (.call (.k 65) .borrow none [.l 25,.l 27])^qn^zA 23)<|cd 58 (rt 59 (qr 2 6^q1 (.call (.k 69) .freeze (some 0) [.l 1])^qr 3 1^q1 (.mks 1 1 [.int .i64 0] [(0,.l 4)])^q1 (.app 61 1 (.l 2) (.l 5))^qf 2 6^qs 2 1 7 6)<|r1 67 (qb 2 7^q1 (.call (.k 71) .freeze none [.l 0])^qt 2 7 1)) .skip)<|rs 70 (q1 (.bin .eql (.g 18) (ci 3))^qv 69)<|cd 69 (rs 71 (qr 3 3^qr 2 1^qQ .gtr 1)<|cd 75 (r1 76 (qr 2 5^qf 2 2^q5 (.store (.v 2) 1 (.l 2) (.c (.slice 1 [])))^qf 2 6^q5 (.store (.v 2) 1 (.l 4) (.c (.slice 1 [])))^qf 2 4^qs 2 1 6 1)) .skip) .skip))<|rs 81 (qb 2 7^qt 4 7 0^qS 5 7) .ret
def F57:F:=mF 2 [.cell 4 (some 7),.t 5] none c57
def c58:C:=rs 0 (qB 2 0^qB 3 1^qG 4 z_5^qS 5 7)<|i1 7 (qb 2 7^q1 (.call (.k 37) .borrow none [.l 0])^qn^yo^qr 3 2^qr 2 0^qq .neq 5^zO 3) 16 (rs 17 (qb 2 7^qt 4 7 0^qS 5 7) .ret)<|i1 18 (qr 3 0^qk .eql 3^ya^qr 3 3^qr 2 1^qq .gtr 5^zA 3) 27 (rs 28 (qr 2 0^qr 2 1^qr 2 3^qr 2 5^qr 2 5^q1 (.build z_5 [(0,1,.l 1),(1,1,.l 3),(3,1,.l 5),(4,1,.l 7),(5,1,.l 9)])^qt 4 7 10^qS 5 7) .ret)<|i1 39 (qr 3 0^qk .eql 2^ya^qb 2 7^q1 (.call (.k 38) .borrow none [.l 4])^za 3^ya^qr 3 3^qr 2 1^qq .eql 9^za 7^ya^qr 3 4^qr 2 3^qq .eql 16^za 14^ya^qr 2 2^qr 3 1^q1 (.call (.k 62) .borrow none [.l 23,.l 25])^za 21^ya^qr 2 6^qr 3 1^q1 (.call (.k 62) .borrow none [.l 30,.l 32])^qn^zA 28) 74 (rs 6 (q3 (.mko 1))<|rt 75 (qm 6^qr 2 6^q1 (.app 6 1 (.l 0) (.l 2))^qr 3 1^q1 (.mks 1 1 [.int .i64 0] [(0,.l 5)])^q1 (.app 6 1 (.l 3) (.l 6))^qf 2 6^qs 2 1 8 7)<|i1 84 (qb 2 7^q3 (.call (.k 42) .borrow none [.l 0])) 85 (r1 86 (qr 2 5^qf 2 4^qs 2 1 2 1))<|rs 89 (qb 2 7^qt 4 7 0^qS 5 7) .ret)<|i2 90 (qr 3 0^qk .neq 1^yo^qr 3 5^q1 (.call (.k 61) .borrow none [.l 5])^qn^zo 3^yo^qr 3 5^qr 2 0^q1 (.call (.k 62) .borrow none [.l 11,.l 13])^qn^zo 9^yo^qr 3 5^q1 (.iad 1 (.l 19) (ci 0))^qj^qr 3 1^qq .neq 21^zo 17^yo^qr 3 1^qr 2 0^qq .eql 28^zo 26^yo^qr 3 3^q1 (.call (.k 60) .borrow none [.l 35])^qn^zo 33^yo^qr 3 4^q1 (.call (.k 60) .borrow none [.l 41])^qn^zO 39) 134 (rs 135 (qb 2 7^qt 4 7 0^qS 5 7) .ret)<|i1 136 (qr 3 3^qr 2 1^qQ .lss 1) 140 (rt 141 (qb 2 7^qr 2 0^qr 3 1^qr 2 1^q1 (.build z_6 [(0,1,.c (.int .i64 3)),(1,1,.l 2),(2,1,.l 4),(3,1,.l 6)])^q1 (.mks 7 1 z_6 [(0,.l 7)])^qt 4 7 0^qw 5) .ret)<|i1 150 (qr 3 3^qr 2 1^qq .eql 1^ya^qb 2 7^q1 (.call (.k 38) .borrow none [.l 6])^yo^qr 2 3^qr 3 4^qq .gtr 10^y1 5^qo 8^zA 5) 165 (rs 166 (qb 2 7^qt 4 7 0^qS 5 7) .ret)<|i1 167 (qr 3 3^qr 2 1^qq .gtr 1^yo^qr 3 4^qr 2 3^qq .gtr 7^zO 5) 178 (r1 179 (qr 2 0^qr 3 3^qr 3 5^qr 3 4^qr 3 6^qr 3 6^q1 (.build z_5 [(0,1,.l 1),(1,1,.l 3),(2,1,.l 5),(3,1,.l 7),(4,1,.l 9),(5,1,.l 11)])^qt 2 7 12))<|rt 192 (qb 2 7^qr 2 0^qr 3 1^qr 3 3^qr 3 4^q1 (.build z_6 [(0,1,.c (.int .i64 2)),(1,1,.l 2),(2,1,.l 4),(3,1,.l 6),(4,1,.l 8)])^q1 (.mks 7 1 z_6 [(0,.l 9)])^qt 4 7 0^qw 5) .ret
def F58:F:=mF 2 [.cell 4 (some 7),.t 5] none c58
def c60:C:=rs 0 (qF 2)<|rs 3 (qm 0^qk .geq 1^ya^qm 0^qk .leq 1099511627776^za 2^qv 2) .ret
def F60:F:=mF 1 [.t 2] none c60
def l61_1:C:=em (lq 26 (qm 4^qm 3^qQ .lss 0) 28 2<|sq (bk 3 (rt 31 (qm 0^qm 4^qi 1^qj^qm 0^qm 3^qi 1^qj^qQ .eql 3)<|cd 39 (rs 0 (qF 2) .ret) .skip))<|r1 29 (qm 4^qk .add 1^qv 4))
def l61_0:C:=em (lq 8 (qm 3^qm 0^eq^qQ .lss 0) 11 0<|sq (bk 1 (i1 14 (qm 0^qm 3^qi 1^qj^qk .lss 1^yo^qm 0^qm 3^qi 1^qj^qk .gtr 255^zO 5) 25 (rs 0 (qF 2) .ret)<|rs 0 (qz 4 0)<|bk 2 l61_1))<|r1 12 (qm 3^qk .add 1^qv 3))
def c61:C:=rs 0 (qF 2)<|i1 5 (qm 0^eq^qK .gtr 8) 7 (rs 0 (qF 2) .ret)<|sq (rs 0 (qz 3 0)<|bk 0 l61_0)<|rs 0 (qT 2) .ret
def F61:F:=mF 1 [.t 2] none c61
def l62_0:C:=em (lq 6 (qm 5^qm 0^eq^qQ .lss 0) 9 0<|sq (bk 1 (rs 12 (qm 0^qm 5^qi 1^qj^qm 1^qQ .eql 3)<|cd 17 (rs 0 (qT 4) .ret) .skip))<|r1 10 (qm 5^qk .add 1^qv 5))
def c62:C:=rs 0 (qF 4)<|sq (rs 0 (qz 5 0)<|bk 0 l62_0)<|rs 0 (qF 4) .ret
def F62:F:=mF 2 [.t 4] none c62
def c63:C:=rs 0 (qF 4)<|rs 5 (qm 0^qm 1^qq .geq 0^ya^qm 0^qk .leq 1099511627776^za 3^qv 4) .ret
def F63:F:=mF 2 [.t 4] none c63
def l64_0:C:=em (rs 8 (q3 (.bin .lss (.g 7) (.g 6)))<|sq (cd 8 .skip<|.exit 0)<|sq (bk 1 (rs 9 (qm 7^q1 (.iad 1 (.g 5) (.g 7))^qj^qV 3 0^qw 4)<|rs 12 (qm 4^qk .lss 1^yo^qm 4^qk .gtr 255^zo 2^yo^qm 0^qm 3^q1 (.sl false 1 (.l 7) none (some (.l 8)))^qm 4^qd 65^zO 6)<|cd 24 (rs 0 (qF 2) .ret) .skip))<|r1 25 (q1 (.bin .add (.g 7) (ci 1))^qv 7))
def c64:C:=rs 0 (qF 2)<|sq (rs 5 (q3 (.mov (.g 0))^qH false^q3 (.mov (ci 0)))<|bk 0 l64_0)<|rs 26 (qm 0^eq^qk .leq 8^qv 2) .ret
def F64:F:=mF 1 [.t 2] none c64
def c65:C:=rs 0 (qF 4)<|rs 5 (qm 0^qm 1^qd 75^qk .geq 0^qv 4) .ret
def F65:F:=mF 2 [.t 4] none c65
def c66:C:=rs 0 (qF 3)<|rs 4 (qf 1 2^qj^qm 0^qd 65^qn^qv 3) .ret
def F66:F:=mF 2 [.t 3] none c66
def c67:C:=rs 0 (qF 4)<|rs 5 (qm 0^qm 1^qd 76^qk .geq 0^qv 4) .ret
def F67:F:=mF 2 [.t 4] none c67
def c68:C:=rs 0 (qB 1 0^qF 2)<|rt 3 (qr 1 2^eq^qk .gtr 0^ya^qr 1 2^q1 (.iad 1 (.l 6) (ci 0))^qj^qr 1 0^qq .eql 8^za 4^qv 2) .ret
def F68:F:=mF 1 [.t 2] none c68
def l70_0:C:=em (lq 11 (qm 5^qm 0^eq^qQ .lss 0) 14 0<|sq (bk 1 (rt 17 (qm 0^qm 5^qi 1^qj^qm 1^qm 5^qi 1^qj^qQ .neq 3)<|cd 25 (rs 0 (qF 4) .ret) .skip))<|r1 15 (qm 5^qk .add 1^qv 5))
def c70:C:=rs 0 (qF 4)<|i1 6 (qm 0^eq^qm 1^eq^qQ .neq 1) 10 (rs 0 (qF 4) .ret)<|sq (rs 0 (qz 5 0)<|bk 0 l70_0)<|rs 0 (qT 4) .ret
def F70:F:=mF 2 [.t 4] none c70
def c71:C:=rs 0 (qB 1 0^qG 2 z_5)<|i1 3 (qr 1 6^eq^qr 1 2^eq^qQ .eql 2) 9 (r1 10 (qr 1 5^qf 1 4^qs 1 1 2 1))<|rs 13 (qb 1 7^qt 2 7 0) .ret
def F71:F:=mF 1 [.cell 2 (some 7)] none c71
def l72_0:C:=em (rs 10 (q3 (.bin .lss (.g 9) (.g 8)))<|sq (cd 10 .skip<|.exit 0)<|sq (bk 1 (rs 11 (q1 (.iad 1 (.g 7) (.g 9))^qj^qv 5)<|rs 13 (qr 1 6^qm 5^qd 65^qN)<|cd 17 (r2 18 (qm 3^qr 1 0^qm 5^qr 1 1^qr 1 3^qr 1 2^qc 69^qr 1 5^q1 (.build z_6 [(0,1,.c (.int .i64 1)),(1,1,.l 2),(2,1,.l 3),(3,1,.l 5),(4,1,.l 7),(5,1,.l 10),(6,1,.l 12)])^q1 (.mks 7 1 z_6 [(0,.l 13)])^q1 (.app 3 7 (.l 0) (.l 14))^qv 3)) .skip))<|r1 34 (q1 (.bin .add (.g 9) (ci 1))^qv 9))
def c72:C:=rs 0 (qB 1 0^qS 2 7)<|rs 3 (q3 (.mko 7))<|sq (rs 6 (qf 1 2^q3 (.load (.v 1) none (.l 0))^qH false^q3 (.mov (ci 0)))<|bk 0 l72_0)<|rs 35 (qm 3^qv 2) .ret
def F72:F:=mF 1 [.t 2] none c72
def c73:C:=rs 0 (qF 6)<|rs 7 (qm 0^eq^qk .gtr 0^ya^qm 0^qc 64^za 3^ya^qm 0^qm 1^qd 65^za 7^ya^qm 0^q1 (.iad 1 (.l 13) (ci 0))^qj^qm 2^qq .eql 15^za 12^qv 6) .ret
def F73:F:=mF 3 [.t 6] none c73
def c74:C:=rs 0 (qB 2 0^qB 3 1^qG 4 z_5^qS 5 7)<|i1 7 (qr 3 1^qr 2 0^qq .eql 1^yo^qr 3 5^qr 2 0^qr 3 1^qC 73 (ls [7,9,11])^qn^zo 5^yo^qr 3 3^qC 63 [.l 17,ci 1]^qn^zo 15^yo^qr 3 4^qC 63 [.l 23,ci 1]^qn^zO 21) 33 (rs 34 (qb 2 7^qt 4 7 0^qS 5 7) .ret)<|i1 35 (qr 3 3^qr 2 1^qQ .lss 1) 39 (rt 40 (qb 2 7^qr 2 0^qr 3 1^qr 2 1^q1 (.build z_6 [(0,1,.c (.int .i64 3)),(1,1,.l 2),(2,1,.l 4),(3,1,.l 6)])^q1 (.mks 7 1 z_6 [(0,.l 7)])^qt 4 7 0^qw 5) .ret)<|rs 49 (qr 3 3^qr 2 1^qq .eql 1^qv 6)<|sq (bk 0 (rs 55 (qm 6^ya^qb 2 7^qc 68^yo^qr 3 4^qr 2 3^qq .lss 6^y1 1^qo 4^za 1^qv 54)<|cd 54 (rs 67 (qb 2 7^qt 4 7 0^qS 5 7) .ret)<|rs 69 (qm 6^qn^yo^qr 3 4^qr 2 3^qq .gtr 4^zo 2^qv 68)<|cd 68 (rt 78 (qr 3 3^qr 3 5^qc 69^qr 3 4^qf 2 1^qs 2 1 7 1^qf 2 2^qs 2 1 9 4^qf 2 3^qs 2 1 11 6)<|r2 88 (qr 3 6^qr 3 6^qf 2 4^qs 2 1 4 1^qf 2 5^qs 2 1 6 3^qf 2 6^q5 (.store (.v 2) 1 (.l 8) (.c (.slice 1 []))))) .skip))<|rt 95 (qb 2 7^qr 2 0^qr 3 1^qr 2 1^qr 2 3^q1 (.build z_6 [(0,1,.c (.int .i64 2)),(1,1,.l 2),(2,1,.l 4),(3,1,.l 6),(4,1,.l 8)])^q1 (.mks 7 1 z_6 [(0,.l 9)])^qt 4 7 0^qw 5) .ret
def F74:F:=mF 2 [.cell 4 (some 7),.t 5] none c74
def l75_0:C:=em (rs 9 (q3 (.bin .lss (.g 8) (.g 7)))<|sq (cd 9 .skip<|.exit 0)<|sq (bk 1 (rs 10 (qm 8^qv 5)<|rs 11 (qm 1^qm 0^qm 5^qi 1^qj^qQ .eql 0)<|cd 16 (rs 17 (qm 5^qv 4) .ret) .skip))<|r1 18 (q1 (.bin .add (.g 8) (ci 1))^qv 8))
def c75:C:=rs 0 (qz 4 0)<|sq (rs 6 (qm 0^qH false^q3 (.mov (ci 0)))<|bk 0 l75_0)<|rs 0 (qz 4 (-1)) .ret
def F75:F:=mF 2 [.t 4] none c75
def l76_0:C:=em (rs 9 (q3 (.bin .lss (.g 8) (.g 7)))<|sq (cd 9 .skip<|.exit 0)<|sq (bk 1 (rs 10 (qm 8^qv 5)<|rs 11 (qm 1^qm 0^qm 5^qi 1^qj^q3 (.call (.v (.l 0)) .no none [.l 4]))<|cd 16 (rs 17 (qm 5^qv 4) .ret) .skip))<|r1 18 (q1 (.bin .add (.g 8) (ci 1))^qv 8))
def c76:C:=rs 0 (qz 4 0)<|sq (rs 6 (qm 0^qH false^q3 (.mov (ci 0)))<|bk 0 l76_0)<|rs 0 (qz 4 (-1)) .ret
def F76:F:=mF 2 [.t 4] none c76
attribute [go_sem] c37 F37 c38 F38 c39 F39 c40 F40 c41 F41 c42 F42 c43 F43 c45 F45 c47 F47 c48 F48 c51 F51 c52 F52 c54 F54 c55 F55 c57 F57 c58 F58 c60 F60 c61 F61 c62 F62 c63 F63 c64 F64 c65 F65 c66 F66 c67 F67 c68 F68 c70 F70 c71 F71 c72 F72 c73 F73 c74 F74 c75 F75 c76 F76
def l198_0:C:=em (lq 7 (qm 3^qm 0^eq^qQ .lss 0) 10 0<|sq (bk 1 (rs 13 (qm 0^qm 3^qi 2^qg 1^qj^eq^qk .gtr 80^yo^qm 0^qm 3^qi 2^qg 0^qj^ge^qk .gtr 100^zO 7)<|cd 28 (rs 0 (qF 2) .ret) .skip))<|r1 11 (qm 3^qk .add 1^qv 3))
def c198:C:=rs 0 (qF 2)<|i1 4 (qm 0^eq^qK .gtr 80) 6 (rs 0 (qF 2) .ret)<|sq (rs 0 (qz 3 0)<|bk 0 l198_0)<|rs 0 (qT 2) .ret
def F198:F:=mF 1 [.t 2] none c198
def c200:C:=rs 0 (qB 5 2^qS 6 2^qz 7 0)<|i1 14 (qm 0^qc 203^qn^yo^qm 1^qc 170^qn^zO 3) 21 (rs 0 (qS 6 2^qz 7 1) .ret)<|rs 23 (qm 0^qm 1^qd 220^q2 22 (.mov (.l 2))^qx 0^qy 1^qw 8^qw 9)<|rs 0 (qS 10 5)<|i1 28 (q3 (.mov (.g 9))) 28 (r1 29 (qm 0^qm 8^qi 2^qg 1^qj^qv 10))<|rs 35 (qm 10^qb 5 5^qd 3^q2 34 (.mov (.l 2))^qx 0^qy 1^qw 11^qw 12)<|sq (bk 0 (rs 41 (qm 12^qk .neq 0^qv 40)<|cd 40 (rs 43 (qm 12^qS 6 2^qw 7) .ret)<|rs 45 (qm 9^qn^ya^qm 0^eq^qk .eql 64^za 2^qv 44)<|cd 44 (rs 0 (qS 6 2^qz 7 6) .ret) .skip))<|rs 52 (qm 0^q1 (.call (.k 221) .no (some 0) [.l 0])^qv 13)<|i1 54 (qm 9^qN) 55 (r1 56 (qm 13^qm 8^qm 1^q1 (.build z_7 [(0,1,.l 2)])^q1 (.mks 2 1 z_7 [(0,.l 3)])^q1 (.ins 222 53 2 (.l 0) (.l 1) (.l 4))^qv 13))<|rs 62 (qm 13^qm 8^qm 11^q1 (.iad 2 (.l 0) (.l 1))^qg 1^q5 (.store (.e 53) 1 (.l 4) (.l 2)))<|rs 67 (qm 13^qv 6^qz 7 0) .ret
def F200:F:=mF 3 [.t 6,.t 7] none c200
def l201_0:C:=em (lq 67 (qm 13^qm 0^eq^qQ .lss 0) 70 0<|sq (bk 1 (i1 73 (qm 12^qn^ya^qm 1^qm 0^qm 13^qi 2^qg 0^qj^qC 187 (ls [3,8])^qk .leq 0^zA 2) 84 (rs 85 (qm 11^qb 10 2^q1 (.mks 2 1 z_7 [(0,.l 1)])^q1 (.app 11 2 (.l 0) (.l 2))^qv 11)<|r1 0 (qT 12))<|rs 89 (qm 0^qm 13^qi 2^qg 0^qj^qm 1^qQ .neq 4)<|cd 95 (r1 96 (qm 11^qm 0^qm 13^qi 2^qJ 2^q1 (.mks 2 1 z_7 [(0,.l 4)])^q1 (.app 11 2 (.l 0) (.l 5))^qv 11)) .skip))<|r1 71 (qm 13^qk .add 1^qv 13))
def r201_20:List Op:=(qm 12^qN) qe 103 0 none
def r201_21:List Op:=(qm 11^qb 10 2^q1 (.mks 2 1 z_7 [(0,.l 1)])^q1 (.app 11 2 (.l 0) (.l 2))^qv 11) qe 105 0 none
def r201_22:List Op:=(qm 11^qv 6^qz 7 0) qe 109 0 none
def c201:C:=rs 0 (qB 5 2^qS 6 2^qz 7 0)<|i1 14 (qm 0^qc 204^qn^yo^qm 1^qc 168^qn^zo 3^yo^qb 5 5^qc 5^qn^zO 8) 26 (rs 0 (qS 6 2^qz 7 1) .ret)<|rs 27 (qm 0^qm 1^qd 223^qv 8)<|i2 30 (qm 8^eq^qk .gtr 0^ya^qm 8^qm 8^eq^qk .sub 1^q1 (.iad 5 (.l 4) (.l 7))^qg 0^qJ 3^qR 5 0 3^qC 6 (ls [10,12])^qn^zA 3) 45 (rs 0 (qS 6 2^qz 7 9) .ret)<|i1 46 (qm 8^eq^qk .eql 64^yo^qm 8^eq^qk .eql 0^ya^qm 0^eq^qk .eql 64^y0 3^qa 7^zO 3) 58 (rs 0 (qS 6 2^qz 7 6) .ret)<|rs 9 (q3 (.mko 5))<|rt 59 (qm 1^qm 9^qm 8^q1 (.app 9 5 (.l 1) (.l 2))^qb 5 5^q1 (.mks 5 1 z_2 [(0,.l 4)])^q1 (.apf 9 5 (.l 3) (.l 5))^q1 (.build z_7 [(0,1,.l 0),(1,1,.l 6)])^qG 10 z_7^qs 10 2 8 7)<|rs 11 (q3 (.mko 2))<|rs 0 (qF 12)<|sq (rs 0 (qz 13 0)<|bk 0 l201_0)<|sq (sq (.region false r201_20)<|cd 104 (.region false r201_21) .skip)<|sq (.region false r201_22) .ret
def F201:F:=mF 3 [.t 6,.t 7] none c201
def l202_0:C:=em (lq 11 (qm 5^qm 0^eq^qQ .lss 0) 14 0<|sq (bk 1 (rt 17 (qm 0^qm 5^qi 2^qg 0^qj^qm 1^qm 5^qi 2^qg 0^qj^qq .neq 4^yo^qm 0^qm 5^qi 2^qg 1^qj^qm 1^qm 5^qi 2^qg 1^qj^qC 8 (ls [16,21])^qn^zO 11)<|cd 41 (rs 0 (qF 4) .ret) .skip))<|r1 15 (qm 5^qk .add 1^qv 5))
def c202:C:=rs 0 (qF 4)<|i1 6 (qm 0^eq^qm 1^eq^qQ .neq 1) 10 (rs 0 (qF 4) .ret)<|sq (rs 0 (qz 5 0)<|bk 0 l202_0)<|rs 0 (qT 4) .ret
def F202:F:=mF 2 [.t 4] none c202
def l203_0:C:=.loop [] [] [4] [] (rs 8 (q3 (.bin .lss (.g 7) (.g 6)))<|sq (cd 8 .skip<|.exit 0)<|sq (bk 1 (rs 9 (qm 7^q1 (.iad 2 (.g 5) (.g 7))^qJ 2^qG 4 z_7^qV 3 0^qs 4 2 3 2)<|rt 12 (qr 4 0^qc 170^qn^yo^qr 4 1^qc 7^qn^zo 4^yo^qr 4 1^eq^qk .eql 0^zo 10^yo^qm 3^qk .gtr 0^ya^qm 0^qm 3^qk .sub 1^q1 (.iad 2 (.l 20) (.l 22))^qg 0^qj^qr 4 0^qC 192 (ls [25,27])^qk .geq 0^y0 16^qa 19^zO 16)<|cd 43 (rs 0 (qF 2) .ret) .skip))<|r1 44 (q1 (.bin .add (.g 7) (ci 1))^qv 7))
def c203:C:=rs 0 (qF 2)<|sq (rs 5 (q3 (.mov (.g 0))^qH false^q3 (.mov (ci 0)))<|bk 0 l203_0)<|rs 45 (qm 0^eq^qk .leq 64^qv 2) .ret
def F203:F:=mF 1 [.t 2] none c203
def l204_0:C:=em (lq 7 (qm 3^qm 0^eq^qQ .lss 0) 10 0<|sq (bk 1 (i1 13 (qm 0^qm 3^qi 2^qg 0^qj^qc 168^qn^yo^qm 0^qm 3^qi 2^qg 1^qj^eq^qk .eql 0^zo 7^yo^qm 0^qm 3^qi 2^qg 1^qj^qc 4^qn^zO 16) 37 (rs 0 (qF 2) .ret)<|rt 38 (qm 3^qk .gtr 0^ya^qm 0^qm 3^qk .sub 1^q1 (.iad 2 (.l 3) (.l 5))^qg 0^qj^qm 0^qm 3^qi 2^qg 0^qj^qC 187 (ls [8,13])^qk .neq (-1)^zA 2)<|cd 54 (rs 0 (qF 2) .ret) .skip))<|r1 11 (qm 3^qk .add 1^qv 3))
def c204:C:=rs 0 (qF 2)<|i1 4 (qm 0^eq^qK .gtr 64) 6 (rs 0 (qF 2) .ret)<|sq (rs 0 (qz 3 0)<|bk 0 l204_0)<|rs 0 (qT 2) .ret
def F204:F:=mF 1 [.t 2] none c204
def l206_0:C:=.loop [] [] [17] [] (rs 34 (q3 (.bin .lss (.g 33) (.g 32)))<|sq (cd 34 .skip<|.exit 0)<|sq (bk 1 (rs 35 (q1 (.iad 2 (.g 31) (.g 33))^qJ 2^qG 17 z_7^qs 17 2 2 1)<|i1 37 (qm 2^q1 (.bin .neq (.l 0) (.c (.str [])))^ya^qr 17 0^qm 2^qd 192^qk .geq 0^zA 2) 45 (.exit 0)<|rs 47 (qr 17 1^qb 8 3^qd 12^q2 46 (.mov (.l 3))^qx 0^qy 1^qw 18^qw 19)<|i1 53 (qm 19^qN) 54 (.exit 1)<|i1 55 (qm 13^eq^qm 4^qQ .geq 1) 58 (rt 59 (qm 13^qr 17 0^qV 10 0^qw 11^qT 12) .ret)<|r1 62 (qm 13^qr 17 0^qm 18^q1 (.build z_1 [(0,1,.l 2),(1,1,.l 3)])^q1 (.mks 2 1 z_1 [(0,.l 4)])^q1 (.app 13 2 (.l 0) (.l 5))^qv 13)))<|r1 69 (q1 (.bin .add (.g 33) (ci 1))^qv 33))
def c206:C:=rs 0 (qB 8 3^qS 10 2^qE 11^qF 12)<|i1 20 (qm 0^qc 203^qN) 22 (rs 0 (qS 10 2^qE 11^qF 12) .ret)<|rs 13 (q3 (.mko 2))<|rs 24 (qm 0^qm 1^qd 220^q2 23 (.mov (.l 2))^qx 0^qy 1^qw 14^qD 15^q1 (.mov (.l 5)))<|sq (rs 29 (qm 0^qm 14^q3 (.sl false 2 (.l 0) (some (.l 1)) none)^qH false^q3 (.mov (ci 0)))<|bk 0 l206_0)<|rs 70 (qm 13^qv 10^qE 11^qF 12) .ret
def F206:F:=mF 5 [.t 10,.t 11,.t 12] none c206
def c207:C:=rs 0 (qB 8 3^qS 10 2^qE 11^qF 12)<|rs 14 (qm 0^qm 1^qm 2^qb 8 3^qC 224 (ls [0,1,2,3])^qv 13)<|i1 19 (qm 4^qK .lss 0) 20 (r1 0 (qz 4 0))<|i1 21 (qm 13^eq^qm 4^qQ .leq 1) 24 (rs 25 (qm 13^qv 10^qE 11^qF 12) .ret)<|rt 26 (qm 13^qm 4^q1 (.sl false 2 (.l 0) none (some (.l 1)))^qm 13^qm 4^qi 2^qg 0^qj^qV 10 2^qw 11^qT 12) .ret
def F207:F:=mF 5 [.t 10,.t 11,.t 12] none c207
def c211:C:=rs 0 (qS 4 2^qS 5 2)<|i1 8 (qm 0^qc 203^qN) 10 (rs 0 (qS 4 2^qS 5 2) .ret)<|rs 12 (qm 0^qm 1^qd 220^q2 11 (.mov (.l 2))^qx 0^qy 1^qw 6^qD 7^q1 (.mov (.l 5)))<|rt 17 (qm 0^qm 6^q1 (.sl false 2 (.l 0) none (some (.l 1)))^qc 221^qm 0^qm 6^q1 (.sl false 2 (.l 4) (some (.l 5)) none)^qc 221^qV 4 3^qw 5) .ret
def F211:F:=mF 2 [.t 4,.t 5] none c211
def l212_0:C:=em (lq 9 (qm 8^qm 0^eq^qQ .lss 0) 12 0<|sq (bk 1 (rs 15 (qm 0^qm 8^qi 2^qg 0^qj^qm 1^qd 187^qk .lss 0^qm 2^q3 (.eqb false (.l 7) (.l 8)))<|cd 24 (r1 25 (qm 7^qm 0^qm 8^qi 2^qJ 2^q1 (.mks 2 1 z_7 [(0,.l 4)])^q1 (.app 7 2 (.l 0) (.l 5))^qv 7)) .skip))<|r1 13 (qm 8^qk .add 1^qv 8))
def c212:C:=rs 0 (qS 6 2)<|rs 7 (q3 (.mko 2))<|sq (rs 0 (qz 8 0)<|bk 0 l212_0)<|rs 32 (qm 7^qv 6) .ret
def F212:F:=mF 3 [.t 6] none c212
def c213:C:=rs 0 (qS 4 2^qz 5 0)<|sq (bk 0 (rs 7 (qm 0^qc 203^qn^yo^qm 1^qc 203^qn^zo 3^qv 6)<|cd 6 (rs 0 (qS 4 2^qz 5 1) .ret)<|rt 16 (qm 0^eq^qk .gtr 0^ya^qm 1^eq^qk .gtr 0^za 3^ya^qm 0^qm 0^eq^qk .sub 1^q1 (.iad 2 (.l 9) (.l 12))^qg 0^qj^qm 1^q1 (.iad 2 (.l 16) (ci 0))^qg 0^qj^qC 192 (ls [15,19])^qk .geq 0^za 8^qv 15)<|cd 15 (rs 0 (qS 4 2^qz 5 9) .ret)<|rs 40 (qm 0^eq^qm 1^eq^qq .add 1^qk .gtr 64^qv 39)<|cd 39 (rs 0 (qS 4 2^qz 5 6) .ret) .skip))<|rs 46 (qm 0^q1 (.call (.k 221) .no (some 0) [.l 0])^qm 1^qc 221^q1 (.app 47 2 (.l 1) (.l 3))^qv 4^qz 5 0) .ret
def F213:F:=mF 2 [.t 4,.t 5] none c213
def l214_1:C:=em (lq 23 (qm 7^qm 1^eq^qQ .lss 0) 26 2<|sq (bk 3 (rt 29 (qm 0^qm 6^qi 2^qg 0^qj^qm 1^qm 7^qi 2^qg 0^qj^qC 187 (ls [4,9])^qK .geq 0)<|cd 40 (rs 0 (qS 4 2^qz 5 9) .ret) .skip))<|r1 27 (qm 7^qk .add 1^qv 7))
def l214_0:C:=em (lq 17 (qm 6^qm 0^eq^qQ .lss 0) 20 0<|sq (bk 1 (rs 0 (qz 7 0)<|bk 2 l214_1))<|r1 21 (qm 6^qk .add 1^qv 6))
def c214:C:=rs 0 (qS 4 2^qz 5 0)<|i1 9 (qm 0^qc 204^qn^yo^qm 1^qc 204^qn^zO 3) 16 (rs 0 (qS 4 2^qz 5 1) .ret)<|sq (rs 0 (qz 6 0)<|bk 0 l214_0)<|i1 41 (qm 0^eq^qm 1^eq^qq .add 1^qK .gtr 64) 46 (rs 0 (qS 4 2^qz 5 6) .ret)<|rs 8 (q3 (.mko 2))<|rs 47 (qm 8^qm 0^q1 (.app 8 2 (.l 0) (.l 1))^qm 1^q1 (.app 8 2 (.l 2) (.l 3))^qv 4^qz 5 0) .ret
def F214:F:=mF 2 [.t 4,.t 5] none c214
def l217_0:C:=.loop [] [] [7] [] (rs 15 (q3 (.bin .lss (.g 14) (.g 13)))<|sq (cd 15 .skip<|.exit 0)<|sq (bk 1 (rs 16 (q1 (.iad 2 (.g 12) (.g 14))^qJ 2^qG 7 z_7^qs 7 2 2 1)<|rs 18 (qr 7 1^qb 3 3^qd 17^qv 8)<|rs 22 (qm 8^eq^qK .gtr 0)<|cd 24 (r1 25 (qm 5^qr 7 0^qm 8^q1 (.build z_7 [(0,1,.l 2),(1,1,.l 3)])^q1 (.mks 2 1 z_7 [(0,.l 4)])^q1 (.app 5 2 (.l 0) (.l 5))^qv 5)) .skip))<|r1 32 (q1 (.bin .add (.g 14) (ci 1))^qv 14))
def c217:C:=rs 0 (qB 3 1^qS 4 2)<|i1 9 (qm 0^qc 203^qN) 11 (rs 0 (qS 4 2) .ret)<|rs 5 (q3 (.mko 2))<|sq (rs 12 (q3 (.mov (.g 0))^qH false^q3 (.mov (ci 0)))<|bk 0 l217_0)<|rs 33 (qm 5^qv 4) .ret
def F217:F:=mF 2 [.t 4] none c217
def l218_0:C:=em (lq 8 (qm 6^qm 0^eq^qQ .lss 0) 11 0<|sq (bk 1 (rt 14 (qm 0^qm 6^qi 2^qg 1^qj^qb 3 3^qd 18^qv 7)<|rs 21 (qm 7^eq^qK .gtr 0)<|cd 23 (r1 24 (qm 5^qm 0^qm 6^qi 2^qg 0^qj^qm 7^q1 (.build z_7 [(0,1,.l 5),(1,1,.l 6)])^q1 (.mks 2 1 z_7 [(0,.l 7)])^q1 (.app 5 2 (.l 0) (.l 8))^qv 5)) .skip))<|r1 12 (qm 6^qk .add 1^qv 6))
def c218:C:=rs 0 (qB 3 1^qS 4 2)<|rs 5 (q3 (.mko 2))<|sq (rs 0 (qz 6 0)<|bk 0 l218_0)<|rs 34 (qm 5^qv 4) .ret
def F218:F:=mF 2 [.t 4] none c218
def c220:C:=rs 0 (qz 4 0^qF 5)<|rs 6 (qm 0^qm 1^qC 225 [.l 0,.l 1,.f 226]^qx 0^qy 1^qw 4^qw 5) .ret
def F220:F:=mF 2 [.t 4,.t 5] none c220
def l221_0:C:=em (rs 10 (q3 (.bin .lss (.g 9) (.g 8)))<|sq (cd 10 .skip<|.exit 0)<|sq (bk 1 (rs 11 (qm 9^qv 4)<|r1 12 (qm 3^qm 4^qm 3^qm 4^qi 2^qg 1^q1 (.load (.e 6) none (.l 5))^qc 23^q1 (.iad 2 (.l 0) (.l 1))^qg 1^q5 (.store (.e 6) 1 (.l 9) (.l 7)))))<|r1 22 (q1 (.bin .add (.g 9) (ci 1))^qv 9))
def c221:C:=rs 0 (qS 2 2)<|rs 5 (qm 0^q1 (.call (.k 227) .no (some 0) [.l 0])^qv 3)<|sq (rs 7 (qm 3^qH false^q3 (.mov (ci 0)))<|bk 0 l221_0)<|rs 23 (qm 3^qv 2) .ret
def F221:F:=mF 1 [.t 2] (some 0) c221
def l223_0:C:=em (lq 6 (qm 5^qm 0^eq^qQ .lss 0) 9 0<|sq (bk 1 (rs 12 (qm 0^qm 5^qi 2^qg 0^qj^qm 1^qQ .eql 4)<|cd 18 (rs 19 (qm 0^qm 5^qi 2^qg 1^qj^qv 4) .ret) .skip))<|r1 10 (qm 5^qk .add 1^qv 5))
def c223:C:=rs 0 (qS 4 5)<|sq (rs 0 (qz 5 0)<|bk 0 l223_0)<|rs 0 (qS 4 5) .ret
def F223:F:=mF 2 [.t 4] none c223
def l224_0:C:=em (lq 13 (qm 10^qm 0^eq^qQ .lss 0) 16 0<|sq (bk 1 (rt 20 (qm 0^qm 10^qi 2^qg 1^qj^qb 7 3^qd 13^q2 19 (.mov (.l 6))^qx 0^qy 1^qw 11^qw 12)<|rs 29 (qm 12^ya^qm 0^qm 10^qi 2^qg 0^qj^qm 1^qm 2^qC 169 (ls [6,7,8])^zA 1)<|cd 39 (r1 40 (qm 9^qm 0^qm 10^qi 2^qg 0^qj^qm 11^q1 (.build z_1 [(0,1,.l 5),(1,1,.l 6)])^q1 (.mks 2 1 z_1 [(0,.l 7)])^q1 (.app 9 2 (.l 0) (.l 8))^qv 9)) .skip))<|r1 17 (qm 10^qk .add 1^qv 10))
def c224:C:=rs 0 (qB 7 3^qS 8 2)<|rs 9 (q3 (.mko 2))<|sq (rs 0 (qz 10 0)<|bk 0 l224_0)<|rs 50 (qm 9^qv 8) .ret
def F224:F:=mF 4 [.t 8] none c224
def l225_0:C:=em (lq 15 (qm 9^qm 10^qQ .lss 0) 17 0<|bk 1 (rs 18 (qm 9^qm 10^qq .add 0^q1 (.conv (.int .u64) (.l 2))^q1 (.sh .shr (.l 3) (.c (.int .u64 1)))^q1 (.conv (.int .i64) (.l 4))^qv 11)<|rs 24 (qm 2^qm 0^qm 11^qi 2^qJ 2^qm 1^q1 (.call (.v (.l 0)) .no none [.l 4,.l 5])^qK .lss 0)<|cd 31 (r1 32 (qm 11^qk .add 1^qv 9))<|r1 34 (qm 11^qv 10)))
def c225:C:=rs 0 (qz 6 0^qF 7)<|rs 12 (qm 0^eq^qv 8)<|rs 14 (qm 8^qz 9 0^qw 10)<|sq (bk 0 l225_0)<|rs 35 (qm 9^qm 9^qm 8^qq .lss 1^ya^qm 2^qm 0^qm 9^qi 2^qJ 2^qm 1^q1 (.call (.v (.l 5)) .no none [.l 9,.l 10])^qk .eql 0^za 4^qV 6 0^qw 7) .ret
def F225:F:=mF 3 [.t 6,.t 7] none c225
def c226:C:=rs 0 (qB 2 0^qz 4 0)<|rs 5 (qr 2 0^qm 1^qd 192^qv 4) .ret
def F226:F:=mF 2 [.t 4] none c226
attribute [go_sem] c198 F198 c200 F200 r201_20 r201_21 r201_22 c201 F201 c202 F202 c203 F203 c204 F204 c206 F206 c207 F207 c211 F211 c212 F212 c213 F213 c214 F214 c217 F217 c218 F218 c220 F220 c221 F221 c223 F223 c224 F224 c225 F225 c226 F226
def l238_0:C:=em (lq 8 (qm 3^qr 1 0^eq^qQ .lss 0) 12 0<|sq (bk 1 (rs 15 (qr 1 0^qm 3^qi 17^qJ 17^qc 252^qN)<|cd 21 (rs 0 (qF 2) .ret) .skip))<|r1 13 (qm 3^qk .add 1^qv 3))
def c238:C:=rs 0 (qB 1 0^qF 2)<|i1 4 (qr 1 0^eq^qK .gtr 12) 7 (rs 0 (qF 2) .ret)<|sq (rs 0 (qz 3 0)<|bk 0 l238_0)<|rs 0 (qT 2) .ret
def F238:F:=mF 1 [.t 2] none c238
def c240:C:=rs 0 (qB 6 0^qB 9 3^qB 10 4^qG 12 z_8^qG 13 z_9)<|i1 16 (qb 6 5^qc 249^qn^yo^qm 1^qm 2^q1 (.mks 1 2 [.int .i64 0] [(0,.l 4),(1,.l 5)])^qC 284 [ci 1,.l 6]^qn^zo 3^yo^qm 5^q1 (.mks 1 1 [.int .i64 0] [(0,.l 11)])^qC 284 [ci 0,.l 12]^qn^zo 10^yo^qb 10 3^qc 28^qn^zo 16^yo^qb 9 12^qc 285^qn^zO 21) 41 (rt 42 (qb 6 5^qC 286 [ci 1]^qt 12 5 0^qt 13 9 1) .ret)<|rs 44 (qb 6 5^qm 1^qd 287^qG 14 z_10^qs 14 17 3 2)<|rs 47 (qr 9 3^q1 (.bin .eql (.l 1) (.c (.str [])))^ya^qf 14 2^qg 0^ql 14^q1 (.bin .eql (.l 6) (.c (.str [])))^za 3^yo^qR 14 2 2^qr 9 3^qC 171 (ls [11,13])^zo 9^qv 15)<|sq (bk 0 (rs 64 (qr 14 0^qk .eql 0^yo^qr 14 1^qm 2^qq .neq 5^zo 3^yo^qm 15^qn^zo 9^qv 63)<|cd 63 (rt 77 (qb 6 5^qC 286 [ci 10]^qt 12 5 0^qt 13 9 1) .ret)<|rs 80 (qr 14 4^qk .neq 1^yo^qb 9 12^qc 288^ya^qr 14 13^qk .neq 0^y0 3^qa 6^zo 3^qv 79)<|cd 79 (rt 92 (qb 6 5^qC 286 [ci 11]^qt 12 5 0^qt 13 9 1) .ret)<|rs 95 (qb 9 12^qc 288^qv 94)<|cd 94 (rs 97 (qb 6 5^qb 14 17^qb 9 12^qb 10 3^qC 289 (ls [0,1,2,3])^qx 0^qy 1^qt 12 5 5^qt 13 9 6) .ret)<|rs 105 (qr 9 2^qk .eql 4^qv 104)<|cd 104 (rt 108 (qb 6 5^qb 6 5^qb 14 17^qr 9 3^qC 290 (ls [1,2,4])^qt 12 5 0^qt 13 9 5) .ret) .skip))<|rs 114 (qb 6 5^qb 14 17^qb 9 12^qm 5^qC 291 (ls [0,1,2,3])^qx 0^qy 1^qt 12 5 5^qt 13 9 6) .ret
def F240:F:=mF 6 [.cell 12 (some 5),.cell 13 (some 9)] none c240
def LM:C:=rs 187 (qr 9 2^qk .eql 3^ya^qm 17^qr 9 5^q1 (.eqb true (.l 4) (.l 6))^yo^qm 17^ya^qr 15 4^qr 9 6^qq .neq 12^y0 8^qa 10^y1 3^qo 8^zA 3)<|cd 205 (r2 206 (qr 15 4^qf 21 0^qu 21 2 15^qf 21 5^qs 21 1 4 1)) (rs 210 (qr 9 2^qK .neq 2)<|cd 212 (r1 214 (qr 14 5^qr 9 3^qb 10 3^qr 9 4^q1 (.build z_2 [(0,3,.l 4),(4,1,.l 6)])^qC 201 (ls [1,3,7])^q2 213 (.mov (.l 8))^qx 0^qy 1^qf 14 5^qs 14 1 12 10^qV 22 11)) (rs 226 (q3 (.mov (.g 17)))<|cd 226 (r1 228 (qr 14 5^qr 9 3^qb 10 3^q1 (.build z_2 [(0,3,.l 4),(3,1,.c (.bool true))])^qC 201 (ls [1,3,5])^q2 227 (.mov (.l 6))^qx 0^qy 1^qf 14 5^qs 14 1 10 8^qV 22 9)) .skip))
def LI:C:=i1 238 (qm 22^qK .neq 0) 239 (rt 240 (qb 6 5^qm 22^qc 295^qt 12 5 0^qt 13 9 2) .ret)<|rs 244 (qr 14 12^qr 9 0^qr 9 1^qb 21 9^q1 (.build z_4 [(0,1,.l 3),(1,1,.l 5),(2,9,.l 6)])^qC 89 (ls [1,7])^q2 243 (.mov (.l 8))^qx 0^qy 1^qf 14 12^qs 14 1 12 10^qV 22 11)<|i1 256 (qm 22^qK .neq 0) 257 (rt 258 (qb 6 5^qm 22^qc 295^qt 12 5 0^qt 13 9 2) .ret)<|rs 261 (qb 6 5^qb 14 17^qC 297 [.l 0,.l 1,cb false]^qG 23 z_8^qs 23 5 3 2)<|rs 264 (qb 10 3^qf 23 1^qs 23 3 1 0)<|rt 266 (qb 23 5^qb 21 9^qt 12 5 0^qt 13 9 1) .ret
def c241:C:=rs 0 (qB 6 0^qB 9 3^qB 10 4^qG 12 z_8^qG 13 z_9)<|i1 24 (qb 6 5^qc 246^qn^yo^qm 1^qc 292^qn^zo 3^yo^qm 2^qc 292^qn^zo 8^yo^qm 5^qc 293^qn^zo 13^yo^qb 10 3^qc 24^qn^zo 18^yo^qb 9 12^qc 294^qn^zO 23) 51 (rt 52 (qb 6 5^qC 295 [ci 1]^qt 12 5 0^qt 13 9 1) .ret)<|rs 54 (qb 6 5^qm 1^qd 248^qG 14 z_10^qs 14 17 3 2)<|i1 57 (qr 14 0^qk .eql 0^yo^qr 14 1^qm 2^qq .neq 5^zo 3^yo^qr 9 3^ge^qk .gtr 0^ya^qr 9 3^qf 14 2^qg 0^ql 14^qf 14 2^qg 1^ql 14^qC 169 (ls [16,19,22])^qn^y0 9^qa 14^zo 9^yo^qr 9 3^ge^qk .eql 0^ya^qf 14 2^qg 0^ql 14^ge^qk .gtr 0^y0 27^qa 32^zO 27) 96 (rt 97 (qb 6 5^qC 295 [ci 10]^qt 12 5 0^qt 13 9 1) .ret)<|i1 99 (qr 14 4^qk .neq 1^yo^qr 9 2^qk .lss 4^ya^qr 14 13^qk .gtr 0^y0 3^qa 7^zO 3) 111 (rt 112 (qb 6 5^qC 295 [ci 11]^qt 12 5 0^qt 13 9 1) .ret)<|rt 115 (qr 14 5^qr 9 3^qC 223 (ls [1,3])^qR 6 1 3^qC 11 (ls [4,6])^q2 114 (.mov (.l 7))^qx 0^qy 1^qG 15 z_2^qs 15 5 11 9^qV 16 10)<|rs 125 (qm 16^ya^qr 15 3^qn^za 1^qv 17)<|i1 131 (qr 9 2^qK .eql 4) 133 (rt 134 (qb 6 5^qR 15 0 3^qm 17^qr 15 4^q1 (.build z_9 [(1,3,.l 2),(4,1,.l 3),(5,1,.l 5)])^qt 12 5 0^qt 13 9 6) .ret)<|i1 141 (qr 9 2^qK .gtr 4) 143 (rs 144 (qb 6 5^qb 14 17^qb 9 12^qm 5^qC 296 (ls [0,1,2,3])^qx 0^qy 1^qt 12 5 5^qt 13 9 6) .ret)<|rs 151 (qr 14 12^qr 9 0^qC 99 (ls [1,3])^qv 18)<|i1 156 (qr 9 1^qm 18^qQ .eql 1) 159 (rs 161 (qr 14 12^qr 9 0^qC 85 (ls [1,3])^q2 160 (.mov (.l 4))^qx 0^qy 1^qG 19 z_4^qs 19 11 8 6^qD 20^q1 (.mov (.l 7)))<|rt 168 (qb 6 5^qR 19 2 9^qt 12 5 0^qt 13 9 2) .ret)<|i1 171 (qr 9 1^qm 18^qQ .lss 1) 174 (rt 175 (qb 6 5^qC 295 [ci 10]^qt 12 5 0^qt 13 9 1) .ret)<|i1 177 (qR 6 1 3^qb 10 3^qd 6^qN) 181 (rt 182 (qb 6 5^qC 295 [ci 1]^qt 12 5 0^qt 13 9 1) .ret)<|rs 184 (qb 10 3^qm 17^q1 (.build z_9 [(1,3,.l 0),(4,1,.l 1)])^qG 21 z_9^qs 21 9 3 2^qz 22 0)<|sq LM LI
def F241:F:=mF 6 [.cell 12 (some 5),.cell 13 (some 9)] none c241
def l242_0:C:=em (lq 27 (qm 5^qr 2 0^eq^qQ .lss 0) 31 0<|sq (bk 1 (rt 34 (qr 2 0^qm 5^qi 17^qJ 17^qr 3 0^qm 5^qi 17^qJ 17^qC 250 (ls [4,9])^qN)<|cd 45 (rs 0 (qF 4) .ret) .skip))<|r1 32 (qm 5^qk .add 1^qv 5))
def c242:C:=rs 0 (qB 2 0^qB 3 1^qF 4)<|i1 6 (qr 2 0^eq^qr 3 0^eq^qq .neq 2^yo^qR 2 1 3^qR 3 1 3^q1 (.eqa true [.i,.i,.i] (.l 9) (.l 11))^zo 7^yo^qr 2 4^qr 3 4^qq .neq 16^zO 14) 26 (rs 0 (qF 4) .ret)<|sq (rs 0 (qz 5 0)<|bk 0 l242_0)<|rs 0 (qT 4) .ret
def F242:F:=mF 2 [.t 4] none c242
def c244:C:=rs 0 (qB 1 0^qF 2)<|i1 3 (qr 1 0^qr 1 1^q1 (.mks 1 2 [.int .i64 0] [(0,.l 1),(1,.l 3)])^qC 284 [ci 1,.l 4]^qn^yo^qr 1 13^qr 1 14^qr 1 15^qr 1 16^q1 (.mks 1 4 [.int .i64 0] [(0,.l 9),(1,.l 11),(2,.l 13),(3,.l 15)])^qC 284 [ci 0,.l 16]^qn^zo 7^yo^qr 1 4^qk .lss 1^zo 20^yo^qr 1 4^qk .gtr 3^zO 25) 32 (rs 0 (qF 2) .ret)<|i1 33 (qR 1 2 2^qc 186^qn^yo^qr 1 5^qc 203^qn^zo 4^yo^qR 1 6 3^qc 28^qn^zo 10^yo^qR 1 9 3^qc 28^qn^zo 16^yo^qr 1 12^qc 81^qn^zO 22) 60 (rs 0 (qF 2) .ret)<|rs 61 (qr 1 5^q1 (.fn 298 [.g 1] [1])^qd 299^qn^qv 2) .ret
def F244:F:=mF 1 [.t 2] none c244
def l245_0:C:=em (lq 81 (qm 3^qr 1 5^eq^qQ .lss 0) 85 0<|sq (bk 1 (rt 88 (qR 1 2 2^qr 1 5^qm 3^qi 2^qg 0^qj^qC 142 (ls [1,7])^qN)<|cd 97 (rs 0 (qF 2) .ret) .skip))<|r1 86 (qm 3^qk .add 1^qv 3))
def r245_10:List Op:=(qT 2) qe 0 0 none
def c245:C:=rs 0 (qB 1 0^qF 2)<|i1 4 (qr 1 0^qc 292^qn^yo^qr 1 1^qc 292^qn^zo 4^yo^qr 1 13^qc 293^qn^zo 10^yo^qr 1 14^qc 293^qn^zo 16^yo^qr 1 15^qc 293^qn^zo 22^yo^qr 1 16^qc 293^qn^zO 28) 37 (rs 0 (qF 2) .ret)<|i1 38 (qr 1 4^qk .neq 1^ya^qr 1 4^qk .neq 2^za 3^ya^qr 1 4^qk .neq 3^za 8^yo^qR 1 2 2^qc 167^qn^zo 13^yo^qr 1 5^qc 204^qn^zo 19^yo^qR 1 6 3^qc 24^qn^zo 25^yo^qR 1 9 3^qc 24^qn^zo 31^yo^qr 1 12^qc 80^qn^zO 37) 80 (rs 0 (qF 2) .ret)<|sq (rs 0 (qz 3 0)<|bk 0 l245_0)<|sq (.region false r245_10) .ret
def F245:F:=mF 1 [.t 2] none c245
def l246_0:C:=em (lq 20 (qm 3^qr 1 0^eq^qQ .lss 0) 24 0<|sq (bk 1 (rt 27 (qr 1 0^qm 3^qi 17^qJ 17^qc 245^qn^yo^qr 1 0^qm 3^qi 17^qJ 17^qR 1 1 3^qC 300 (ls [12,14])^qn^zo 7^yo^qm 3^qk .gtr 0^ya^qr 1 0^qm 3^qk .sub 1^q1 (.iad 17 (.l 23) (.l 25))^qg 0^qj^qr 1 0^qm 3^qi 17^qg 0^qj^qq .geq 28^y0 18^qa 21^zO 18)<|cd 64 (rs 0 (qF 2) .ret) .skip))<|r1 25 (qm 3^qk .add 1^qv 3))
def c246:C:=rs 0 (qB 1 0^qF 2)<|i1 4 (qr 1 0^eq^qk .gtr 8^yo^qR 1 1 3^qc 24^qn^zo 4^yo^qr 1 4^qc 293^qn^zO 10) 19 (rs 0 (qF 2) .ret)<|sq (rs 0 (qz 3 0)<|bk 0 l246_0)<|rs 0 (qT 2) .ret
def F246:F:=mF 1 [.t 2] none c246
def c247:C:=rs 0 (qB 2 0^qG 4 z_10^qF 5)<|i1 7 (qb 2 5^qc 249^qn^yo^qm 1^q1 (.mks 1 1 [.int .i64 0] [(0,.l 4)])^qC 284 [ci 1,.l 5]^qn^zO 3) 15 (rs 16 (q1 (.build z_10 [])^qt 4 17 0^qF 5) .ret)<|rs 17 (qb 2 5^qm 1^qd 287^qG 6 z_10^qs 6 17 3 2)<|rt 20 (qb 6 17^qr 6 0^qk .neq 0^qt 4 17 0^qw 5) .ret
def F247:F:=mF 2 [.cell 4 (some 17),.t 5] none c247
def l248_0:C:=em (lq 6 (qm 5^qr 2 0^eq^qQ .lss 0) 10 0<|sq (bk 1 (rs 13 (qr 2 0^qm 5^qi 17^qg 0^qj^qm 1^qQ .eql 5)<|cd 20 (rs 21 (qr 2 0^qm 5^qi 17^qJ 17^qt 4 17 4) .ret) .skip))<|r1 11 (qm 5^qk .add 1^qv 5))
def c248:C:=rs 0 (qB 2 0^qG 4 z_10)<|sq (rs 0 (qz 5 0)<|bk 0 l248_0)<|rs 26 (q1 (.build z_10 [])^qt 4 17 0) .ret
def F248:F:=mF 2 [.cell 4 (some 17)] none c248
def l249_0:C:=.loop [] [] [5] [] (rs 10 (q3 (.bin .lss (.g 9) (.g 8)))<|sq (cd 10 .skip<|.exit 0)<|sq (bk 1 (rs 11 (q1 (.iad 17 (.g 7) (.g 9))^qJ 17^qG 5 z_10^qs 5 17 2 1)<|i1 13 (qr 5 0^qm 3^qq .leq 1^yo^qb 5 17^qc 244^qn^zo 4^yo^qb 5 17^qR 1 1 3^qC 301 (ls [10,12])^qn^zO 9) 28 (rs 0 (qF 2) .ret)<|r1 29 (qr 5 0^qv 3)))<|r1 31 (q1 (.bin .add (.g 9) (ci 1))^qv 9))
def c249:C:=rs 0 (qB 1 0^qF 2)<|rs 0 (qz 3 0)<|sq (rs 6 (qf 1 0^q3 (.load (.v 1) none (.l 0))^qH false^q3 (.mov (ci 0)))<|bk 0 l249_0)<|rs 32 (qr 1 0^eq^qk .leq 8^ya^qR 1 1 3^qc 28^za 4^ya^qr 1 4^q1 (.mks 1 1 [.int .i64 0] [(0,.l 11)])^qC 284 [ci 0,.l 12]^za 9^qv 2) .ret
def F249:F:=mF 1 [.t 2] none c249
def c250:C:=rs 0 (qB 2 0^qB 3 1^qF 4)<|rs 5 (qr 2 0^qr 3 0^qq .eql 1^ya^qr 2 1^qr 3 1^qq .eql 7^za 5^ya^qR 2 2 2^qR 3 2 2^q1 (.eqa false [.s,.s] (.l 14) (.l 16))^za 12^ya^qr 2 4^qr 3 4^qq .eql 21^za 19^ya^qr 2 5^qr 3 5^qC 202 (ls [28,30])^za 26^ya^qR 2 6 3^qR 3 6 3^q1 (.eqa false [.i,.i,.i] (.l 35) (.l 37))^za 33^ya^qR 2 9 3^qR 3 9 3^q1 (.eqa false [.i,.i,.i] (.l 42) (.l 44))^za 40^ya^qr 2 12^qr 3 12^qC 86 (ls [49,51])^za 47^ya^qr 2 13^qr 3 13^qq .eql 56^za 54^ya^qr 2 14^qr 3 14^qq .eql 63^za 61^ya^qr 2 15^qr 3 15^qq .eql 70^za 68^ya^qr 2 16^qr 3 16^qq .eql 77^za 75^qv 4) .ret
def F250:F:=mF 2 [.t 4] none c250
def c252:C:=rs 0 (qB 1 0^qF 2)<|rs 3 (qr 1 5^qc 198^ya^qr 1 12^qc 78^za 3^ya^qf 1 2^qg 0^ql 1^ge^qk .lss 100^za 8^ya^qf 1 2^qg 1^ql 1^ge^qk .lss 100^za 15^qv 2) .ret
def F252:F:=mF 1 [.t 2] none c252
def c253:C:=rs 0 (qB 3 0^qB 4 1^qG 6 z_8^qF 7)<|i1 9 (qb 3 5^qc 249^qn^yo^qm 2^q1 (.mks 1 1 [.int .i64 0] [(0,.l 4)])^qC 284 [ci 1,.l 5]^qn^zO 3) 17 (rs 18 (qb 3 5^qt 6 5 0^qF 7) .ret)<|rs 19 (qb 3 5^qr 4 0^qC 287 (ls [0,2])^qG 8 z_10^qs 8 17 4 3)<|i1 23 (qr 8 0^qK .neq 0) 25 (rt 26 (qb 3 5^qb 8 17^qm 2^qd 302^qt 6 5 0^qw 7) .ret)<|i1 30 (qm 2^qr 3 4^qq .leq 0^yo^qr 3 0^eq^qk .eql 8^zo 4^yo^qb 4 17^qc 244^qn^zo 10^yo^qb 4 17^qm 2^qd 303^qn^zo 15^yo^qb 4 17^qR 4 9 3^qC 301 (ls [22,24])^qn^zO 21) 57 (rs 58 (qb 3 5^qt 6 5 0^qF 7) .ret)<|rs 59 (qf 4 4^qu 4 0 3)<|rs 60 (qb 3 5^qb 4 17^qd 304^qt 3 5 2)<|rs 63 (qR 3 1 3^qR 4 9 3^qC 21 (ls [1,3])^qf 3 1^qs 3 3 5 4)<|rs 69 (qb 3 5^qt 6 5 0^qT 7) .ret
def F253:F:=mF 3 [.cell 6 (some 5),.t 7] none c253
def c254:C:=rs 0 (qB 3 0^qB 4 1^qG 6 z_8^qF 7)<|i1 10 (qb 3 5^qc 246^qn^yo^qm 2^qc 292^qn^zO 3) 17 (rs 18 (qb 3 5^qt 6 5 0^qF 7) .ret)<|rs 19 (qb 3 5^qr 4 0^qC 248 (ls [0,2])^qG 8 z_10^qs 8 17 4 3)<|i1 23 (qr 8 0^qK .gtr 0) 25 (rt 26 (qb 3 5^qb 8 17^qm 2^qC 305 [.l 1,ci 3,.l 2]^qt 6 5 0^qw 7) .ret)<|i1 30 (qm 2^qr 3 4^qq .leq 0^yo^qr 3 0^eq^qk .gtr 7^zo 4^yo^qb 4 17^qc 245^qn^zo 10^yo^qb 4 17^qm 2^qC 305 [.l 16,ci 2,.l 17]^qn^zo 15^yo^qb 4 17^qR 4 9 3^qC 300 (ls [22,24])^qn^zO 21) 57 (rs 58 (qb 3 5^qt 6 5 0^qF 7) .ret)<|rs 59 (qf 4 4^qu 4 0 3)<|rs 60 (qb 3 5^qb 4 17^qC 297 [.l 0,.l 1,cb false]^qG 9 z_8^qs 9 5 3 2)<|rs 63 (qR 3 1 3^qR 4 9 3^qC 306 (ls [1,3])^qf 9 1^qs 9 3 5 4)<|rs 69 (qb 9 5^qt 6 5 0^qT 7) .ret
def F254:F:=mF 3 [.cell 6 (some 5),.t 7] none c254
def c256:C:=rs 0 (qB 4 0^qG 8 z_8^qF 9)<|rs 13 (qb 4 5^qm 1^qd 247^q2 12 (.mov (.l 2))^qx 0^qy 1^qG 10 z_10^qs 10 17 6 4^qV 11 5)<|i1 18 (qm 11^qn^yo^qm 2^qm 3^q1 (.mks 1 2 [.int .i64 0] [(0,.l 3),(1,.l 4)])^qC 284 [ci 1,.l 5]^qn^zo 2^yo^qr 10 1^qm 2^qq .neq 11^zo 9^yo^qr 10 4^qk .neq 1^zo 15^yo^qr 10 14^qm 3^qq .geq 22^zo 20^yo^qr 10 13^qk .neq 0^ya^qr 10 13^qm 3^qq .neq 32^y0 26^qa 30^zO 26) 54 (rs 55 (qb 4 5^qt 8 5 0^qF 9) .ret)<|rs 56 (qm 3^qf 10 13^qs 10 1 1 0)<|rs 58 (qb 4 5^qb 10 17^qd 304^qt 8 5 2^qT 9) .ret
def F256:F:=mF 4 [.cell 8 (some 5),.t 9] none c256
def c257:C:=rs 0 (qB 4 0^qG 8 z_8^qF 9)<|rs 11 (qb 4 5^qm 1^qd 248^qG 10 z_10^qs 10 17 3 2)<|i1 14 (qb 4 5^qc 246^qn^yo^qm 1^qc 292^qn^zo 3^yo^qm 2^qc 292^qn^zo 8^yo^qm 3^qc 292^qn^zo 13^yo^qr 10 0^qk .eql 0^zo 18^yo^qr 10 1^qm 2^qq .neq 25^zo 23^yo^qr 10 4^qk .neq 1^zo 29^yo^qm 3^qr 10 14^qq .leq 35^zO 34) 53 (rs 54 (qb 4 5^qt 8 5 0^qF 9) .ret)<|i1 55 (qr 10 13^qk .neq 0^ya^qr 10 13^qm 3^qq .neq 5^zA 3) 63 (rs 64 (qb 4 5^qt 8 5 0^qF 9) .ret)<|rs 65 (qm 3^qf 10 13^qs 10 1 1 0)<|rs 67 (qb 4 5^qb 10 17^qC 297 [.l 0,.l 1,cb false]^qt 8 5 2^qT 9) .ret
def F257:F:=mF 4 [.cell 8 (some 5),.t 9] none c257
def c258:C:=rs 0 (qB 4 0^qB 7 3^qG 8 z_8^qF 9)<|rs 13 (qb 4 5^qm 1^qd 247^q2 12 (.mov (.l 2))^qx 0^qy 1^qG 10 z_10^qs 10 17 6 4^qV 11 5)<|i1 18 (qm 11^qn^yo^qm 2^q1 (.mks 1 1 [.int .i64 0] [(0,.l 3)])^qC 284 [ci 1,.l 4]^qn^zo 2^yo^qb 7 3^qc 28^qn^zO 8) 30 (rs 31 (qb 4 5^qt 8 5 0^qF 9) .ret)<|i1 32 (qr 10 14^qm 2^qQ .geq 1) 35 (rs 36 (qb 4 5^qt 8 5 0^qT 9) .ret)<|rs 37 (qm 2^qf 10 14^qs 10 1 1 0)<|i1 39 (qr 10 13^qm 2^qQ .eql 1) 42 (r1 43 (qf 10 13^qu 10 0 0))<|rs 44 (qb 4 5^qb 10 17^qd 304^qt 4 5 2)<|rs 47 (qR 4 1 3^qb 7 3^qd 21^qf 4 1^qs 4 3 4 3)<|rs 52 (qb 4 5^qt 8 5 0^qT 9) .ret
def F258:F:=mF 4 [.cell 8 (some 5),.t 9] none c258
def c259:C:=rs 0 (qB 4 0^qB 7 3^qG 8 z_8^qF 9)<|rs 12 (qb 4 5^qm 1^qd 248^qG 10 z_10^qs 10 17 3 2)<|i1 15 (qb 4 5^qc 246^qn^yo^qm 1^qc 292^qn^zo 3^yo^qm 2^qc 292^qn^zo 8^yo^qb 7 3^qc 24^qn^zo 13^yo^qr 10 0^qk .eql 0^zO 18) 37 (rs 38 (qb 4 5^qt 8 5 0^qF 9) .ret)<|i1 39 (qm 2^qr 10 14^qQ .leq 0) 42 (rs 43 (qb 4 5^qt 8 5 0^qT 9) .ret)<|i1 44 (qr 10 13^qm 2^qQ .eql 1) 47 (r1 48 (qf 10 13^qu 10 0 0))<|rs 49 (qm 2^qf 10 14^qs 10 1 1 0)<|rs 51 (qb 4 5^qb 10 17^qC 297 [.l 0,.l 1,cb false]^qG 11 z_8^qs 11 5 3 2)<|rs 54 (qR 4 1 3^qb 7 3^qd 306^qf 11 1^qs 11 3 4 3)<|rs 59 (qb 11 5^qt 8 5 0^qT 9) .ret
def F259:F:=mF 4 [.cell 8 (some 5),.t 9] none c259
def c261:C:=rs 0 (qB 2 0^qB 3 1^qG 4 z_8)<|i1 5 (qb 2 5^qc 249^ya^qb 3 3^qc 28^zA 2) 10 (r1 11 (qR 2 1 3^qb 3 3^qd 21^qf 2 1^qs 2 3 4 3))<|rs 16 (qb 2 5^qt 4 5 0) .ret
def F261:F:=mF 2 [.cell 4 (some 5)] none c261
def l262_0:C:=.loop [] [] [6] [] (rs 24 (q3 (.bin .lss (.g 23) (.g 22)))<|sq (cd 24 .skip<|.exit 0)<|sq (bk 1 (rs 25 (qm 23^q1 (.iad 17 (.g 21) (.g 23))^q1 (.load (.e 18) (some 17) (.l 1))^qG 6 z_10^qV 5 0^qs 6 17 3 2)<|rt 28 (qr 2 0^qm 5^qr 6 5^qb 3 3^q1 (.call (.k 217) .freeze none [.l 4,.l 5])^q1 (.iad 17 (.l 1) (.l 2))^qg 5^q5 (.store (.e 18) 1 (.l 8) (.l 6)))<|r2 37 (qr 2 0^qm 5^qR 6 6 3^qb 3 3^q1 (.call (.k 21) .freeze none [.l 4,.l 5])^q1 (.iad 17 (.l 1) (.l 2))^qg 6^q5 (.store (.e 18) 3 (.l 8) (.l 6)))))<|r1 46 (q1 (.bin .add (.g 23) (ci 1))^qv 23))
def c262:C:=rs 0 (qB 2 0^qB 3 1^qG 4 z_8)<|i1 7 (qb 2 5^q1 (.call (.k 249) .borrow none [.l 0])^qn^yo^qb 3 3^q1 (.call (.k 28) .borrow none [.l 4])^qn^zO 3) 14 (rs 15 (qb 2 5^qt 4 5 0) .ret)<|rs 16 (qr 2 0^q1 (.call (.k 307) .freeze (some 0) [.l 1])^qf 2 0^qs 2 1 3 2)<|sq (rs 20 (qf 2 0^q3 (.load (.v 2) none (.l 0))^qH false^q3 (.mov (ci 0)))<|bk 0 l262_0)<|rs 47 (qb 2 5^qt 4 5 0) .ret
def F262:F:=mF 2 [.cell 4 (some 5)] none c262
def l263_0:C:=.loop [] [] [7] [] (lq 8 (qm 6^qr 2 0^eq^qQ .lss 0) 12 0<|sq (bk 1 (rs 15 (qr 2 0^qm 6^qi 17^qJ 17^qG 7 z_10^qs 7 17 5 4)<|rt 20 (qr 7 5^qb 3 3^q1 (.call (.k 218) .freeze none [.l 1,.l 2])^qR 7 6 3^qb 3 3^q1 (.call (.k 306) .freeze none [.l 5,.l 6])^qf 7 5^qs 7 1 8 3^qf 7 6^qs 7 3 10 7)<|r1 30 (qm 5^qb 7 17^q1 (.mks 17 1 z_10 [(0,.l 1)])^q1 (.app 5 17 (.l 0) (.l 2))^qv 5)))<|r1 13 (qm 6^qk .add 1^qv 6))
def c263:C:=rs 0 (qB 2 0^qB 3 1^qG 4 z_8)<|rs 5 (q3 (.mko 17))<|sq (rs 0 (qz 6 0)<|bk 0 l263_0)<|rs 34 (qm 5^qf 2 0^qs 2 1 1 0)<|rs 36 (qb 2 5^qt 4 5 0) .ret
def F263:F:=mF 2 [.cell 4 (some 5)] none c263
def c265:C:=rs 0 (qB 4 0^qG 8 z_8^qF 9)<|rs 13 (qb 4 5^qm 1^qd 247^q2 12 (.mov (.l 2))^qx 0^qy 1^qG 10 z_10^qs 10 17 6 4^qV 11 5)<|i1 18 (qm 11^qn^yo^qm 2^qm 3^q1 (.mks 1 2 [.int .i64 0] [(0,.l 3),(1,.l 4)])^qC 284 [ci 1,.l 5]^qn^zO 2) 26 (rs 27 (qb 4 5^qt 8 5 0^qF 9) .ret)<|i1 28 (qb 10 17^qm 3^q3 (.call (.k 303) .no none [.l 0,.l 1])) 30 (rs 31 (qb 4 5^qt 8 5 0^qT 9) .ret)<|i1 32 (qr 10 1^qm 2^qq .neq 1^yo^qr 10 4^qk .neq 1^zo 4^yo^qr 10 13^qk .neq 0^zo 9^yo^qr 10 16^qm 3^qq .geq 16^zO 14) 51 (rs 52 (qb 4 5^qt 8 5 0^qF 9) .ret)<|rt 53 (qm 3^qR 4 1 3^qf 10 4^qu 10 3 2^qf 10 15^qs 10 1 5 0^qf 10 9^qs 10 3 7 2)<|rs 59 (qb 4 5^qb 10 17^qd 304^qt 8 5 2^qT 9) .ret
def F265:F:=mF 4 [.cell 8 (some 5),.t 9] none c265
def c266:C:=rs 0 (qB 4 0^qG 8 z_8^qF 9)<|rs 13 (qb 4 5^qm 1^qd 247^q2 12 (.mov (.l 2))^qx 0^qy 1^qG 10 z_10^qs 10 17 6 4^qV 11 5)<|i1 18 (qm 11^qn^yo^qm 2^qm 3^q1 (.mks 1 2 [.int .i64 0] [(0,.l 3),(1,.l 4)])^qC 284 [ci 1,.l 5]^qn^zO 2) 26 (rs 27 (qb 4 5^qt 8 5 0^qF 9) .ret)<|i1 28 (qr 10 4^qk .eql 1^ya^qr 10 1^qm 3^qq .eql 5^za 3^ya^qr 10 16^qm 2^qq .eql 11^zA 9) 42 (rs 43 (qb 4 5^qt 8 5 0^qT 9) .ret)<|i1 44 (qb 10 17^qm 2^qd 302^qn^yo^qm 3^qr 10 1^qq .leq 5^zO 4) 53 (rs 54 (qb 4 5^qt 8 5 0^qF 9) .ret)<|rs 55 (qm 3^qm 2^qf 10 4^qu 10 2 1^qf 10 1^qs 10 1 4 0^qf 10 16^qs 10 1 6 1)<|rs 60 (qr 4 4^qm 2^q1 (.mm true (.l 1) (.l 2))^qf 4 4^qs 4 1 4 3)<|rs 65 (qb 4 5^qb 10 17^qd 304^qt 8 5 2^qT 9) .ret
def F266:F:=mF 4 [.cell 8 (some 5),.t 9] none c266
def c267:C:=rs 0 (qB 3 0^qG 6 z_8^qF 7)<|i1 9 (qb 3 5^qc 249^qn^yo^qm 1^qm 2^q1 (.mks 1 2 [.int .i64 0] [(0,.l 4),(1,.l 5)])^qC 284 [ci 1,.l 6]^qn^zO 3) 18 (rs 19 (qb 3 5^qt 6 5 0^qF 7) .ret)<|rs 20 (qb 3 5^qm 1^qd 287^qG 8 z_10^qs 8 17 3 2)<|i1 23 (qr 8 0^qK .eql 0) 25 (rs 26 (qb 3 5^qt 6 5 0^qT 7) .ret)<|i1 27 (qb 8 17^qm 2^qd 303^qN) 30 (rs 31 (qb 3 5^qt 6 5 0^qF 7) .ret)<|rs 32 (qb 3 5^qm 1^qd 308^qt 6 5 2^qT 7) .ret
def F267:F:=mF 3 [.cell 6 (some 5),.t 7] none c267
def c269:C:=rs 0 (qB 5 0^qG 10 z_8^qF 11)<|i1 15 (qb 5 5^qc 246^qn^yo^qm 2^qc 292^qn^zo 3^yo^qm 4^qc 292^qn^zo 8^yo^qm 1^qk .eql 0^yo^qm 1^qk .eql 3^y0 13^qo 16^ya^qm 3^qc 292^qn^y0 13^qa 20^zO 13) 40 (rs 41 (qb 5 5^qt 10 5 0^qF 11) .ret)<|rs 42 (qb 5 5^qm 2^qd 248^qG 12 z_10^qs 12 17 3 2)<|sq (rs 45 (q3 (.mov (.g 1)))<|bk 0 (rs 47 (q1 (.bin .eql (.g 45) (ci 0))^qv 46)<|cd 46 (i1 48 (qb 12 17^qm 4^q3 (.call (.k 305) .no none [.l 0,.c (.int .i64 2),.l 1])) 50 (rs 51 (qb 5 5^qt 10 5 0^qT 11) .ret)<|i1 52 (qr 12 0^qk .eql 0^yo^qr 12 1^qm 3^qq .neq 5^zo 3^yo^qr 12 4^qk .neq 1^zo 9^yo^qr 12 13^qk .gtr 0^zo 14^yo^qm 4^qr 12 16^qq .leq 20^zO 19) 76 (rs 77 (qb 5 5^qt 10 5 0^qF 11) .ret)<|rt 78 (qm 4^qR 5 1 3^qf 12 4^qu 12 3 2^qf 12 15^qs 12 1 5 0^qf 12 9^qs 12 3 7 2)<|rs 84 (qb 5 5^qb 12 17^qC 297 [.l 0,.l 1,cb false]^qt 10 5 2^qT 11) .ret)<|rs 88 (q1 (.bin .eql (.g 45) (ci 1))^qv 87)<|cd 87 (i1 89 (qr 12 0^qK .eql 0) 91 (rs 92 (qb 5 5^qt 10 5 0^qF 11) .ret)<|i1 93 (qm 4^qr 12 16^qq .leq 0^yo^qr 12 4^qk .eql 2^ya^qr 12 15^qm 4^qq .neq 10^y0 4^qa 8^zO 4) 107 (rs 108 (qb 5 5^qt 10 5 0^qT 11) .ret)<|i1 109 (qb 12 17^qm 4^q3 (.call (.k 305) .no none [.l 0,.c (.int .i64 2),.l 1])) 111 (r1 112 (qf 12 4^qu 12 0 1))<|rs 113 (qm 4^qf 12 16^qs 12 1 1 0)<|rs 115 (qb 5 5^qb 12 17^qC 297 [.l 0,.l 1,cb false]^qt 10 5 2^qT 11) .ret)<|rs 119 (q1 (.bin .eql (.g 45) (ci 2))^qv 118)<|cd 118 (i1 120 (qr 12 0^qK .eql 0) 122 (rs 123 (qb 5 5^qt 10 5 0^qT 11) .ret)<|i1 124 (qb 12 17^qm 4^qC 305 [.l 0,ci 2,.l 1]^qN) 127 (rs 128 (qb 5 5^qt 10 5 0^qF 11) .ret)<|rs 129 (qb 5 5^qb 12 17^qC 297 [.l 0,.l 1,cb true]^qt 10 5 2^qT 11) .ret)<|rs 133 (q1 (.bin .eql (.g 45) (ci 3))^qv 132)<|cd 132 (i1 134 (qr 12 0^qk .gtr 0^ya^qr 12 4^qk .eql 1^za 3^ya^qr 12 1^qm 3^qq .eql 10^za 8^ya^qr 12 16^qm 4^qq .eql 16^zA 14) 153 (rs 154 (qb 5 5^qt 10 5 0^qT 11) .ret)<|i1 155 (qb 12 17^qm 4^qC 305 [.l 0,ci 3,.l 1]^qn^yo^qm 3^qr 12 1^qq .leq 5^zO 4) 164 (rs 165 (qb 5 5^qt 10 5 0^qF 11) .ret)<|rs 166 (qm 3^qm 4^qf 12 4^qu 12 2 1^qf 12 1^qs 12 1 4 0^qf 12 16^qs 12 1 6 1)<|rs 171 (qb 5 5^qb 12 17^qC 297 [.l 0,.l 1,cb false]^qG 13 z_8^qs 13 5 3 2)<|i1 174 (qm 4^qr 13 4^qQ .gtr 0) 177 (r1 178 (qm 4^qf 13 4^qs 13 1 1 0))<|rs 180 (qb 13 5^qt 10 5 0^qT 11) .ret) .skip))<|rs 181 (qb 5 5^qG 14 z_8^qs 14 5 1 0)<|i1 182 (qb 12 17^qm 4^q3 (.call (.k 305) .no none [.l 0,.c (.int .i64 3),.l 1])) 184 (r1 185 (qb 5 5^qb 12 17^qC 297 [.l 0,.l 1,cb true]^qt 14 5 2))<|i1 188 (qm 4^qr 14 4^qQ .gtr 0) 191 (r1 192 (qm 4^qf 14 4^qs 14 1 1 0))<|rs 194 (qb 14 5^qt 10 5 0^qT 11) .ret
def F269:F:=mF 5 [.cell 10 (some 5),.t 11] none c269
def c270:C:=rs 0 (qB 3 0^qG 6 z_8^qF 7)<|rs 11 (qb 3 5^qm 1^qd 247^q2 10 (.mov (.l 2))^qx 0^qy 1^qG 8 z_10^qs 8 17 6 4^qV 9 5)<|i1 16 (qm 9^qn^yo^qm 2^q1 (.mks 1 1 [.int .i64 0] [(0,.l 3)])^qC 284 [ci 1,.l 4]^qn^zO 2) 23 (rs 24 (qb 3 5^qt 6 5 0^qF 7) .ret)<|i1 25 (qr 8 16^qm 2^qq .geq 1^yo^qr 8 4^qk .eql 2^ya^qr 8 15^qm 2^qq .neq 10^y0 4^qa 8^zO 4) 39 (rs 40 (qb 3 5^qt 6 5 0^qT 7) .ret)<|rs 41 (qm 2^qf 8 16^qs 8 1 1 0)<|i1 43 (qb 8 17^qm 2^q3 (.call (.k 303) .no none [.l 0,.l 1])) 45 (r1 46 (qf 8 4^qu 8 0 1))<|rs 47 (qb 3 5^qb 8 17^qd 304^qt 6 5 2^qT 7) .ret
def F270:F:=mF 3 [.cell 6 (some 5),.t 7] none c270
def c271:C:=rs 0 (qB 3 0^qG 6 z_8^qF 7)<|i1 8 (qb 3 5^qc 249^qn^yo^qm 1^qm 2^q1 (.mks 1 2 [.int .i64 0] [(0,.l 4),(1,.l 5)])^qC 284 [ci 1,.l 6]^qn^zO 3) 17 (rs 18 (qb 3 5^qt 6 5 0^qF 7) .ret)<|i1 19 (qb 3 5^qm 1^qd 287^qm 2^q3 (.call (.k 302) .no none [.l 2,.l 3])) 23 (r1 24 (qb 3 5^qm 1^qd 308^qt 3 5 2))<|rs 27 (qr 3 4^qm 2^q1 (.mm true (.l 1) (.l 2))^qf 3 4^qs 3 1 4 3)<|rs 32 (qb 3 5^qt 6 5 0^qT 7) .ret
def F271:F:=mF 3 [.cell 6 (some 5),.t 7] none c271
def c273:C:=rs 0 (qB 6 0^qG 12 z_8^qF 13)<|i1 19 (qb 6 5^qc 249^qn^yo^qm 1^qm 2^qm 4^qm 5^q1 (.mks 1 4 [.int .i64 0] [(0,.l 4),(1,.l 5),(2,.l 6),(3,.l 7)])^qC 284 [ci 1,.l 8]^qn^zO 3) 30 (rs 31 (qb 6 5^qt 12 5 0^qF 13) .ret)<|rt 32 (qb 6 5^qm 1^qd 287^qb 6 5^qm 4^qd 287^qG 14 z_10^qG 15 z_10^qs 14 17 6 2^qs 15 17 7 5)<|i1 38 (qr 14 0^qk .neq 0^ya^qr 14 1^qm 5^qq .eql 5^za 3^ya^qf 14 2^qg 1^ql 14^qm 3^qq .eql 12^za 9^ya^qr 15 0^qk .neq 0^za 16^ya^qr 15 1^qm 5^qq .eql 23^zA 21) 64 (rs 65 (qb 6 5^qt 12 5 0^qT 13) .ret)<|rs 67 (qR 14 2 2^qm 3^qd 178^q2 66 (.mov (.l 3))^qx 0^qy 1^qY 4 2^qG 16 z_1^qG 17 z_1^qs 16 2 8 5^qs 17 2 9 6^qV 18 7)<|i1 74 (qb 14 17^qm 2^qd 309^qn^yo^qm 5^qm 2^qq .leq 5^zo 4^yo^qr 14 16^qm 5^qq .geq 11^zo 9^yo^qr 15 0^qk .neq 0^zo 15^yo^qr 6 0^eq^qk .eql 8^zo 20^yo^qm 18^qk .neq 0^zO 26) 103 (rs 104 (qb 6 5^qt 12 5 0^qF 13) .ret)<|rs 105 (qb 14 17^qt 15 17 0)<|rs 107 (qr 14 5^qm 3^qd 211^q2 106 (.mov (.l 3))^qx 0^qy 1^qf 14 5^qs 14 1 7 5^qf 15 5^qs 15 1 9 6)<|rt 115 (qb 16 2^qb 17 2^qf 14 2^qs 14 2 2 0^qf 15 2^qs 15 2 4 1)<|rs 119 (qm 5^qm 5^qm 4^qf 14 1^qs 14 1 3 0^qf 15 1^qs 15 1 5 1^qf 15 0^qs 15 1 7 2)<|rt 125 (qb 6 5^qb 14 17^qd 304^qb 15 17^qd 304^qt 12 5 4^qT 13) .ret
def F273:F:=mF 6 [.cell 12 (some 5),.t 13] none c273
def c274:C:=rs 0 (qB 6 0^qG 12 z_8^qF 13)<|i1 19 (qb 6 5^qc 246^qn^yo^qm 1^qc 292^qn^zo 3^yo^qm 2^qc 292^qn^zo 8^yo^qm 4^qc 292^qn^zo 13^yo^qm 5^qc 292^qn^zO 18) 41 (rs 42 (qb 6 5^qt 12 5 0^qF 13) .ret)<|rt 43 (qb 6 5^qm 1^qd 248^qb 6 5^qm 4^qd 248^qG 14 z_10^qG 15 z_10^qs 14 17 6 2^qs 15 17 7 5)<|i1 49 (qr 14 0^qk .gtr 0^ya^qr 15 0^qk .gtr 0^za 3^ya^qr 14 1^qm 5^qq .eql 10^za 8^ya^qr 15 1^qm 5^qq .eql 16^za 14^ya^qf 14 2^qg 1^ql 14^qm 3^qq .eql 23^zA 20) 75 (rs 76 (qb 6 5^qt 12 5 0^qT 13) .ret)<|rs 78 (qR 14 2 2^qm 3^qd 183^q2 77 (.mov (.l 3))^qx 0^qy 1^qY 4 2^qG 16 z_1^qG 17 z_1^qs 16 2 8 5^qs 17 2 9 6^qV 18 7)<|i1 85 (qb 14 17^qc 310^qn^yo^qr 14 1^qm 2^qq .neq 5^zo 3^yo^qm 5^qm 2^qq .leq 10^zo 9^yo^qm 5^qr 14 16^qq .leq 15^zo 14^yo^qr 15 0^qk .gtr 0^zo 20^yo^qr 6 0^eq^qk .gtr 7^zo 25^yo^qm 18^qk .neq 0^zO 31) 119 (rs 120 (qb 6 5^qt 12 5 0^qF 13) .ret)<|rs 121 (qb 14 17^qt 15 17 0)<|rt 122 (qm 4^qm 5^qb 17 2^qr 14 5^qm 3^qC 212 [.l 4,.l 5,cb false]^qf 15 0^qs 15 1 7 0^qf 15 1^qs 15 1 9 1^qf 15 2^qs 15 2 11 2^qf 15 5^qs 15 1 13 6)<|rt 133 (qm 5^qb 16 2^qr 14 5^qm 3^qC 212 [.l 3,.l 4,cb true]^qf 14 1^qs 14 1 6 0^qf 14 2^qs 14 2 8 1^qf 14 5^qs 14 1 10 5)<|rt 142 (qb 6 5^qb 14 17^qC 297 [.l 0,.l 1,cb false]^qb 15 17^qC 297 [.l 2,.l 3,cb false]^qt 12 5 4^qT 13) .ret
def F274:F:=mF 6 [.cell 12 (some 5),.t 13] none c274
def c275:C:=rs 0 (qB 5 0^qG 10 z_8^qF 11)<|i1 20 (qb 5 5^qc 249^qn^yo^qm 1^qm 2^qm 3^qm 4^q1 (.mks 1 4 [.int .i64 0] [(0,.l 4),(1,.l 5),(2,.l 6),(3,.l 7)])^qC 284 [ci 1,.l 8]^qn^zO 3) 31 (rs 32 (qb 5 5^qt 10 5 0^qF 11) .ret)<|rt 33 (qb 5 5^qm 1^qd 287^qb 5 5^qm 2^qd 287^qG 12 z_10^qG 13 z_10^qs 12 17 6 2^qs 13 17 7 5)<|i1 39 (qr 12 0^qk .neq 0^ya^qr 12 1^qm 4^qq .eql 5^za 3^ya^qr 13 0^qk .eql 0^zA 9) 52 (rs 53 (qb 5 5^qt 10 5 0^qT 11) .ret)<|i1 54 (qb 12 17^qm 3^qd 309^qn^yo^qb 13 17^qr 13 1^qC 309 (ls [5,7])^qn^zo 4^yo^qm 4^qr 12 1^qq .leq 12^zo 11^yo^qm 4^qr 13 1^qq .leq 18^zo 17^yo^qr 12 16^qm 4^qq .geq 25^zO 23) 82 (rs 83 (qb 5 5^qt 10 5 0^qF 11) .ret)<|rs 85 (qR 12 2 2^qR 13 2 2^qC 311 (ls [1,3])^q2 84 (.mov (.l 4))^qx 0^qy 1^qG 14 z_1^qs 14 2 8 6^qV 15 7)<|rs 93 (qr 12 5^qr 13 5^qC 213 (ls [1,3])^q2 92 (.mov (.l 4))^qx 0^qy 1^qw 16^qw 17)<|rs 101 (qr 12 12^qr 13 12^qC 91 (ls [1,3])^q2 100 (.mov (.l 4))^qx 0^qy 1^qw 18^qw 19)<|i1 108 (qm 15^qk .neq 0^yo^qm 17^qk .neq 0^zo 2^yo^qm 19^qk .neq 0^zO 6) 117 (rs 118 (qb 5 5^qt 10 5 0^qF 11) .ret)<|rs 119 (qb 14 2^qm 18^qm 4^qf 12 2^qs 12 2 3 0^qf 12 12^qs 12 1 5 1^qf 12 1^qs 12 1 7 2^qf 12 15^qu 12 9 0)<|rs 126 (qR 12 6 3^qR 13 6 3^qC 21 (ls [1,3])^qf 12 6^qs 12 3 5 4)<|rs 132 (qm 16^qR 12 6 3^qC 217 (ls [0,2])^qf 12 5^qs 12 1 4 3)<|rt 137 (qr 12 14^qr 13 14^q1 (.mm true (.l 1) (.l 3))^qr 12 16^qr 13 16^q1 (.mm true (.l 6) (.l 8))^qf 12 14^qs 12 1 10 4^qf 12 16^qs 12 1 12 9)<|rs 149 (qb 5 5^qb 12 17^qd 304^qm 2^qd 308^qt 10 5 4^qT 11) .ret
def F275:F:=mF 5 [.cell 10 (some 5),.t 11] none c275
def c276:C:=rs 0 (qB 5 0^qG 10 z_8^qF 11)<|i1 20 (qb 5 5^qc 246^qn^yo^qm 1^qc 292^qn^zo 3^yo^qm 2^qc 292^qn^zo 8^yo^qm 3^qc 292^qn^zo 13^yo^qm 4^qc 292^qn^zO 18) 42 (rs 43 (qb 5 5^qt 10 5 0^qF 11) .ret)<|rt 44 (qb 5 5^qm 1^qd 248^qb 5 5^qm 2^qd 248^qG 12 z_10^qG 13 z_10^qs 12 17 6 2^qs 13 17 7 5)<|i1 50 (qr 12 0^qk .gtr 0^ya^qr 12 1^qm 4^qq .eql 5^za 3^ya^qr 13 0^qk .eql 0^zA 9) 63 (rs 64 (qb 5 5^qt 10 5 0^qT 11) .ret)<|i1 65 (qb 12 17^qc 310^qn^yo^qb 13 17^qc 310^qn^zo 3^yo^qr 12 1^qm 3^qq .neq 10^zo 8^yo^qm 4^qr 12 1^qq .leq 15^zo 14^yo^qm 4^qr 13 1^qq .leq 21^zo 20^yo^qm 4^qr 12 16^qq .leq 27^zO 26) 96 (rs 97 (qb 5 5^qt 10 5 0^qF 11) .ret)<|rs 99 (qR 12 2 2^qR 13 2 2^qC 184 (ls [1,3])^q2 98 (.mov (.l 4))^qx 0^qy 1^qG 14 z_1^qs 14 2 8 6^qV 15 7)<|rs 107 (qr 12 5^qr 13 5^qC 214 (ls [1,3])^q2 106 (.mov (.l 4))^qx 0^qy 1^qw 16^qw 17)<|rs 115 (qr 12 12^qr 13 12^qC 92 (ls [1,3])^q2 114 (.mov (.l 4))^qx 0^qy 1^qw 18^qw 19)<|i1 122 (qm 15^qm 17^qq .add 0^qm 19^qq .add 2^qK .neq 0) 127 (rs 128 (qb 5 5^qt 10 5 0^qF 11) .ret)<|rs 129 (qR 12 6 3^qR 13 6 3^qC 306 (ls [1,3])^qf 12 6^qs 12 3 5 4)<|rt 135 (qb 14 2^qm 18^qm 4^qm 16^qR 12 6 3^qC 218 (ls [3,5])^qf 12 2^qs 12 2 7 0^qf 12 12^qs 12 1 9 1^qf 12 1^qs 12 1 11 2^qf 12 15^qu 12 13 0^qf 12 5^qs 12 1 15 6)<|i1 147 (qr 13 14^qr 12 14^qQ .gtr 1) 151 (r1 152 (qr 13 14^qf 12 14^qs 12 1 2 1))<|i1 155 (qr 13 16^qr 12 16^qQ .gtr 1) 159 (r1 160 (qr 13 16^qf 12 16^qs 12 1 2 1))<|rt 163 (qb 5 5^qb 13 17^qC 297 [.l 0,.l 1,cb true]^qb 12 17^qC 297 [.l 2,.l 3,cb false]^qt 10 5 4^qT 11) .ret
def F276:F:=mF 5 [.cell 10 (some 5),.t 11] none c276
def c284:C:=rs 0 (qB 2 0^qF 4)<|rs 5 (qm 1^q1 (.fn 313 [.g 2] [2])^qd 67^qn^qv 4) .ret
def F284:F:=mF 2 [.t 4] none c284
def c285:C:=rs 0 (qB 1 0^qF 2)<|i1 3 (qr 1 0^qr 1 1^q1 (.mks 1 2 [.int .i64 0] [(0,.l 1),(1,.l 3)])^qC 284 [ci 1,.l 4]^qn^yo^qr 1 2^qk .lss 1^zo 7^yo^qr 1 2^qk .gtr 6^zo 12^yo^qr 1 4^ge^qk .gtr 16^zo 17^yo^qr 1 6^ge^qk .gtr 16^zo 23^yo^qr 1 11^qk .lss 0^zo 29^yo^qr 1 11^qk .gtr 8^zo 34^yo^qR 1 7 3^qc 28^qn^zo 39^yo^qr 1 10^q1 (.bin .neq (.l 47) (.c (.str [])))^ya^qr 1 10^qc 170^qn^y0 45^qa 49^zO 45) 58 (rs 0 (qF 2) .ret)<|i1 59 (qr 1 2^qK .eql 6) 61 (rs 62 (qr 1 3^q1 (.bin .eql (.l 1) (.c (.str [])))^yo^qr 1 3^qc 170^zo 3^ya^qr 1 11^qk .geq 1^za 8^qv 2) .ret)<|rs 75 (qr 1 3^qc 170^qv 2) .ret
def F285:F:=mF 1 [.t 2] none c285
def c286:C:=rs 0 (qG 2 z_9)<|rs 3 (qm 0^q1 (.build z_9 [(0,1,.l 0)])^qt 2 9 1) .ret
def F286:F:=mF 1 [.cell 2 (some 9)] none c286
def c287:C:=rs 0 (qB 2 0^qG 4 z_10)<|sq (rs 8 (qb 2 5^qm 1^qd 314^q2 7 (.mov (.l 2))^qx 0^qy 1^qw 5^qw 6)<|rs 13 (q3 (.mov (.g 6)))<|cd 13 (rs 14 (qr 2 0^qm 5^qi 17^qJ 17^qt 4 17 4) .ret) .skip)<|rs 19 (q1 (.build z_10 [])^qt 4 17 0) .ret
def F287:F:=mF 2 [.cell 4 (some 17)] none c287
def c288:C:=rs 0 (qB 1 0^qF 2)<|rs 3 (qr 1 2^qk .eql 1^yo^qr 1 2^qk .eql 2^zo 3^yo^qr 1 2^qk .eql 3^zo 8^qv 2) .ret
def F288:F:=mF 1 [.t 2] none c288
def LN:C:=rs 56 (qr 6 2^qk .eql 3^ya^qr 12 4^qr 6 5^q1 (.eqb true (.l 5) (.l 7))^yo^qr 12 4^ya^qr 12 5^qr 6 6^qq .neq 14^y0 9^qa 12^y1 3^qo 9^za 3^qv 55)<|cd 55 (r2 77 (qr 12 5^qf 13 0^qu 13 2 15^qf 13 5^qs 13 1 4 1)) (rs 82 (qr 6 2^qk .neq 2^qv 81)<|cd 81 (r1 86 (qr 5 5^qr 6 3^qb 7 3^qr 6 4^q1 (.build z_2 [(0,3,.l 4),(4,1,.l 6)])^qC 200 (ls [1,3,7])^q2 85 (.mov (.l 8))^qx 0^qy 1^qf 5 5^qs 5 1 12 10^qV 14 11)) (rs 99 (qr 12 4^qv 98)<|cd 98 (r1 102 (qr 5 5^qr 6 3^qb 7 3^q1 (.build z_2 [(0,3,.l 4),(3,1,.c (.bool true))])^qC 200 (ls [1,3,5])^q2 101 (.mov (.l 6))^qx 0^qy 1^qf 5 5^qs 5 1 10 8^qV 14 9)) .skip))
def LJ:C:=i1 112 (qm 14^qK .neq 0) 113 (rt 114 (qb 4 5^qm 14^qc 286^qt 8 5 0^qt 9 9 2) .ret)<|sq (rs 118 (qr 5 12^qr 6 0^qr 6 1^qb 13 9^q1 (.build z_4 [(0,1,.l 3),(1,1,.l 5),(2,9,.l 6)])^qC 88 (ls [1,7])^q2 117 (.mov (.l 8))^qx 0^qy 1^qf 5 12^qs 5 1 12 10^qV 14 11)<|rs 130 (qm 14^qK .neq 0)<|cd 131 (rt 132 (qb 4 5^qm 14^qc 286^qt 8 5 0^qt 9 9 2) .ret) .skip)<|rs 135 (qb 4 5^qb 5 17^qd 304^qt 4 5 2)<|rs 138 (qb 7 3^qf 4 1^qs 4 3 1 0)<|rt 140 (qb 4 5^qb 13 9^qt 8 5 0^qt 9 9 1) .ret
def c289:C:=rs 0 (qB 4 0^qB 5 1^qB 6 2^qB 7 3^qG 8 z_8^qG 9 z_9)<|sq (rs 15 (qr 5 12^qr 6 0^qr 6 1^q3 (.call (.k 82) .no none [.l 1,.l 3,.l 5]))<|bk 0 (rs 23 (q1 (.bin .eql (.g 21) (ci 2))^qv 22)<|cd 22 (rs 25 (qr 5 12^qr 6 0^qC 84 (ls [1,3])^q2 24 (.mov (.l 4))^qx 0^qy 1^qG 10 z_4^qs 10 11 8 6^qD 11^q1 (.mov (.l 7)))<|rt 32 (qb 4 5^qR 10 2 9^qt 8 5 0^qt 9 9 2) .ret) (rs 36 (q1 (.bin .eql (.g 21) (ci 3))^qv 35)<|cd 35 (rt 37 (qb 4 5^qC 286 [ci 10]^qt 8 5 0^qt 9 9 1) .ret) .skip)))<|i1 39 (qb 7 3^qR 4 1 3^qC 15 (ls [0,2])^qK .leq 0) 43 (rt 44 (qb 4 5^qC 286 [ci 1]^qt 8 5 0^qt 9 9 1) .ret)<|rs 46 (qb 4 5^qb 5 17^qr 6 3^qC 290 (ls [0,1,3])^qG 12 z_9^qs 12 9 5 4)<|rs 51 (qb 7 3^qr 12 4^q1 (.build z_9 [(1,3,.l 0),(4,1,.l 2)])^qG 13 z_9^qs 13 9 4 3)<|rs 0 (qz 14 0)<|sq (bk 1 LN) LJ
def F289:F:=mF 4 [.cell 8 (some 5),.cell 9 (some 9)] none c289
def c290:C:=rs 0 (qB 3 0^qB 4 1^qG 6 z_9)<|rs 10 (qr 4 5^qm 2^qR 3 1 3^qC 312 (ls [1,2,4])^q2 9 (.mov (.l 5))^qx 0^qy 1^qG 7 z_2^qs 7 5 9 7^qV 8 8)<|rs 18 (qR 7 0 3^qm 8^ya^qr 7 3^qn^za 3^qr 7 4^q1 (.build z_9 [(1,3,.l 1),(4,1,.l 7),(5,1,.l 9)])^qt 6 9 10) .ret
def F290:F:=mF 3 [.cell 6 (some 9)] none c290
def c291:C:=rs 0 (qB 4 0^qB 5 1^qB 6 2^qG 8 z_8^qG 9 z_9)<|sq (bk 0 (rs 16 (qR 6 7 3^qR 5 6 3^qC 15 (ls [1,3])^qk .lss 0^qv 15)<|cd 15 (rt 22 (qb 4 5^qC 286 [ci 13]^qt 8 5 0^qt 9 9 1) .ret)<|rs 25 (qf 6 7^qg 0^ql 6^qk .sub 1000^qm 3^qq .gtr 3^qv 24)<|cd 24 (rt 31 (qb 4 5^qC 286 [ci 12]^qt 8 5 0^qt 9 9 1) .ret) .skip))<|rs 33 (qR 4 1 3^qR 6 7 3^qC 21 (ls [1,3])^qf 4 1^qs 4 3 5 4)<|rs 39 (qR 6 7 3^q1 (.build z_9 [(1,3,.l 1)])^qG 10 z_9^qs 10 9 3 2)<|i1 42 (qr 6 2^qK .eql 5) 44 (rs 46 (qr 5 5^qr 6 3^qR 6 7 3^qC 312 (ls [1,3,5])^q2 45 (.mov (.l 6))^qx 0^qy 1^qG 11 z_2^qs 11 5 10 8^qV 12 9)<|rt 55 (qm 12^ya^qr 11 3^qn^za 1^qr 11 4^qf 10 4^qs 10 1 8 5^qf 10 5^qs 10 1 10 7)<|rt 65 (qb 4 5^qb 10 9^qt 8 5 0^qt 9 9 1) .ret)<|rs 67 (qr 6 10^qv 13)<|rs 69 (qf 5 2^qg 1^ql 5^q1 (.bin .neq (.l 2) (.c (.str [])))^ya^qm 13^q1 (.bin .eql (.l 5) (.c (.str [])))^yo^qf 5 2^qg 1^ql 5^qm 13^qd 192^qk .lss 0^y1 4^qo 7^za 4^qv 14)<|i1 85 (q3 (.mov (.g 14))) 85 (r1 86 (qf 5 2^qg 1^ql 5^qv 13))<|rs 90 (qr 5 5^qr 6 3^qm 13^qR 6 7 3^qr 6 11^qC 206 (ls [1,3,4,6,8])^q2 89 (.mov (.l 9))^qx 0^qy 1^qY 10 2^qf 10 6^qs 10 1 14 11^qf 10 7^qs 10 1 16 12^qf 10 8^qs 10 1 18 13)<|i1 106 (qm 14^ya^qr 10 8^qn^zA 1) 111 (r1 112 (qm 13^qf 10 7^qs 10 1 1 0^qf 10 8^q5 (.store (.v 10) 1 (.l 3) (cb true))))<|rt 115 (qb 4 5^qb 10 9^qt 8 5 0^qt 9 9 1) .ret
def F291:F:=mF 4 [.cell 8 (some 5),.cell 9 (some 9)] none c291
def c292:C:=rs 0 (qF 2)<|rs 3 (qm 0^qk .gtr 0^ya^qm 0^qk .leq 1099511627776^za 2^qv 2) .ret
def F292:F:=mF 1 [.t 2] none c292
def c293:C:=rs 0 (qF 2)<|rs 3 (qm 0^qk .eql 0^yo^qm 0^qc 292^zo 2^qv 2) .ret
def F293:F:=mF 1 [.t 2] none c293
def c294:C:=rs 0 (qB 1 0^qF 2)<|i1 3 (qr 1 0^qc 292^qn^yo^qr 1 1^qc 292^qn^zo 4^yo^qr 1 4^ge^qk .gtr 16^zo 10^yo^qr 1 6^ge^qk .gtr 16^zo 16^yo^qR 1 7 3^qc 24^qn^zo 22^yo^qr 1 10^ge^qk .gtr 0^ya^qr 1 10^qc 168^qn^y0 28^qa 33^zO 28) 42 (rs 0 (qF 2) .ret)<|i1 43 (qr 1 2^qK .eql 6) 45 (rs 46 (qr 1 11^qk .gtr 0^ya^qr 1 11^qk .lss 9^za 3^ya^qr 1 3^ge^qk .eql 0^yo^qr 1 3^qc 168^y1 8^qo 13^za 8^qv 2) .ret)<|rs 65 (qr 1 2^qk .gtr 0^ya^qr 1 2^qk .lss 6^za 3^ya^qr 1 11^qk .geq 0^za 8^ya^qr 1 11^qk .lss 9^za 13^ya^qr 1 3^qc 168^za 18^qv 2) .ret
def F294:F:=mF 1 [.t 2] none c294
def c295:C:=rs 0 (qG 2 z_9)<|rs 3 (qm 0^q1 (.build z_9 [(0,1,.l 0)])^qt 2 9 1) .ret
def F295:F:=mF 1 [.cell 2 (some 9)] none c295
def c296:C:=rs 0 (qB 4 0^qB 5 1^qB 6 2^qG 8 z_8^qG 9 z_9)<|i1 14 (qR 6 7 3^qR 5 6 3^q3 (.call (.k 6) .no none [.l 1,.l 3])) 18 (rt 19 (qb 4 5^qC 295 [ci 13]^qt 8 5 0^qt 9 9 1) .ret)<|i1 21 (qf 6 7^qg 0^ql 6^qm 3^qk .add 1000^qQ .gtr 2) 26 (rt 27 (qb 4 5^qC 295 [ci 12]^qt 8 5 0^qt 9 9 1) .ret)<|rs 29 (qR 4 1 3^qR 6 7 3^qC 306 (ls [1,3])^qf 4 1^qs 4 3 5 4)<|i1 35 (qr 6 2^qK .eql 5) 37 (rt 39 (qr 5 5^qr 6 3^qC 223 (ls [1,3])^qR 6 7 3^qC 13 (ls [4,6])^q2 38 (.mov (.l 7))^qx 0^qy 1^qw 10^qw 11)<|rt 49 (qb 4 5^qR 6 7 3^qm 11^qm 10^q1 (.build z_9 [(1,3,.l 2),(4,1,.l 3),(5,1,.l 4)])^qt 8 5 0^qt 9 9 5) .ret)<|rs 55 (qR 6 7 3^q1 (.build z_9 [(1,3,.l 1)])^qG 12 z_9^qs 12 9 3 2)<|rs 58 (qr 6 10^qv 13)<|i1 60 (qf 5 2^qg 1^ql 5^ge^qk .gtr 0^ya^qm 13^ge^qk .eql 0^yo^qf 5 2^qg 1^ql 5^qm 13^qd 187^qk .lss 0^y1 5^qo 9^zA 5) 77 (r1 78 (qf 5 2^qg 1^ql 5^qv 13))<|rs 82 (qr 5 5^qr 6 3^qm 13^qR 6 7 3^qr 6 11^qC 207 (ls [1,3,4,6,8])^q2 81 (.mov (.l 9))^qx 0^qy 1^qY 10 2^qf 12 6^qs 12 1 14 11^qf 12 7^qs 12 1 16 12^qf 12 8^qs 12 1 18 13)<|i1 98 (qr 12 8^qn^ya^qm 13^qr 6 10^qq .neq 4^zA 3) 106 (r1 107 (qm 13^qf 12 7^qs 12 1 1 0^qf 12 8^q5 (.store (.v 12) 1 (.l 3) (cb true))))<|rt 110 (qb 4 5^qb 12 9^qt 8 5 0^qt 9 9 1) .ret
def F296:F:=mF 4 [.cell 8 (some 5),.cell 9 (some 9)] none c296
def l297_0:C:=em (lq 11 (qm 9^qr 3 0^eq^qQ .lss 0) 15 0<|sq (bk 1 (i2 18 (qm 8^qn^ya^qr 4 0^qr 3 0^qm 9^qi 17^qg 0^qj^qq .leq 4^zA 2) 30 (rs 31 (qm 7^qb 4 17^q1 (.mks 17 1 z_10 [(0,.l 1)])^q1 (.app 7 17 (.l 0) (.l 2))^qv 7)<|r1 0 (qT 8))<|rt 35 (qr 3 0^qm 9^qi 17^qg 0^qj^qr 4 0^qQ .neq 5)<|cd 43 (r1 44 (qm 7^qr 3 0^qm 9^qi 17^qJ 17^q1 (.mks 17 1 z_10 [(0,.l 5)])^q1 (.app 7 17 (.l 0) (.l 6))^qv 7)) .skip))<|r1 16 (qm 9^qk .add 1^qv 9))
def c297:C:=rs 0 (qB 3 0^qB 4 1^qG 6 z_8)<|rs 7 (q3 (.mko 17))<|rs 10 (qm 2^qv 8)<|sq (rs 0 (qz 9 0)<|bk 0 l297_0)<|i1 52 (qm 8^qN) 53 (r1 54 (qm 7^qb 4 17^q1 (.mks 17 1 z_10 [(0,.l 1)])^q1 (.app 7 17 (.l 0) (.l 2))^qv 7))<|rs 58 (qm 7^qf 3 0^qs 3 1 1 0)<|rs 60 (qb 3 5^qt 6 5 0) .ret
def F297:F:=mF 3 [.cell 6 (some 5)] none c297
def c298:C:=rs 0 (qB 2 0^qF 3)<|rs 4 (qf 1 2^qJ 2^qr 2 0^qC 171 (ls [1,3])^qn^qv 3) .ret
def F298:F:=mF 2 [.t 3] none c298
def c299:C:=rs 0 (qF 4)<|rs 5 (qm 0^qm 1^qd 315^qk .geq 0^qv 4) .ret
def F299:F:=mF 2 [.t 4] none c299
def l300_1:C:=em (lq 14 (qm 6^qr 2 5^qm 5^qi 2^qg 1^qj^eq^qQ .lss 0) 22 2<|sq (bk 3 (rt 25 (qb 3 3^qr 2 5^qm 5^qi 2^qg 1^qj^qm 6^qi 5^qg 0^qJ 3^q3 (.call (.k 6) .no none [.l 0,.l 10]))<|cd 36 (rs 0 (qF 4) .ret) .skip))<|r1 23 (qm 6^qk .add 1^qv 6))
def l300_0:C:=em (lq 7 (qm 5^qr 2 5^eq^qQ .lss 0) 11 0<|sq (bk 1 (rs 0 (qz 6 0)<|bk 2 l300_1))<|r1 12 (qm 5^qk .add 1^qv 5))
def c300:C:=rs 0 (qB 2 0^qB 3 1^qF 4)<|sq (rs 0 (qz 5 0)<|bk 0 l300_0)<|rs 0 (qT 4) .ret
def F300:F:=mF 2 [.t 4] none c300
def c301:C:=rs 0 (qB 2 0^qB 3 1^qF 4)<|rs 5 (qr 2 5^q1 (.fn 316 [.g 3] [3])^qd 299^qn^qv 4) .ret
def F301:F:=mF 2 [.t 4] none c301
def c302:C:=rs 0 (qB 2 0^qF 4)<|rs 5 (qr 2 4^qk .eql 3^ya^qr 2 15^qm 1^qq .eql 5^za 3^qv 4) .ret
def F302:F:=mF 2 [.t 4] none c302
def c303:C:=rs 0 (qB 2 0^qF 4)<|rs 5 (qr 2 4^qk .eql 2^ya^qr 2 15^qm 1^qq .eql 5^za 3^qv 4) .ret
def F303:F:=mF 2 [.t 4] none c303
def c304:C:=rs 0 (qB 2 0^qB 3 1^qG 4 z_8)<|rs 8 (qb 2 5^qr 3 0^q1 (.call (.k 314) .borrow none [.l 0,.l 2])^q2 7 (.mov (.l 3))^qx 0^qy 1^qw 5^qw 6)<|rs 14 (qr 2 0^q1 (.call (.k 307) .freeze (some 0) [.l 1])^qf 2 0^qs 2 1 3 2)<|sq (rs 18 (q3 (.mov (.g 6)))<|cd 18 (r1 19 (qr 2 0^qm 5^qb 3 17^q1 (.iad 17 (.l 1) (.l 2))^q5 (.store (.e 16) 17 (.l 4) (.l 3))))<|r1 24 (qr 2 0^qm 5^qb 3 17^q1 (.mks 17 1 z_10 [(0,.l 3)])^q1 (.ins 317 16 17 (.l 1) (.l 2) (.l 4))^qf 2 0^qs 2 1 6 5))<|rs 31 (qb 2 5^qt 4 5 0) .ret
def F304:F:=mF 2 [.cell 4 (some 5)] none c304
def c305:C:=rs 0 (qB 3 0^qF 6)<|rs 7 (qr 3 0^qk .gtr 0^ya^qr 3 4^qm 1^qq .eql 5^za 3^ya^qr 3 15^qm 2^qq .eql 11^za 9^qv 6) .ret
def F305:F:=mF 3 [.t 6] none c305
def c306:C:=rs 0 (qB 2 0^qB 3 1^qG 4 z_3)<|i1 5 (qb 2 3^qb 3 3^q3 (.call (.k 6) .no none [.l 0,.l 1])) 7 (rs 8 (qb 3 3^qt 4 3 0) .ret)<|rs 9 (qb 2 3^qt 4 3 0) .ret
def F306:F:=mF 2 [.cell 4 (some 3)] none c306
def c308:C:=rs 0 (qB 2 0^qG 4 z_8)<|sq (rs 8 (qb 2 5^qm 1^q1 (.call (.k 314) .borrow none [.l 0,.l 1])^q2 7 (.mov (.l 2))^qx 0^qy 1^qw 5^qw 6)<|rs 13 (q3 (.mov (.g 6)))<|cd 13 (r1 14 (qr 2 0^q1 (.call (.k 307) .freeze (some 0) [.l 1])^qm 5^qm 5^qk .add 1^q1 (.del 318 16 17 (.l 2) (.l 3) (.l 5))^qf 2 0^qs 2 1 7 6)) .skip)<|rs 22 (qb 2 5^qt 4 5 0) .ret
def F308:F:=mF 2 [.cell 4 (some 5)] none c308
def c309:C:=rs 0 (qB 2 0^qF 4)<|rs 5 (qr 2 0^qk .neq 0^ya^qr 2 1^qm 1^qq .eql 5^za 3^ya^qr 2 4^qk .eql 1^za 9^ya^qr 2 13^qk .eql 0^za 14^qv 4) .ret
def F309:F:=mF 2 [.t 4] none c309
def c310:C:=rs 0 (qB 1 0^qF 2)<|rs 3 (qr 1 0^qk .gtr 0^ya^qr 1 4^qk .eql 1^za 3^ya^qr 1 13^qk .eql 0^za 8^qv 2) .ret
def F310:F:=mF 1 [.t 2] none c310
def c311:C:=rs 0 (qB 2 0^qB 3 1^qG 4 z_1^qz 5 0)<|sq (bk 0 (rs 7 (qb 2 2^qc 186^qn^yo^qb 3 2^qc 186^qn^zo 3^qv 6)<|cd 6 (rs 15 (q1 (.build z_1 [])^qt 4 2 0^qz 5 1) .ret)<|rs 17 (qr 2 1^q1 (.bin .eql (.l 1) (.c (.str [])))^yo^qr 2 1^qr 3 0^qq .neq 5^zo 3^qv 16)<|cd 16 (rs 27 (q1 (.build z_1 [])^qt 4 2 0^qz 5 9) .ret) .skip))<|rs 28 (qr 2 0^qr 3 1^q1 (.build z_1 [(0,1,.l 1),(1,1,.l 3)])^qt 4 2 4^qz 5 0) .ret
def F311:F:=mF 2 [.cell 4 (some 2),.t 5] none c311
def c312:C:=rs 0 (qB 5 2^qG 6 z_2^qF 7)<|i1 10 (qm 0^qc 203^qN) 12 (rs 13 (q1 (.build z_2 [])^qt 6 5 0^qF 7) .ret)<|rs 15 (qm 0^qm 1^qd 220^q2 14 (.mov (.l 2))^qx 0^qy 1^qw 8^qw 9)<|i1 20 (qm 9^qN) 21 (rs 22 (q1 (.build z_2 [])^qt 6 5 0^qF 7) .ret)<|rt 23 (qm 0^qm 8^qi 2^qg 1^qj^qb 5 3^qd 10^qx 0^qy 1^qt 6 5 7^qw 7) .ret
def F312:F:=mF 3 [.cell 6 (some 5),.t 7] none c312
def c313:C:=rs 0 (qF 3)<|rs 4 (qm 0^q1 (.load (.c) none (.g 1))^qq .lss 0^yo^qm 0^qk .gtr 1099511627776^zo 3^qv 3) .ret
def F313:F:=mF 2 [.t 3] none c313
def c314:C:=rs 0 (qB 2 0^qz 4 0^qF 5)<|rs 6 (qr 2 0^qm 1^qC 319 [.l 1,.l 2,.f 320]^qx 0^qy 1^qw 4^qw 5) .ret
def F314:F:=mF 2 [.t 4,.t 5] none c314
def l315_0:C:=em (rs 9 (q3 (.bin .lss (.g 8) (.g 7)))<|sq (cd 9 .skip<|.exit 0)<|sq (bk 1 (rs 10 (qm 8^qv 5)<|rs 11 (qm 1^qm 0^qm 5^qi 2^qJ 2^q3 (.call (.v (.l 0)) .no none [.l 4]))<|cd 16 (rs 17 (qm 5^qv 4) .ret) .skip))<|r1 18 (q1 (.bin .add (.g 8) (ci 1))^qv 8))
def c315:C:=rs 0 (qz 4 0)<|sq (rs 6 (qm 0^qH false^q3 (.mov (ci 0)))<|bk 0 l315_0)<|rs 0 (qz 4 (-1)) .ret
def F315:F:=mF 2 [.t 4] none c315
def c316:C:=rs 0 (qB 2 0^qF 3)<|rt 4 (qr 2 1^qr 2 1^eq^qk .sub 1^q1 (.iad 5 (.l 1) (.l 5))^qg 0^qJ 3^q1 (.load (.c) (some 3) (.g 1))^qd 15^qk .gtr 0^qv 3) .ret
def F316:F:=mF 2 [.t 3] none c316
def l319_0:C:=em (lq 15 (qm 9^qm 10^qQ .lss 0) 17 0<|bk 1 (rs 18 (qm 9^qm 10^qq .add 0^q1 (.conv (.int .u64) (.l 2))^q1 (.sh .shr (.l 3) (.c (.int .u64 1)))^q1 (.conv (.int .i64) (.l 4))^qv 11)<|rs 24 (qm 2^qm 0^qm 11^qi 17^qJ 17^qm 1^q1 (.call (.v (.l 0)) .no none [.l 4,.l 5])^qK .lss 0)<|cd 31 (r1 32 (qm 11^qk .add 1^qv 9))<|r1 34 (qm 11^qv 10)))
def c319:C:=rs 0 (qz 6 0^qF 7)<|rs 12 (qm 0^eq^qv 8)<|rs 14 (qm 8^qz 9 0^qw 10)<|sq (bk 0 l319_0)<|rs 35 (qm 9^qm 9^qm 8^qq .lss 1^ya^qm 2^qm 0^qm 9^qi 17^qJ 17^qm 1^q1 (.call (.v (.l 5)) .no none [.l 9,.l 10])^qk .eql 0^za 4^qV 6 0^qw 7) .ret
def F319:F:=mF 3 [.t 6,.t 7] none c319
def c320:C:=rs 0 (qB 2 0^qz 4 0)<|rs 5 (qr 2 0^qm 1^qq .sub 1^qv 4) .ret
def F320:F:=mF 2 [.t 4] none c320
attribute [go_sem] c238 F238 c240 F240 c241 F241 c242 F242 c244 F244 r245_10 c245 F245 c246 F246 c247 F247 c248 F248 c249 F249 c250 F250 c252 F252 c253 F253 c254 F254 c256 F256 c257 F257 c258 F258 c259 F259 c261 F261 c262 F262 c263 F263 c265 F265 c266 F266 c267 F267 c269 F269 c270 F270 c271 F271 c273 F273 c274 F274 c275 F275 c276 F276 c284 F284 c285 F285 c286 F286 c287 F287 c288 F288 c289 F289 c290 F290 c291 F291 c292 F292 c293 F293 c294 F294 c295 F295 c296 F296 c297 F297 c298 F298 c299 F299 c300 F300 c301 F301 c302 F302 c303 F303 c304 F304 c305 F305 c306 F306 c308 F308 c309 F309 c310 F310 c311 F311 c312 F312 c313 F313 c314 F314 c315 F315 c316 F316 c319 F319 c320 F320
def c339:C:=rs 0 (qB 1 0^qF 2)<|rs 3 (qf 1 25^qg 6^ql 1^eq^qk .leq 40^ya^qr 1 34^eq^qk .leq 40^za 5^ya^qr 1 35^eq^qk .leq 40^za 11^ya^qr 1 12^ge^qk .leq 8192^za 17^qv 2) .ret
def F339:F:=mF 1 [.t 2] none c339
def c341:C:=rs 0 (qB 1 0^qF 2)<|i1 3 (qr 1 0^qk .lss 1^yo^qr 1 0^qk .gtr 37^zo 3^yo^qf 1 25^qg 0^ql 1^qk .lss 0^zo 8^yo^qf 1 25^qg 0^ql 1^qk .gtr 16^zo 14^yo^qf 1 25^qg 6^ql 1^eq^qk .gtr 8^zo 20^yo^qr 1 34^eq^qk .gtr 8^zo 27^yo^qr 1 35^eq^qk .gtr 8^zO 33) 41 (rs 0 (qF 2) .ret)<|i1 42 (qb 1 36^qc 366^q3 (.call (.k 67) .no none [.l 1,.f 367])) 44 (rs 0 (qF 2) .ret)<|rs 45 (qR 1 9 3^qc 28^ya^qf 1 13^qg 7^q1 (.load (.v 1) (some 3) (.l 5))^qc 28^za 3^ya^qf 1 25^qg 1^q1 (.load (.v 1) (some 3) (.l 11))^qc 28^za 9^qv 2) .ret
def F341:F:=mF 1 [.t 2] none c341
def c345:C:=rs 0 (qS 2 1)<|i1 3 (qm 0^qc 368^qN) 5 (rs 0 (qS 2 1) .ret)<|rs 6 (qm 0^qm 0^qk .rem 3^qk .add 1^q1 (.mks 1 2 [.int .i64 0] [(0,.l 0),(1,.l 3)])^qv 2) .ret
def F345:F:=mF 1 [.t 2] none c345
def l360_0:C:=em (lq 11 (qm 5^qm 0^eq^qQ .lss 0) 14 0<|sq (bk 1 (rt 17 (qm 0^qm 5^qi 36^qJ 36^qm 1^qm 5^qi 36^qJ 36^qC 372 (ls [3,7])^qN)<|cd 26 (rs 0 (qF 4) .ret) .skip))<|r1 15 (qm 5^qk .add 1^qv 5))
def c360:C:=rs 0 (qF 4)<|i1 6 (qm 0^eq^qm 1^eq^qQ .neq 1) 10 (rs 0 (qF 4) .ret)<|sq (rs 0 (qz 5 0)<|bk 0 l360_0)<|rs 0 (qT 4) .ret
def F360:F:=mF 2 [.t 4] none c360
def l366_0:C:=.loop [] [] [5] [] (rs 41 (q3 (.bin .lss (.g 40) (.g 39)))<|sq (cd 41 .skip<|.exit 0)<|sq (bk 1 (rs 42 (q1 (.iad 5 (.g 38) (.g 40))^qJ 5^qG 5 z_0^qs 5 5 2 1)<|r1 44 (qm 3^qr 5 2^qr 5 3^qr 5 4^q1 (.mks 1 3 [.int .i64 0] [(0,.l 2),(1,.l 4),(2,.l 6)])^q1 (.app 36 1 (.l 0) (.l 7))^qv 3)))<|r1 53 (q1 (.bin .add (.g 40) (ci 1))^qv 40))
def c366:C:=rs 0 (qB 1 0^qS 2 1)<|rs 6 (qr 1 0^qr 1 1^qr 1 2^qr 1 3^qr 1 4^qr 1 5^qr 1 6^qr 1 7^qr 1 8^qf 1 13^qg 0^ql 1^qf 1 13^qg 1^ql 1^qf 1 13^qg 2^ql 1^qf 1 13^qg 11^ql 1^q1 (.mkb 1 13 [.int .i64 0] [(0,.l 1),(1,.l 3),(2,.l 5),(3,.l 7),(4,.l 9),(5,.l 11),(6,.l 13),(7,.l 15),(8,.l 17),(9,.l 20),(10,.l 23),(11,.l 26),(12,.l 29)])^qv 3)<|sq (rs 37 (qf 1 34^q3 (.load (.v 1) none (.l 0))^qH false^q3 (.mov (ci 0)))<|bk 0 l366_0)<|rs 54 (qm 3^qr 1 35^q1 (.app 36 1 (.l 0) (.l 2))^qv 2) .ret
def F366:F:=mF 1 [.t 2] none c366
def c367:C:=rs 0 (qF 2)<|rs 3 (qm 0^qk .lss 0^yo^qm 0^qk .gtr 1099511627776^zo 2^qv 2) .ret
def F367:F:=mF 1 [.t 2] none c367
def c368:C:=rs 0 (qF 2)<|rs 3 (qm 0^qk .geq 1^ya^qm 0^qk .leq 3^za 2^qv 2) .ret
def F368:F:=mF 1 [.t 2] none c368
def l372_0:C:=em (lq 13 (qm 5^qr 2 35^eq^qQ .lss 0) 17 0<|sq (bk 1 (rt 20 (qr 2 35^qm 5^qi 1^qj^qr 3 35^qm 5^qi 1^qj^qQ .neq 4)<|cd 30 (rs 0 (qF 4) .ret) .skip))<|r1 18 (qm 5^qk .add 1^qv 5))
def c372:C:=rs 0 (qB 2 0^qB 3 1^qF 4)<|i1 6 (qr 2 35^eq^qr 3 35^eq^qQ .neq 2) 12 (rs 0 (qF 4) .ret)<|sq (rs 0 (qz 5 0)<|bk 0 l372_0)<|rs 31 (qr 2 0^qr 3 0^qq .eql 1^ya^qr 2 1^qr 3 1^qq .eql 7^za 5^ya^qr 2 2^qr 3 2^qq .eql 14^za 12^ya^qr 2 3^qr 3 3^qq .eql 21^za 19^ya^qr 2 4^qr 3 4^qq .eql 28^za 26^ya^qr 2 5^qr 3 5^qq .eql 35^za 33^ya^qr 2 6^qr 3 6^qq .eql 42^za 40^ya^qr 2 7^qr 3 7^qq .eql 49^za 47^ya^qr 2 8^qr 3 8^qq .eql 56^za 54^ya^qR 2 9 3^qR 3 9 3^q1 (.eqa false [.i,.i,.i] (.l 63) (.l 65))^za 61^ya^qr 2 12^qr 3 12^qq .eql 70^za 68^ya^qR 2 13 12^qR 3 13 12^q1 (.eqa false [.i,.i,.i,.s,.s,.b,.s,.i,.i,.i,.s,.i] (.l 77) (.l 79))^za 75^ya^qR 2 25 9^qR 3 25 9^qC 101 (ls [84,86])^za 82^ya^qr 2 34^qr 3 34^qC 153 (ls [91,93])^za 89^qv 4) .ret
def F372:F:=mF 2 [.t 4] none c372
attribute [go_sem] c339 F339 c341 F341 c345 F345 c360 F360 c366 F366 c367 F367 c368 F368 c372 F372
def c412:C:=rs 0 (qB 3 0^qB 5 2^qF 6)<|rs 12 (qb 3 2^qc 398^qG 7 z_11^qs 7 2 2 1)<|i1 14 (qb 7 2^qc 404^qn^yo^qb 5 36^qc 339^qn^zO 3) 21 (rs 22 (q0 400^qv 6) .ret)<|rs 24 (qb 3 2^qm 1^qb 5 36^qC 413 (ls [0,1,2])^q2 23 (.mov (.l 3))^qx 0^qy 1^qG 8 z_11^qs 8 2 7 5^qV 9 6)<|i1 30 (qb 7 2^qc 405^qn^yo^qb 5 36^qc 414^qn^zo 3^yo^qm 1^qk .lss 0^zo 8^yo^qm 1^qk .gtr 1099511627776^zo 12^yo^qr 5 2^qr 3 0^qq .neq 18^zO 16) 52 (rt 53 (qb 8 2^qc 398^qb 7 2^qd 399^ya^qm 9^eq^qk .eql 0^za 4^ya^q0 400^za 9^qv 6) .ret)<|rs 66 (qb 7 2^qm 1^qb 5 36^qC 415 (ls [0,1,2])^q2 65 (.mov (.l 3))^qx 0^qy 1^qG 10 z_11^qs 10 2 7 5^qV 11 6)<|rt 72 (qb 8 2^qc 398^qb 10 2^qd 399^ya^qm 9^qm 11^qd 360^za 4^ya^q0 400^za 9^qv 6) .ret
def F412:F:=mF 3 [.t 6] none c412
def l395_0:C:=.loop [] [] [8] [] (lq 19 (qm 5^qK .leq 3) 20 0<|sq (bk 1 (rs 24 (qm 5^q1 (.call (.k 397) .freeze none [.l 0])^q1 (.call (.k 401) .borrow none [.l 1])^q2 23 (.mov (.l 2))^qx 0^qy 1^qw 6^qD 7^q1 (.mov (.l 5)))<|rs 30 (qm 0^qm 5^q1 (.call (.k 345) .freeze none [.l 1])^qm 6^q1 (.call (.k 43) .freeze none [.l 0,.l 2,.l 3])^q2 29 (.mov (.l 4))^qx 0^qy 1^qG 8 z_5^qs 8 7 8 6^qV 9 7)<|rs 37 (qm 9^qK .eql 0)<|cd 38 (r1 39 (qr 4 1^qm 5^qb 8 7^q1 (.build z_12 [(0,1,.l 2),(1,7,.l 3)])^q1 (.mks 9 1 z_12 [(0,.l 4)])^q1 (.app 45 9 (.l 1) (.l 5))^qf 4 1^qs 4 1 7 6)) .skip))<|r1 21 (qm 5^qk .add 1^qv 5))
def c395:C:=rs 0 (qG 2 z_11^qz 3 0)<|i1 10 (qm 0^qk .lss 1^yo^qm 0^qk .gtr 3^zO 2) 15 (rs 16 (q1 (.build z_11 [])^qt 2 2 0^qz 3 1) .ret)<|rs 17 (qm 0^q1 (.build [.int .i64 0,.nslice 9] [(0,1,.l 0)])^qG 4 z_13^qs 4 2 2 1)<|sq (rs 0 (qz 5 1)<|bk 0 l395_0)<|rs 47 (qb 4 2^qt 2 2 0^qz 3 0) .ret
def F395:F:=mF 1 [.cell 2 (some 2),.t 3] none c395
def c397:C:=rs 0 (qG 2 z_8)<|i1 3 (qm 0^qK .neq 1) 4 (rs 5 (q1 (.build z_8 [])^qt 2 5 0) .ret)<|rs 6 (q1 (.build z_10 [(0,1,.c (.int .i64 1)),(1,1,.c (.int .i64 1)),(4,1,.c (.int .i64 1))])^q1 (.mks 17 1 z_10 [(0,.l 0)])^q1 (.build z_8 [(0,1,.l 1)])^qt 2 5 2) .ret
def F397:F:=mF 1 [.cell 2 (some 5)] none c397
def l398_0:C:=.loop [] [] [5] [] (rs 13 (q3 (.bin .lss (.g 12) (.g 11)))<|sq (cd 13 .skip<|.exit 0)<|sq (bk 1 (rs 14 (q1 (.iad 9 (.g 10) (.g 12))^qJ 9^qG 5 z_12^qs 5 9 2 1)<|r1 16 (qr 3 1^qr 5 0^qR 5 1 7^qr 5 8^q1 (.build z_12 [(0,1,.l 3),(1,7,.l 5),(8,1,.l 7)])^q1 (.mks 9 1 z_12 [(0,.l 8)])^q1 (.app 26 9 (.l 1) (.l 9))^qf 3 1^qs 3 1 11 10)))<|r1 28 (q1 (.bin .add (.g 12) (ci 1))^qv 12))
def c398:C:=rs 0 (qB 1 0^qG 2 z_11)<|rs 6 (qr 1 0^q1 (.build [.int .i64 0,.nslice 9] [(0,1,.l 1)])^qG 3 z_13^qs 3 2 3 2)<|sq (rs 9 (qf 1 1^q3 (.load (.v 1) none (.l 0))^qH false^q3 (.mov (ci 0)))<|bk 0 l398_0)<|rs 29 (qb 3 2^qt 2 2 0) .ret
def F398:F:=mF 1 [.cell 2 (some 2)] none c398
def l399_0:C:=em (lq 20 (qm 5^qr 2 1^eq^qQ .lss 0) 24 0<|sq (bk 1 (rt 27 (qr 2 1^qm 5^qi 9^qg 0^qj^qr 3 1^qm 5^qi 9^qg 0^qj^qq .neq 5^yo^qr 2 1^qm 5^qi 9^qg 1^qJ 7^qr 3 1^qm 5^qi 9^qg 1^qJ 7^qC 45 (ls [19,25])^qn^zo 13^yo^qr 2 1^qm 5^qi 9^qg 8^qj^qr 3 1^qm 5^qi 9^qg 8^qj^qC 360 (ls [35,41])^qn^zO 29)<|cd 71 (rs 0 (qF 4) .ret) .skip))<|r1 25 (qm 5^qk .add 1^qv 5))
def c399:C:=rs 0 (qB 2 0^qB 3 1^qF 4)<|i1 6 (qr 2 0^qr 3 0^qq .neq 1^yo^qr 2 1^eq^qr 3 1^eq^qq .neq 8^zO 5) 19 (rs 0 (qF 4) .ret)<|sq (rs 0 (qz 5 0)<|bk 0 l399_0)<|rs 0 (qT 4) .ret
def F399:F:=mF 2 [.t 4] none c399
def c400:C:=rs 0 (qF 0)<|rs 10 (qC 395 [ci 1]^q2 9 (.mov (.l 0))^qx 0^qy 1^qG 1 z_11^qs 1 2 4 2^qV 2 3)<|rt 14 (qb 1 2^qC 420 [ci 11,ci 1,ci 1]^qC 413 [.l 0,ci 5,.l 1]^q2 13 (.mov (.l 2))^qx 0^qy 1^qG 3 z_11^qs 3 2 6 4^qV 4 5)<|rs 20 (qb 3 2^qc 407^q2 19 (.mov (.l 1))^qx 0^qy 1^qD 5^q1 (.alloc z_11)^qs 5 2 5 3^q3 (.mov (.l 4)))<|rs 25 (qb 3 2^qC 406 [.l 0,ci 1]^q2 24 (.mov (.l 1))^qx 0^qy 1^qG 7 z_8^qs 7 5 5 3^qV 8 4)<|rs 29 (qm 2^qk .eql 0^ya^qm 4^eq^qk .eql 1^za 2^ya^qm 4^q1 (.iad 36 (.l 8) (ci 0))^qg 0^qj^qk .eql 35^za 7^ya^qm 4^q1 (.iad 36 (.l 15) (ci 0))^qg 2^qj^qk .eql 2^za 14^ya^qm 6^eq^qk .eql 1^za 21^ya^qm 8^za 26^ya^qr 7 0^eq^qk .eql 1^za 29^qv 0) .ret
def F400:F:=mF 0 [.t 0] none c400
def l401_0:C:=.loop [] [4,0,10400] [6] [20200] (rs 25 (q3 (.bin .lss (.g 24) (.g 23)))<|sq (cd 25 .skip<|.exit 0)<|sq (bk 1 (rs 26 (q1 (.iad 17 (.g 22) (.g 24))^qJ 17^qG 6 z_10^qs 6 17 2 1)<|r1 28 (qb 6 17^q1 (.rcall 423 [.g 4,.l 0] 0 4 20200))))<|r1 30 (q1 (.bin .add (.g 24) (ci 1))^qv 24))
def c401:C:=rs 0 (qB 1 0^qE 2^qz 3 0)<|i1 7 (qb 1 5^qc 249^qN) 9 (rs 0 (qE 2^qz 3 1) .ret)<|rs 4 (q3 (.allo [.nslice 1] 10400))<|rs 10 (qR 1 1 3^q1 (.mks 3 1 z_3 [(0,.l 1)])^q1 (.rcall 421 [.g 4,.l 2] 0 4 20000))<|rs 14 (qr 1 4^qr 1 0^eq^q1 (.mks 1 2 [.int .i64 0] [(0,.l 1),(1,.l 4)])^q1 (.rcall 422 [.g 4,.l 5] 0 4 20100))<|sq (rs 21 (qf 1 0^q3 (.load (.v 1) none (.l 0))^qH false^q3 (.mov (ci 0)))<|bk 0 l401_0)<|rs 31 (qr 4 0^q1 (.b2s (.l 1))^qv 2^qz 3 0) .ret
def F401:F:=mF 1 [.t 2,.t 3] none c401
def l404_1:C:=em (lq 54 (qm 5^qr 4 8^eq^qQ .lss 0) 58 2<|sq (bk 3 (rs 61 (qr 4 8^qm 5^qi 36^qJ 36^qc 339^qN)<|cd 67 (rs 0 (qF 2) .ret) .skip))<|r1 59 (qm 5^qk .add 1^qv 5))
def l404_0:C:=.loop [] [] [4] [] (lq 10 (qm 3^qr 1 1^eq^qQ .lss 0) 14 0<|sq (bk 1 (rs 17 (qr 1 1^qm 3^qi 9^qJ 9^qG 4 z_12^qs 4 9 5 4)<|i1 22 (qr 4 8^eq^qk .gtr 10^yo^qf 4 1^qg 2^ql 4^eq^qk .gtr 40^zo 4^yo^qf 4 1^qg 6^ql 4^eq^qk .gtr 40^zo 11^yo^qf 4 1^qg 4^ql 4^ge^qk .gtr 8192^zo 18^yo^qf 4 1^qg 5^ql 4^ge^qk .gtr 8192^zO 25) 53 (rs 0 (qF 2) .ret)<|rs 0 (qz 5 0)<|bk 2 l404_1))<|r1 15 (qm 3^qk .add 1^qv 3))
def c404:C:=rs 0 (qB 1 0^qF 2)<|i1 6 (qr 1 1^eq^qK .gtr 6) 9 (rs 0 (qF 2) .ret)<|sq (rs 0 (qz 3 0)<|bk 0 l404_0)<|rs 0 (qT 2) .ret
def F404:F:=mF 1 [.t 2] none c404
def l405_1:C:=em (lq 100 (qm 9^qr 4 8^eq^qQ .lss 0) 104 2<|sq (bk 3 (rt 107 (qr 4 8^qm 9^qi 36^qJ 36^qc 414^qn^yo^qr 4 8^qm 9^qi 36^qg 1^qj^qr 1 0^qq .neq 13^zO 7)<|cd 124 (rs 0 (qF 2) .ret) .skip))<|r1 105 (qm 9^qk .add 1^qv 9))
def r405_17:List Op:=(qm 3^qk .add 1^qv 3) qe 23 0 none
def l405_0:C:=.loop [] [] [4,5,7] [] (lq 18 (qm 3^qr 1 1^eq^qQ .lss 0) 22 0<|sq (bk 1 (rs 25 (qr 1 1^qm 3^qi 9^qJ 9^qG 4 z_12^qs 4 9 5 4)<|rs 31 (qf 4 1^qg 4^ql 4^qc 425^q2 30 (.mov (.l 3))^qx 0^qy 1^qD 5^q1 (.alloc z_8)^qs 5 5 7 5^q3 (.mov (.l 6)))<|rs 38 (qf 4 1^qg 5^ql 4^qc 425^q2 37 (.mov (.l 3))^qx 0^qy 1^qD 7^q1 (.alloc z_8)^qs 7 5 7 5^q3 (.mov (.l 6)))<|i2 44 (qr 4 0^qk .lss 1^yo^qr 4 0^qk .gtr 3^zo 3^yo^qm 3^qk .gtr 0^ya^qr 1 1^qm 3^qk .sub 1^q1 (.iad 9 (.l 13) (.l 15))^qg 0^qj^qr 4 0^qq .geq 18^y0 8^qa 11^zo 8^yo^qf 4 1^qg 0^ql 4^qr 1 0^qq .neq 27^zo 24^yo^qR 4 1 7^qc 37^qn^zo 32^yo^qm 6^qn^zo 38^yo^qm 8^qn^zO 42) 89 (rs 0 (qF 2) .ret)<|i1 90 (qr 4 8^eq^qk .gtr 0^ya^qR 4 1 7^qc 426^qn^zA 4) 99 (rs 0 (qF 2) .ret)<|rs 0 (qz 9 0)<|bk 2 l405_1))<|.region false r405_17)
def r405_18:List Op:=(qT 2) qe 0 0 none
def c405:C:=rs 0 (qB 1 0^qF 2)<|i1 10 (qr 1 0^qk .lss 1^yo^qr 1 0^qk .gtr 3^zO 3) 17 (rs 0 (qF 2) .ret)<|sq (rs 0 (qz 3 0)<|bk 0 l405_0)<|sq (.region false r405_18) .ret
def F405:F:=mF 1 [.t 2] none c405
def c406:C:=rs 0 (qB 2 0^qG 4 z_8^qF 5)<|rs 11 (qb 2 2^qm 1^qd 427^q2 10 (.mov (.l 2))^qx 0^qy 1^qG 6 z_12^qs 6 9 6 4^qV 7 5)<|i1 16 (qb 2 2^qc 408^qn^yo^qm 7^qn^zo 3^yo^qR 6 1 7^qc 40^qn^zO 7) 28 (rs 29 (q1 (.build z_8 [])^qt 4 5 0^qF 5) .ret)<|rs 31 (qf 6 1^qg 4^ql 6^qc 428^q2 30 (.mov (.l 3))^qx 0^qy 1^qG 8 z_8^qs 8 5 7 5^qD 9^q1 (.mov (.l 6)))<|rs 37 (qb 8 5^qt 4 5 0^qT 5) .ret
def F406:F:=mF 2 [.cell 4 (some 5),.t 5] none c406
def l407_0:C:=.loop [] [] [6] [] (rs 15 (q3 (.bin .lss (.g 14) (.g 13)))<|sq (cd 15 .skip<|.exit 0)<|sq (bk 1 (rs 16 (q1 (.iad 9 (.g 12) (.g 14))^qJ 9^qG 6 z_12^qs 6 9 2 1)<|r2 18 (qm 4^qr 6 0^qR 6 1 7^qc 51^qC 429 (ls [2,5])^q1 (.app 4 36 (.l 0) (.l 6))^qv 4)))<|r1 26 (q1 (.bin .add (.g 14) (ci 1))^qv 14))
def c407:C:=rs 0 (qB 1 0^qG 2 z_11^qS 3 36)<|rs 4 (q3 (.mko 36))<|i1 7 (qb 1 2^qc 408^qN) 9 (rs 10 (qb 1 2^qt 2 2 0^qS 3 36) .ret)<|sq (rs 11 (qf 1 1^q3 (.load (.v 1) none (.l 0))^qH false^q3 (.mov (ci 0)))<|bk 0 l407_0)<|rs 27 (qb 1 2^qm 4^qt 2 2 0^qw 3) .ret
def F407:F:=mF 1 [.cell 2 (some 2),.t 3] none c407
def l408_0:C:=.loop [] [] [5] [] (rs 10 (q3 (.bin .lss (.g 9) (.g 8)))<|sq (cd 10 .skip<|.exit 0)<|sq (bk 1 (rs 11 (q1 (.iad 9 (.g 7) (.g 9))^qJ 9^qG 5 z_12^qs 5 9 2 1)<|i1 13 (qr 5 0^qm 3^qq .leq 1^yo^qr 5 0^qc 368^qn^zo 4^yo^qf 5 1^qg 0^ql 5^qr 1 0^qq .neq 13^zo 10^yo^qR 5 1 7^qc 39^qn^zo 18^yo^qf 5 1^qg 4^ql 5^qc 430^qn^zo 24^yo^qf 5 1^qg 5^ql 5^qc 430^qn^zO 31) 50 (rs 0 (qF 2) .ret)<|i1 51 (qr 5 8^eq^qk .gtr 0^ya^qR 5 1 7^qc 41^qn^za 4^yo^qr 5 8^q1 (.fn 431 [.g 1] [1])^qd 432^zO 10) 66 (rs 0 (qF 2) .ret)<|r1 67 (qr 5 0^qv 3)))<|r1 69 (q1 (.bin .add (.g 9) (ci 1))^qv 9))
def c408:C:=rs 0 (qB 1 0^qF 2)<|rs 0 (qz 3 0)<|sq (rs 6 (qf 1 1^q3 (.load (.v 1) none (.l 0))^qH false^q3 (.mov (ci 0)))<|bk 0 l408_0)<|rs 70 (qr 1 0^qk .geq 1^ya^qr 1 0^qk .leq 3^za 3^qv 2) .ret
def F408:F:=mF 1 [.t 2] none c408
def l409_0:C:=em (lq 6 (qm 5^qr 2 1^eq^qQ .lss 0) 10 0<|sq (bk 1 (rs 13 (qr 2 1^qm 5^qi 9^qg 0^qj^qm 1^qQ .eql 5)<|cd 20 (rs 21 (qm 5^qv 4) .ret) .skip))<|r1 11 (qm 5^qk .add 1^qv 5))
def c409:C:=rs 0 (qB 2 0^qz 4 0)<|sq (rs 0 (qz 5 0)<|bk 0 l409_0)<|rs 0 (qz 4 (-1)) .ret
def F409:F:=mF 2 [.t 4] none c409
def l411_0:C:=em (lq 19 (qm 7^qm 6^qq .lss 0^ya^qm 4^q1 (.nilc (.l 4))^qg 1^ql 10^qn^zA 3) 28 0<|sq (bk 1 (r2 31 (qr 5 0^qm 4^q1 (.rcall 436 [.l 2] 0 10 20300)^q1 (.mks 17 1 z_10 [(0,.l 3)])^q1 (.app 36 17 (.l 1) (.l 4))^qf 5 0^qs 5 1 6 5)))<|r1 29 (qm 7^qk .add 1^qv 7))
def c411:C:=rs 0 (qG 2 z_8^qF 3)<|rs 8 (qm 0^q1 (.build z_14 [(0,1,.l 0)])^q1 (.box (.l 1))^qv 4)<|rs 11 (qm 4^q1 (.rcall 434 [.l 0] 0 10 20000)^q1 (.build [.nslice 17,.int .i64 0,.int .i64 0,.int .i64 0,.int .i64 0] [(1,3,.l 1)])^qG 5 z_15^qs 5 5 3 2)<|rs 14 (qm 4^q1 (.rcall 435 [.l 0] 0 10 20100)^qf 5 4^qs 5 1 2 1)<|rs 17 (qm 4^q1 (.rcall 435 [.l 0] 0 10 20200)^qv 6)<|sq (rs 0 (qz 7 0)<|bk 0 l411_0)<|i1 38 (qm 4^q1 (.nilc (.l 0))^qg 1^ql 10^yo^qb 5 5^q1 (.call (.k 246) .borrow none [.l 5])^qn^zo 4^yo^qb 5 5^q1 (.call (.k 424) .borrow none [.l 10])^qm 0^qq .neq 11^zO 9) 52 (rs 53 (q1 (.build z_8 [])^qt 2 5 0^qF 3) .ret)<|rs 54 (qb 5 5^qt 2 5 0^qT 3) .ret
def F411:F:=mF 1 [.cell 2 (some 5),.t 3] none c411
def sS:C:=sq (rs 92 (qf 5 0^q3 (.load (.v 5) none (.l 0)))<|bk 1 (rs 95 (q1 (.bin .eql (.g 93) (ci 1))^qv 94)<|cd 94 (rs 96 (qb 3 2^qb 8 9^qb 10 5^qm 1^qb 5 36^qC 440 (ls [0,1,2,3,4])^qx 0^qy 1^qt 6 2 6^qw 7) .ret) (rs 105 (q1 (.bin .eql (.g 93) (ci 14))^qv 104)<|cd 104 (rt 106 (qb 3 2^qb 3 2^qb 10 5^qb 5 36^qC 441 (ls [1,2,3])^qt 6 2 0^qw 7) .ret) (rs 112 (q1 (.bin .eql (.g 93) (ci 30))^qv 111)<|cd 111 (i1 113 (qR 5 9 3^qR 10 1 3^qC 15 (ls [1,3])^qK .leq 0) 118 (rt 119 (qb 3 2^qr 3 0^qr 5 7^qR 10 1 3^q1 (.build z_16 [(0,1,.c (.int .i64 31)),(1,1,.l 2),(7,1,.l 4),(9,3,.l 6)])^q1 (.mks 36 1 z_16 [(0,.l 7)])^qt 6 2 0^qw 7) .ret)<|rt 128 (qb 3 2^qb 8 9^qb 10 5^qR 5 9 3^qC 261 (ls [2,4])^qr 3 0^qr 5 7^qR 5 9 3^q1 (.build z_16 [(0,1,.c (.int .i64 31)),(1,1,.l 7),(7,1,.l 9),(9,3,.l 11)])^q1 (.mks 36 1 z_16 [(0,.l 12)])^qC 442 (ls [0,1,5,13])^qx 0^qy 1^qt 6 2 15^qw 7) .ret) (rs 146 (q1 (.bin .eql (.g 93) (ci 32))^qv 145)<|cd 145 (rs 147 (qb 3 2^qb 8 9^qb 10 5^qb 5 36^qC 443 (ls [0,1,2,3])^qx 0^qy 1^qt 6 2 5^qw 7) .ret) .skip)))))<|rs 155 (qb 3 2^qb 10 5^qb 5 36^qC 444 (ls [0,1,2])^q2 154 (.mov (.l 3))^qx 0^qy 1^qY 4 2^qG 12 z_8^qG 13 z_16^qs 12 5 8 5^qs 13 36 9 6^qV 9 7)<|i1 162 (qm 9^qN) 163 (rs 164 (qb 3 2^qt 6 2 0^qS 7 36) .ret)<|rt 165 (qr 3 0^qr 5 7^qf 13 1^qs 13 1 4 1^qf 13 7^qs 13 1 6 3)<|rs 171 (qb 3 2^qb 8 9^qb 12 5^qb 13 36^q1 (.mks 36 1 z_16 [(0,.l 3)])^qC 442 (ls [0,1,2,4])^qx 0^qy 1^qt 6 2 6^qw 7) .ret
def c413:C:=rs 0 (qB 3 0^qB 5 2^qG 6 z_11^qS 7 36)<|i1 14 (qb 3 2^qc 408^qn^yo^qb 5 36^qc 341^qn^zo 3^yo^qm 1^qk .lss 0^zo 8^yo^qm 1^qk .gtr 1099511627776^zo 12^yo^qr 5 2^qr 3 0^qq .neq 18^zO 16) 36 (rs 37 (qb 3 2^qt 6 2 0^qS 7 36) .ret)<|sq (rs 38 (qf 5 0^q3 (.load (.v 5) none (.l 0)))<|bk 0 (sq (rs 41 (q1 (.bin .eql (.g 39) (ci 35))^qv 40)<|cd 40 .skip (rs 42 (q1 (.bin .eql (.g 39) (ci 36))^qv 40)<|cd 40 .skip (r1 43 (q1 (.bin .eql (.g 39) (ci 37))^qv 40))))<|cd 40 (rs 44 (qb 3 2^qb 5 36^qd 437^qx 0^qy 1^qt 6 2 3^qw 7) .ret) (rs 50 (q1 (.bin .eql (.g 39) (ci 33))^qv 49)<|cd 49 (rs 51 (qb 3 2^qb 5 36^qd 438^qx 0^qy 1^qt 6 2 3^qw 7) .ret) .skip)))<|rs 57 (qb 3 2^qr 5 7^qC 427 (ls [0,2])^q2 56 (.mov (.l 3))^qx 0^qy 1^qG 8 z_12^qs 8 9 7 5^qV 9 6)<|i1 63 (qm 9^qn^yo^qR 8 1 7^qc 40^qn^zO 2) 70 (i1 71 (qr 5 0^qK .eql 1) 73 (rt 74 (qb 3 2^qb 3 2^qb 5 36^q1 (.build z_9 [(0,1,.c (.int .i64 10))])^qC 439 (ls [1,2,3])^q1 (.mks 36 1 z_16 [(0,.l 4)])^qt 6 2 0^qw 7) .ret)<|rs 80 (qb 3 2^qt 6 2 0^qS 7 36) .ret)<|i1 81 (qR 8 1 7^q3 (.call (.k 41) .no none [.l 1])) 83 (rs 84 (qb 3 2^qt 6 2 0^qS 7 36) .ret)<|rs 86 (qf 8 1^qg 4^ql 8^qc 428^q2 85 (.mov (.l 3))^qx 0^qy 1^qG 10 z_8^qs 10 5 7 5^qD 11^q1 (.mov (.l 6))) sS
def F413:F:=mF 3 [.cell 6 (some 2),.t 7] none c413
def l414_0:C:=em (lq 118 (qm 3^qr 1 34^eq^qQ .lss 0) 122 0<|sq (bk 1 (rs 125 (qr 1 34^qm 3^qi 5^qg 2^qj^qc 445^qn^yo^qr 1 34^qm 3^qi 5^qg 3^qj^qc 445^qn^zo 8^yo^qr 1 34^qm 3^qi 5^qg 4^qj^qc 445^qn^zO 18)<|cd 152 (rs 0 (qF 2) .ret) .skip))<|r1 123 (qm 3^qk .add 1^qv 3))
def l414_1:C:=em (lq 153 (qm 4^qr 1 35^eq^qQ .lss 0) 157 2<|sq (bk 3 (rs 160 (qr 1 35^qm 4^qi 1^qj^qc 445^qN)<|cd 166 (rs 0 (qF 2) .ret) .skip))<|r1 158 (qm 4^qk .add 1^qv 4))
def c414:C:=rs 0 (qB 1 0^qF 2)<|i1 5 (qr 1 0^qk .lss 1^yo^qr 1 0^qk .gtr 37^zo 3^yo^qf 1 25^qg 0^ql 1^qk .lss 0^zo 8^yo^qf 1 25^qg 0^ql 1^qk .gtr 16^zo 14^yo^qf 1 25^qg 6^ql 1^eq^qk .gtr 8^zo 20^yo^qr 1 34^eq^qk .gtr 8^zo 27^yo^qr 1 35^eq^qk .gtr 8^zO 33) 43 (rs 0 (qF 2) .ret)<|i1 44 (qr 1 1^qc 445^qn^yo^qr 1 2^qc 445^qn^zo 4^yo^qr 1 3^qc 445^qn^zo 10^yo^qr 1 4^qc 445^qn^zo 16^yo^qr 1 5^qc 445^qn^zo 22^yo^qr 1 6^qc 445^qn^zo 28^yo^qr 1 7^qc 445^qn^zo 34^yo^qr 1 8^qc 445^qn^zo 40^yo^qf 1 13^qg 0^ql 1^qc 445^qn^zo 46^yo^qf 1 13^qg 1^ql 1^qc 445^qn^zo 53^yo^qf 1 13^qg 2^ql 1^qc 445^qn^zo 60^yo^qf 1 13^qg 11^ql 1^qc 445^qn^zO 67) 117 (rs 0 (qF 2) .ret)<|sq (rs 0 (qz 3 0)<|bk 0 l414_0)<|sq (rs 0 (qz 4 0)<|bk 2 l414_1)<|rs 167 (qR 1 9 3^qc 24^ya^qf 1 13^qg 7^q1 (.load (.v 1) (some 3) (.l 5))^qc 24^za 3^ya^qf 1 25^qg 1^q1 (.load (.v 1) (some 3) (.l 11))^qc 24^za 9^qv 2) .ret
def F414:F:=mF 1 [.t 2] none c414
def l415_0:C:=em (lq 232 (qm 21^qr 14 0^eq^qQ .lss 0) 236 0<|sq (bk 1 (rs 239 (qr 14 0^qm 21^qi 17^qg 4^qj^qK .eql 2)<|cd 245 (rs 246 (qb 3 2^qt 6 2 0^qS 7 36) .ret) .skip))<|r1 237 (qm 21^qk .add 1^qv 21))
def CO:C:=i1 229 (qr 5 0^qK .eql 32) 231 (sq (rs 0 (qz 21 0)<|bk 0 l415_0)<|rs 247 (qb 14 5^qR 5 9 3^qC 263 (ls [0,2])^qG 22 z_8^qs 22 5 4 3)<|i1 251 (qb 14 5^qb 22 5^q3 (.call (.k 242) .no none [.l 0,.l 1])) 253 (rs 254 (qb 3 2^qt 6 2 0^qS 7 36) .ret)<|rs 255 (qb 3 2^qb 13 9^qb 22 5^qC 450 [.l 0,.l 1,.l 2,.c (.slice 36 [])]^qx 0^qy 1^qt 6 2 4^qw 7) .ret)<|rs 262 (qb 14 5^qb 5 36^qd 452^q2 261 (.mov (.l 2))^qx 0^qy 1^qY 3 2^qG 23 z_8^qG 24 z_16^qs 23 5 7 4^qs 24 36 8 5^qV 25 6)<|i1 268 (qm 25^qN) 269 (rs 270 (qb 3 2^qt 6 2 0^qS 7 36) .ret)<|rt 271 (qr 3 0^qr 5 7^qf 24 1^qs 24 1 4 1^qf 24 7^qs 24 1 6 3)<|rs 277 (qb 3 2^qb 13 9^qb 23 5^qb 24 36^q1 (.mks 36 1 z_16 [(0,.l 3)])^qC 450 (ls [0,1,2,4])^qx 0^qy 1^qt 6 2 6^qw 7) .ret
def pJ:C:=i1 124 (qr 5 0^qK .eql 1) 126 (rs 128 (qf 14 1^qg 0^ql 14^qf 14 1^qg 1^ql 14^qr 3 0^q1 (.build z_3 [(0,1,.l 2),(1,1,.l 5),(2,1,.l 7)])^qm 1^qd 449^q2 127 (.mov (.l 10))^qx 0^qy 1^qG 16 z_3^qs 16 3 14 12^qV 17 13)<|i1 141 (qm 17^qK .neq 0) 142 (rt 143 (qb 3 2^qb 3 2^qb 5 36^qm 17^q1 (.build z_9 [(0,1,.l 3)])^qC 448 (ls [1,2,4])^q1 (.mks 36 1 z_16 [(0,.l 5)])^qt 6 2 0^qw 7) .ret)<|rs 151 (qb 14 5^qr 5 3^qr 5 4^qR 5 13 12^qb 16 3^qm 1^qC 241 (ls [0,2,4,6,7,8])^q2 150 (.mov (.l 9))^qx 0^qy 1^qG 18 z_8^qG 19 z_9^qs 18 5 13 11^qs 19 9 14 12)<|i1 163 (qr 19 0^qk .neq 0^ya^qr 19 0^qk .neq 15^zA 3) 170 (rt 171 (qb 3 2^qb 3 2^qb 5 36^qb 19 9^qC 448 (ls [1,2,3])^q1 (.mks 36 1 z_16 [(0,.l 4)])^qt 6 2 0^qw 7) .ret)<|rt 177 (qb 3 2^qb 13 9^qb 18 5^qb 3 2^qb 5 36^qb 19 9^qC 448 (ls [3,4,5])^q1 (.mks 36 1 z_16 [(0,.l 6)])^qC 450 (ls [0,1,2,7])^qx 0^qy 1^qt 6 2 9^qw 7) .ret)<|i1 188 (qr 5 0^qK .eql 14) 190 (rt 191 (qb 3 2^qb 3 2^qb 14 5^qb 5 36^qC 451 (ls [1,2,3])^qt 6 2 0^qw 7) .ret)<|i1 196 (qr 5 0^qK .eql 30) 198 (rs 199 (qr 3 0^qr 5 7^qR 14 1 3^q1 (.build z_16 [(0,1,.c (.int .i64 31)),(1,1,.l 1),(7,1,.l 3),(9,3,.l 5)])^qG 20 z_16^qs 20 36 7 6)<|i1 206 (qR 14 1 3^qR 5 9 3^qC 6 (ls [1,3])^qN) 211 (rt 212 (qb 3 2^qb 20 36^q1 (.mks 36 1 z_16 [(0,.l 1)])^qt 6 2 0^qw 7) .ret)<|rt 215 (qR 5 9 3^qR 5 9 3^qf 14 1^qs 14 3 4 1^qf 20 9^qs 20 3 6 3)<|rs 221 (qb 3 2^qb 13 9^qb 14 5^qb 20 36^q1 (.mks 36 1 z_16 [(0,.l 3)])^qC 450 (ls [0,1,2,4])^qx 0^qy 1^qt 6 2 6^qw 7) .ret) CO
def c415:C:=rs 0 (qB 3 0^qB 5 2^qG 6 z_11^qS 7 36)<|rs 26 (qb 3 2^qr 5 7^qC 409 (ls [0,2])^qv 8)<|i1 30 (qr 5 0^qK .geq 35) 32 (rs 33 (qb 3 2^qb 5 36^qd 446^qx 0^qy 1^qt 6 2 3^qw 7) .ret)<|i1 38 (qr 5 0^qK .eql 33) 40 (i1 41 (qm 8^qK .lss 0) 42 (rs 43 (qb 3 2^qt 6 2 0^qS 7 36) .ret)<|rt 45 (qr 3 1^qm 8^qi 9^qg 1^qJ 7^qr 5 4^qr 5 35^qC 55 (ls [5,7,9])^q2 44 (.mov (.l 10))^qx 0^qy 1^qY 11 2^qG 9 z_5^qs 9 7 15 12^qV 10 13^qV 11 14)<|i1 59 (qm 11^qK .neq 0) 60 (rs 61 (qb 3 2^qt 6 2 0^qS 7 36) .ret)<|rs 62 (qr 3 0^qr 5 7^qr 5 4^q1 (.build z_16 [(0,1,.c (.int .i64 34)),(1,1,.l 1),(7,1,.l 3),(4,1,.l 5)])^qG 12 z_16^qs 12 36 7 6)<|i1 69 (qb 9 7^qc 426^qN) 71 (r1 72 (qf 12 8^qu 12 0 1))<|rt 73 (qb 3 2^qr 5 7^qb 9 7^q1 (.build z_12 [(0,1,.l 2),(1,7,.l 3)])^qC 447 (ls [0,4])^qr 5 7^qm 10^q1 (.call (.k 433) .no (some 0) [.l 7,.l 8])^qb 12 36^q1 (.mks 36 1 z_16 [(0,.l 10)])^q1 (.app 82 36 (.l 9) (.l 11))^qt 6 2 5^qw 7) .ret)<|i1 86 (qm 8^qk .lss 0^yo^qr 3 1^qm 8^qi 9^qg 1^qJ 7^qc 38^qn^zO 2) 97 (i1 98 (qr 5 0^qK .eql 1) 100 (rt 101 (qb 3 2^qb 3 2^qb 5 36^q1 (.build z_9 [(0,1,.c (.int .i64 10))])^qC 448 (ls [1,2,3])^q1 (.mks 36 1 z_16 [(0,.l 4)])^qt 6 2 0^qw 7) .ret)<|rs 107 (qb 3 2^qt 6 2 0^qS 7 36) .ret)<|rs 108 (qr 3 1^qm 8^qi 9^qJ 9^qG 13 z_12^qs 13 9 5 4)<|i1 113 (qR 13 1 7^q3 (.call (.k 426) .no none [.l 1])) 115 (rs 116 (qb 3 2^qt 6 2 0^qS 7 36) .ret)<|rs 118 (qf 13 1^qg 4^ql 13^qc 425^q2 117 (.mov (.l 3))^qx 0^qy 1^qG 14 z_8^qs 14 5 7 5^qD 15^q1 (.mov (.l 6))) pJ
def F415:F:=mF 3 [.cell 6 (some 2),.t 7] none c415
def c420:C:=rs 0 (qG 6 z_16)<|rs 7 (qm 0^qm 1^qm 2^q1 (.build z_17 [(0,1,.c (.int .i64 1)),(1,1,.l 2),(2,1,.c (.int .i64 1)),(3,1,.c (.str [97])),(4,1,.c (.str [120]))])^q1 (.build z_16 [(0,1,.c (.int .i64 1)),(1,1,.l 0),(2,1,.l 1),(7,1,.c (.int .i64 1)),(3,1,.c (.int .i64 1)),(4,1,.c (.int .i64 1)),(13,12,.l 3)])^qt 6 36 4) .ret
def F420:F:=mF 3 [.cell 6 (some 36)] none c420
def l421_0:C:=.loop [] [0,0,9000] [5] [] (rs 11 (q3 (.bin .lss (.g 10) (.g 9)))<|sq (cd 11 .skip<|.exit 0)<|sq (bk 1 (rs 12 (q1 (.iad 3 (.g 8) (.g 10))^qJ 3^qG 5 z_3^qs 5 3 2 1)<|rs 15 (qb 5 3^qc 455^q2 14 (.mov (.l 1))^qx 0^qy 1^qw 6^qD 7^q1 (.mov (.l 4)))<|r1 19 (qm 0^qm 0^q1 (.nilc (.l 1))^qg 0^ql 0^qm 6^q1 (.appd 1 (.l 4) (.l 5))^q1 (.nilc (.l 0))^qg 0^qs 0 1 8 6)))<|r1 28 (q1 (.bin .add (.g 10) (ci 1))^qv 10))
def c421:C:=rs 8 (q3 (.mov (.g 1))^qH false^q3 (.mov (ci 0)))<|bk 0 l421_0
def F421:F:=mF 2 [] none c421
def l422_0:C:=.loop [] [0,0,9000] [] [] (rs 11 (q3 (.bin .lss (.g 10) (.g 9)))<|sq (cd 11 .skip<|.exit 0)<|sq (bk 1 (rs 12 (q1 (.iad 1 (.g 8) (.g 10))^qj^qv 5)<|rs 15 (qm 5^qc 456^q2 14 (.mov (.l 1))^qx 0^qy 1^qw 6^qD 7^q1 (.mov (.l 4)))<|r1 19 (qm 0^qm 0^q1 (.nilc (.l 1))^qg 0^ql 0^qm 6^q1 (.appd 1 (.l 4) (.l 5))^q1 (.nilc (.l 0))^qg 0^qs 0 1 8 6)))<|r1 28 (q1 (.bin .add (.g 10) (ci 1))^qv 10))
def c422:C:=rs 8 (q3 (.mov (.g 1))^qH false^q3 (.mov (ci 0)))<|bk 0 l422_0
def F422:F:=mF 2 [] none c422
def l423_1:C:=.loop [] [0,0,9000] [7] [20600,20700,20800] (rs 71 (q3 (.bin .lss (.g 70) (.g 69)))<|sq (cd 71 .skip<|.exit 2)<|sq (bk 3 (rs 72 (q1 (.iad 5 (.g 68) (.g 70))^qJ 5^qG 7 z_2^qs 7 5 2 1)<|rs 74 (qm 0^qR 7 0 3^q1 (.mks 3 1 z_3 [(0,.l 2)])^q1 (.rcall 421 [.l 0,.l 3] 0 0 20600))<|rs 79 (qm 0^qr 7 3^q1 (.rcall 458 [.l 0,.l 2] 0 0 20700))<|r1 83 (qm 0^qr 7 4^q1 (.mks 1 1 [.str []] [(0,.l 2)])^q1 (.rcall 457 [.l 0,.l 3] 0 0 20800))))<|r1 88 (q1 (.bin .add (.g 70) (ci 1))^qv 70))
def l423_0:C:=.loop [] [0,0,9000] [5,7] [20400,20500,20600,20700,20800] (rs 53 (q3 (.bin .lss (.g 52) (.g 51)))<|sq (cd 53 .skip<|.exit 0)<|sq (bk 1 (rs 54 (q1 (.iad 2 (.g 50) (.g 52))^qJ 2^qG 5 z_7^qs 5 2 2 1)<|rs 56 (qm 0^qr 5 0^q1 (.mks 1 1 [.str []] [(0,.l 2)])^q1 (.rcall 457 [.l 0,.l 3] 0 0 20400))<|rs 61 (qm 0^qr 5 1^eq^q1 (.mks 1 1 [.int .i64 0] [(0,.l 3)])^q1 (.rcall 422 [.l 0,.l 4] 0 0 20500))<|rs 67 (qf 5 1^q3 (.load (.v 5) none (.l 0))^qH false^q3 (.mov (ci 0)))<|bk 2 l423_1))<|r1 89 (q1 (.bin .add (.g 52) (ci 1))^qv 52))
def l423_2:C:=.loop [] [0,0,9000] [9] [21000,21100,21200,21300] (rs 100 (q3 (.bin .lss (.g 99) (.g 98)))<|sq (cd 100 .skip<|.exit 4)<|sq (bk 5 (rs 101 (q1 (.iad 11 (.g 97) (.g 99))^qJ 11^qG 9 z_4^qs 9 11 2 1)<|rs 103 (qm 0^qr 9 0^qr 9 1^qf 9 2^qg 0^ql 9^q1 (.mks 1 3 [.int .i64 0] [(0,.l 2),(1,.l 4),(2,.l 7)])^q1 (.rcall 422 [.l 0,.l 8] 0 0 21000))<|rs 113 (qm 0^qf 9 2^qg 1^q1 (.load (.v 9) (some 3) (.l 2))^q1 (.mks 3 1 z_3 [(0,.l 3)])^q1 (.rcall 421 [.l 0,.l 4] 0 0 21100))<|rs 119 (qm 0^qf 9 2^qg 4^ql 9^q1 (.rcall 458 [.l 0,.l 3] 0 0 21200))<|r1 124 (qm 0^qf 9 2^qg 5^ql 9^q1 (.mks 1 1 [.str []] [(0,.l 3)])^q1 (.rcall 457 [.l 0,.l 4] 0 0 21300))))<|r1 130 (q1 (.bin .add (.g 99) (ci 1))^qv 99))
def c423:C:=rs 0 (qB 3 1)<|rs 10 (qm 0^qr 3 0^qr 3 1^qr 3 4^qr 3 13^qr 3 14^qr 3 15^qr 3 16^q1 (.mks 1 7 [.int .i64 0] [(0,.l 2),(1,.l 4),(2,.l 6),(3,.l 8),(4,.l 10),(5,.l 12),(6,.l 14)])^q1 (.rcall 422 [.l 0,.l 15] 0 0 20000))<|rs 27 (qm 0^qf 3 2^qg 0^ql 3^qf 3 2^qg 1^ql 3^q1 (.mks 1 2 [.str []] [(0,.l 3),(1,.l 6)])^q1 (.rcall 457 [.l 0,.l 7] 0 0 20100))<|rs 36 (qm 0^qR 3 6 3^qR 3 9 3^q1 (.mks 3 2 z_3 [(0,.l 2),(1,.l 4)])^q1 (.rcall 421 [.l 0,.l 5] 0 0 20200))<|rs 43 (qm 0^qr 3 5^eq^q1 (.mks 1 1 [.int .i64 0] [(0,.l 3)])^q1 (.rcall 422 [.l 0,.l 4] 0 0 20300))<|sq (rs 49 (qf 3 5^q3 (.load (.v 3) none (.l 0))^qH false^q3 (.mov (ci 0)))<|bk 0 l423_0)<|rs 90 (qm 0^qr 3 12^eq^q1 (.mks 1 1 [.int .i64 0] [(0,.l 3)])^q1 (.rcall 422 [.l 0,.l 4] 0 0 20900))<|rs 96 (qf 3 12^q3 (.load (.v 3) none (.l 0))^qH false^q3 (.mov (ci 0)))<|bk 4 l423_2
def F423:F:=mF 2 [] none c423
def l424_0:C:=em (lq 17 (qm 4^qr 1 0^eq^qQ .lss 0) 21 0<|sq (bk 1 (r1 24 (qm 3^qr 1 0^qm 4^qi 17^qJ 17^qc 461^qq .add 0^qv 3)))<|r1 22 (qm 4^qk .add 1^qv 4))
def c424:C:=rs 0 (qB 1 0^qE 2)<|rt 5 (qR 1 1 3^qc 459^qr 1 4^qc 460^qq .add 2^qr 1 0^eq^qc 460^qq .add 6^qv 3)<|sq (rs 0 (qz 4 0)<|bk 0 l424_0)<|rs 32 (qm 3^qv 2) .ret
def F424:F:=mF 1 [.t 2] none c424
def c425:C:=rs 0 (qG 2 z_8^qF 3)<|rs 4 (qm 0^qc 411^qx 0^qy 1^qt 2 5 2^qw 3) .ret
def F425:F:=mF 1 [.cell 2 (some 5),.t 3] none c425
def c426:C:=rs 0 (qB 1 0^qF 2)<|rs 3 (qb 1 7^qc 38^ya^qb 1 7^qc 42^qn^za 2^qv 2) .ret
def F426:F:=mF 1 [.t 2] none c426
def c427:C:=rs 0 (qB 2 0^qB 3 1^qG 4 z_12^qF 5)<|rs 7 (qr 2 1^q1 (.fn 462 [.g 3] [3])^qd 463^qv 6)<|i1 11 (qm 6^qK .lss 0) 12 (rs 13 (q1 (.load (.v 3) none (.g 3))^qr 2 0^q1 (.build z_5 [(0,1,.l 2)])^q1 (.build z_12 [(0,1,.l 0),(1,7,.l 3)])^qt 4 9 4^qF 5) .ret)<|rs 18 (qr 2 1^qm 6^qi 9^qJ 9^qt 4 9 4^qT 5) .ret
def F427:F:=mF 2 [.cell 4 (some 9),.t 5] none c427
def l428_0:C:=em (rs 17 (q3 (.bin .lss (.g 16) (.g 15)))<|sq (cd 17 .skip<|.exit 0)<|sq (bk 1 (r2 18 (qr 5 0^qm 4^q1 (.rcall 467 [.l 2] 0 8 20300)^q1 (.mks 17 1 z_10 [(0,.l 3)])^q1 (.app 23 17 (.l 1) (.l 4))^qf 5 0^qs 5 1 6 5)))<|r1 25 (q1 (.bin .add (.g 16) (ci 1))^qv 16))
def c428:C:=rs 0 (qG 2 z_8^qz 3 0)<|rs 6 (qm 0^q1 (.build z_14 [(0,1,.l 0)])^q1 (.box (.l 1))^qv 4)<|rs 9 (qm 4^q1 (.rcall 464 [.l 0] 0 8 20000)^qm 4^q1 (.rcall 465 [.l 2] 0 8 20100)^q1 (.build [.nslice 17,.int .i64 0,.int .i64 0,.int .i64 0,.int .i64 0] [(1,3,.l 1),(4,1,.l 3)])^qG 5 z_15^qs 5 5 5 4)<|sq (rs 14 (qm 4^q3 (.rcall 466 [.l 0] 0 8 20200)^q3 (.mov (ci 0)))<|bk 0 l428_0)<|i1 26 (qm 4^q1 (.nilc (.l 0))^qg 1^ql 8^yo^qm 4^q1 (.nilc (.l 5))^qg 0^ql 8^q1 (.bin .neq (.l 8) (.c (.str [])))^zo 4^yo^qb 5 5^q1 (.call (.k 249) .borrow none [.l 12])^qn^zO 11) 41 (rs 42 (q1 (.build z_8 [])^qt 2 5 0^qz 3 3) .ret)<|rs 43 (qb 5 5^qt 2 5 0^qz 3 0) .ret
def F428:F:=mF 1 [.cell 2 (some 5),.t 3] none c428
def l429_0:C:=.loop [] [] [7] [] (rs 11 (q3 (.bin .lss (.g 10) (.g 9)))<|sq (cd 11 .skip<|.exit 0)<|sq (bk 1 (rs 12 (q1 (.iad 7 (.g 8) (.g 10))^qJ 7^qG 7 z_6^qs 7 7 2 1)<|r1 14 (qm 5^qr 7 0^q1 (.bin .add (ci 35) (.l 2))^qk .sub 1^qr 7 1^qr 7 2^qm 0^qr 7 3^qr 7 4^qr 7 5^qr 7 6^q1 (.build z_16 [(0,1,.l 4),(1,1,.l 6),(2,1,.l 8),(7,1,.l 9),(4,1,.l 11),(8,1,.l 13),(35,1,.l 15),(12,1,.l 17)])^q1 (.mks 36 1 z_16 [(0,.l 18)])^q1 (.app 5 36 (.l 0) (.l 19))^qv 5)))<|r1 35 (q1 (.bin .add (.g 10) (ci 1))^qv 10))
def c429:C:=rs 0 (qS 4 36)<|rs 5 (q3 (.mko 36))<|sq (rs 8 (q3 (.mov (.g 1))^qH false^q3 (.mov (ci 0)))<|bk 0 l429_0)<|rs 36 (qm 5^qv 4) .ret
def F429:F:=mF 2 [.t 4] (some 0) c429
def c430:C:=rs 0 (qF 2)<|rs 6 (qm 0^qc 428^q2 5 (.mov (.l 1))^qx 0^qy 1^qD 3^q1 (.alloc z_8)^qs 3 5 5 3^q3 (.mov (.l 4)))<|rs 10 (qm 4^qk .eql 0^qv 2) .ret
def F430:F:=mF 1 [.t 2] none c430
def c431:C:=rs 0 (qB 2 0^qF 3)<|rs 4 (qb 2 36^qc 341^qn^yo^qr 2 1^qf 1 0^qj^qq .neq 5^zo 3^qv 3) .ret
def F431:F:=mF 2 [.t 3] none c431
def c432:C:=rs 0 (qF 4)<|rs 5 (qm 0^qm 1^qd 468^qk .geq 0^qv 4) .ret
def F432:F:=mF 2 [.t 4] none c432
def l433_0:C:=.loop [] [] [7] [] (lq 8 (qm 6^qm 1^eq^qQ .lss 0) 11 0<|sq (bk 1 (rs 14 (qm 1^qm 6^qi 7^qJ 7^qG 7 z_6^qs 7 7 4 3)<|r1 18 (qm 5^qr 7 0^q1 (.bin .add (ci 34) (.l 2))^qr 7 1^qr 7 2^qm 0^qr 7 3^qr 7 4^qr 7 5^qr 7 6^q1 (.build z_16 [(0,1,.l 3),(1,1,.l 5),(2,1,.l 7),(7,1,.l 8),(4,1,.l 10),(8,1,.l 12),(35,1,.l 14),(12,1,.l 16)])^q1 (.mks 36 1 z_16 [(0,.l 17)])^q1 (.app 5 36 (.l 0) (.l 18))^qv 5)))<|r1 12 (qm 6^qk .add 1^qv 6))
def c433:C:=rs 0 (qS 4 36)<|rs 5 (q3 (.mko 36))<|sq (rs 0 (qz 6 0)<|bk 0 l433_0)<|rs 38 (qm 5^qv 4) .ret
def F433:F:=mF 2 [.t 4] (some 0) c433
def c434:C:=rs 0 (qG 2 z_3)<|rs 7 (qm 0^q1 (.nilc (.l 0))^qg 0^ql 0^qc 469^q2 6 (.mov (.l 4))^qx 0^qy 1^qY 5 2^qG 3 z_3^qs 3 3 9 6^qV 4 7^qV 5 8)<|rs 15 (qm 0^qm 0^q1 (.nilc (.l 1))^qg 1^ql 0^yo^qm 5^qk .neq 0^zo 5^q1 (.nilc (.l 0))^qg 1^qs 0 1 10 8)<|rs 26 (qm 0^qm 4^q1 (.nilc (.l 0))^qg 0^qs 0 1 3 1)<|rs 30 (qb 3 3^qt 2 3 0) .ret
def F434:F:=mF 1 [.cell 2 (some 3)] none c434
def c435:C:=rs 0 (qz 2 0)<|rs 7 (qm 0^q1 (.nilc (.l 0))^qg 0^ql 0^qc 470^q2 6 (.mov (.l 4))^qx 0^qy 1^qY 5 2^qV 3 6^qV 4 7^qV 5 8)<|rs 15 (qm 0^qm 0^q1 (.nilc (.l 1))^qg 1^ql 0^yo^qm 5^qk .neq 0^zo 5^q1 (.nilc (.l 0))^qg 1^qs 0 1 10 8)<|rs 26 (qm 0^qm 4^q1 (.nilc (.l 0))^qg 0^qs 0 1 3 1)<|rs 30 (qm 3^qv 2) .ret
def F435:F:=mF 1 [.t 2] none c435
def l436_1:C:=.loop [] [] [9] [] (lq 66 (qm 8^qm 7^qq .lss 0^ya^qm 0^q1 (.nilc (.l 4))^qg 1^ql 0^qn^zA 3) 75 2<|sq (bk 3 (rs 78 (qm 0^q1 (.rcall 434 [.l 0] 0 0 21400)^q1 (.build z_2 [(0,3,.l 1)])^qG 9 z_2^qs 9 5 3 2)<|rs 81 (qm 0^q1 (.rcall 472 [.l 0] 0 0 21500)^qf 9 3^qs 9 1 2 1)<|rs 84 (qm 0^q1 (.rcall 471 [.l 0] 0 0 21600)^qf 9 4^qs 9 1 2 1)<|r1 87 (qr 6 1^qb 9 5^q1 (.mks 5 1 z_2 [(0,.l 2)])^q1 (.app 91 5 (.l 1) (.l 3))^qf 6 1^qs 6 1 5 4)))<|r1 76 (qm 8^qk .add 1^qv 8))
def l436_0:C:=.loop [] [] [6,9] [91] (lq 49 (qm 5^qm 4^qq .lss 0^ya^qm 0^q1 (.nilc (.l 4))^qg 1^ql 0^qn^zA 3) 58 0<|sq (bk 1 (rs 61 (qm 0^q1 (.rcall 471 [.l 0] 0 0 21200)^q1 (.build [.str [],.nslice 5] [(0,1,.l 1)])^qG 6 z_18^qs 6 2 3 2)<|rs 64 (qm 0^q1 (.rcall 435 [.l 0] 0 0 21300)^qv 7)<|sq (rs 0 (qz 8 0)<|bk 2 l436_1)<|r1 93 (qr 3 5^q1 (.ldf 91 6 2 (.g 6))^q1 (.mks 2 1 z_7 [(0,.l 2)])^q1 (.app 97 2 (.l 1) (.l 3))^qf 3 5^qs 3 1 5 4)))<|r1 59 (qm 5^qk .add 1^qv 5))
def l436_2:C:=.loop [] [] [11] [] (lq 101 (qm 10^qm 4^qq .lss 0^ya^qm 0^q1 (.nilc (.l 4))^qg 1^ql 0^qn^zA 3) 110 4<|sq (bk 5 (rs 113 (qm 0^q1 (.rcall 435 [.l 0] 0 0 21800)^q1 (.build z_4 [(0,1,.l 1)])^qG 11 z_4^qs 11 11 3 2)<|rs 116 (qm 0^q1 (.rcall 435 [.l 0] 0 0 21900)^qf 11 1^qs 11 1 2 1)<|rs 119 (qm 0^q1 (.rcall 435 [.l 0] 0 0 22000)^qf 11 2^qg 0^qs 11 1 3 1)<|rs 123 (qm 0^q1 (.rcall 434 [.l 0] 0 0 22100)^qf 11 2^qg 1^qs 11 3 3 1)<|rs 127 (qm 0^q1 (.rcall 472 [.l 0] 0 0 22200)^qf 11 2^qg 4^qs 11 1 3 1)<|rs 131 (qm 0^q1 (.rcall 471 [.l 0] 0 0 22300)^qf 11 2^qg 5^qs 11 1 3 1)<|r1 135 (qr 3 12^qb 11 11^q1 (.mks 11 1 z_4 [(0,.l 2)])^q1 (.app 139 11 (.l 1) (.l 3))^qf 3 12^qs 3 1 5 4)))<|r1 111 (qm 10^qk .add 1^qv 10))
def c436:C:=rs 0 (qG 2 z_10)<|rs 12 (qm 0^q1 (.rcall 435 [.l 0] 0 0 20000)^q1 (.build [.int .i64 0,.int .i64 0,.str [],.str [],.int .i64 0,.nslice 2,.int .i64 0,.int .i64 0,.int .i64 0,.int .i64 0,.int .i64 0,.int .i64 0,.nslice 11,.int .i64 0,.int .i64 0,.int .i64 0,.int .i64 0] [(0,1,.l 1)])^qG 3 z_19^qs 3 17 3 2)<|rs 15 (qm 0^q1 (.rcall 435 [.l 0] 0 0 20100)^qf 3 1^qs 3 1 2 1)<|rs 18 (qm 0^q1 (.rcall 435 [.l 0] 0 0 20200)^qf 3 4^qs 3 1 2 1)<|rs 21 (qm 0^q1 (.rcall 435 [.l 0] 0 0 20300)^qf 3 13^qs 3 1 2 1)<|rs 24 (qm 0^q1 (.rcall 435 [.l 0] 0 0 20400)^qf 3 14^qs 3 1 2 1)<|rs 27 (qm 0^q1 (.rcall 435 [.l 0] 0 0 20500)^qf 3 15^qs 3 1 2 1)<|rs 30 (qm 0^q1 (.rcall 435 [.l 0] 0 0 20600)^qf 3 16^qs 3 1 2 1)<|rs 33 (qm 0^q1 (.rcall 471 [.l 0] 0 0 20700)^qf 3 2^qg 0^qs 3 1 3 1)<|rs 37 (qm 0^q1 (.rcall 471 [.l 0] 0 0 20800)^qf 3 2^qg 1^qs 3 1 3 1)<|rs 41 (qm 0^q1 (.rcall 434 [.l 0] 0 0 20900)^qf 3 6^qs 3 3 2 1)<|rs 44 (qm 0^q1 (.rcall 434 [.l 0] 0 0 21000)^qf 3 9^qs 3 3 2 1)<|rs 47 (qm 0^q1 (.rcall 435 [.l 0] 0 0 21100)^qv 4)<|sq (rs 0 (qz 5 0)<|bk 0 l436_0)<|rs 99 (qm 0^q1 (.rcall 435 [.l 0] 0 0 21700)^qv 4)<|sq (rs 0 (qz 10 0)<|bk 4 l436_2)<|rs 141 (qb 3 17^qt 2 17 0) .ret
def F436:F:=mF 1 [.cell 2 (some 17)] none c436
def yj:C:=rs 72 (qr 3 7^qm 10^q1 (.call (.k 429) .no (some 0) [.l 1,.l 2])^qv 11)<|rs 76 (qb 9 7^qf 6 1^qs 6 7 1 0)<|i1 78 (qb 9 7^qc 41^qN) 80 (i1 81 (qm 8^ya^qb 9 7^qc 40^zA 1) 85 (r1 86 (qm 11^qr 6 8^q1 (.app 75 36 (.l 0) (.l 2))^qv 11))<|r1 90 (qf 6 8^q5 (.store (.v 6) 1 (.l 0) (.c (.slice 36 [])))))<|rs 91 (qb 2 2^qb 6 9^qd 473^qm 11^qt 4 2 2^qw 5) .ret
def c437:C:=rs 0 (qB 2 0^qB 3 1^qG 4 z_11^qS 5 36)<|rs 13 (qb 2 2^qr 3 7^qC 427 (ls [0,2])^q2 12 (.mov (.l 3))^qx 0^qy 1^qG 6 z_12^qs 6 9 7 5^qV 7 6)<|i1 19 (qm 7^qn^ya^qr 3 7^qc 368^qn^zA 2) 26 (rs 27 (qb 2 2^qt 4 2 0^qS 5 36) .ret)<|i1 28 (qr 3 0^qk .eql 35^ya^qr 3 12^qc 430^qn^zA 3) 36 (rs 37 (qb 2 2^qt 4 2 0^qS 5 36) .ret)<|rs 38 (qR 6 1 7^qc 41^qv 8)<|rs 42 (qR 6 1 7^qr 3 0^qk .sub 35^qk .add 1^qr 3 1^qr 3 2^qr 3 4^qr 3 8^qr 3 35^qr 3 12^q1 (.build z_6 [(0,1,.l 5),(1,1,.l 7),(2,1,.l 9),(3,1,.l 11),(4,1,.l 13),(5,1,.l 15),(6,1,.l 17)])^qC 57 (ls [1,18])^q2 41 (.mov (.l 19))^qx 0^qy 1^qG 9 z_5^qs 9 7 23 21^qV 10 22)<|i1 64 (qm 7^qn^ya^qr 9 1^qk .eql 0^zA 2) 70 (rs 71 (qb 2 2^qt 4 2 0^qS 5 36) .ret) yj
def F437:F:=mF 2 [.cell 4 (some 2),.t 5] none c437
def c438:C:=rs 0 (qB 2 0^qB 3 1^qG 4 z_11^qS 5 36)<|rs 13 (qb 2 2^qr 3 7^qC 427 (ls [0,2])^q2 12 (.mov (.l 3))^qx 0^qy 1^qG 6 z_12^qs 6 9 7 5^qV 7 6)<|i1 19 (qm 7^qN) 20 (rs 21 (qb 2 2^qt 4 2 0^qS 5 36) .ret)<|rs 23 (qR 6 1 7^qr 3 4^qr 3 35^qC 54 (ls [1,3,5])^q2 22 (.mov (.l 6))^qx 0^qy 1^qY 7 2^qG 8 z_5^qs 8 7 11 8^qV 9 9^qV 10 10)<|i1 33 (qm 10^qK .neq 0) 34 (rs 35 (qb 2 2^qt 4 2 0^qS 5 36) .ret)<|rs 36 (qr 2 0^qr 3 7^qr 3 4^q1 (.build z_16 [(0,1,.c (.int .i64 34)),(1,1,.l 1),(7,1,.l 3),(4,1,.l 5),(8,1,.c (.int .i64 1))])^qG 11 z_16^qs 11 36 7 6)<|i1 43 (qb 8 7^q3 (.call (.k 41) .no none [.l 0])) 44 (r1 45 (qf 11 8^qu 11 0 0))<|rs 46 (qb 8 7^qf 6 1^qs 6 7 1 0^qf 6 8^q5 (.store (.v 6) 1 (.l 3) (.c (.slice 36 []))))<|rt 49 (qb 2 2^qb 6 9^qd 473^qr 3 7^qm 9^q1 (.call (.k 429) .no (some 0) [.l 4,.l 5])^qb 11 36^q1 (.mks 36 1 z_16 [(0,.l 7)])^q1 (.app 55 36 (.l 6) (.l 8))^qt 4 2 2^qw 5) .ret
def F438:F:=mF 2 [.cell 4 (some 2),.t 5] none c438
def c439:C:=rs 0 (qB 3 0^qB 4 1^qB 5 2^qG 6 z_16)<|rs 7 (qr 3 0^qr 4 1^qr 4 7^qf 4 13^qg 0^ql 4^qf 4 13^qg 1^ql 4^q1 (.build z_17 [(0,1,.l 8),(1,1,.l 11)])^qb 5 9^q1 (.build z_16 [(0,1,.c (.int .i64 2)),(1,1,.l 1),(2,1,.l 3),(7,1,.l 5),(13,12,.l 12),(25,9,.l 13)])^qt 6 36 14) .ret
def F439:F:=mF 3 [.cell 6 (some 36)] none c439
def c440:C:=rs 0 (qB 5 0^qB 6 1^qB 7 2^qB 9 4^qG 10 z_11^qS 11 36)<|rs 18 (qR 7 1 3^qG 12 z_3^qs 12 3 2 1)<|rs 20 (qr 5 0^qf 12 2^qs 12 1 2 1)<|rs 24 (qb 12 3^q1 (.build z_3 [(0,3,.l 0)])^qm 3^qd 474^q2 23 (.mov (.l 3))^qx 0^qy 1^qY 4 2^qD 13^q1 (.alloc z_3)^q3 (.alloc z_3)^qs 13 3 8 5^qs 14 3 9 6^q3 (.mov (.l 7)))<|i1 31 (qm 15^qK .neq 0) 32 (rt 33 (qb 5 2^qb 5 2^qb 9 36^qm 15^q1 (.build z_9 [(0,1,.l 3)])^qC 439 (ls [1,2,4])^q1 (.mks 36 1 z_16 [(0,.l 5)])^qt 10 2 0^qw 11) .ret)<|rs 41 (qb 7 5^qr 9 3^qr 9 4^qR 9 13 12^qb 14 3^qm 3^qC 240 (ls [0,2,4,6,7,8])^q2 40 (.mov (.l 9))^qx 0^qy 1^qG 16 z_8^qG 17 z_9^qs 16 5 13 11^qs 17 9 14 12)<|i1 53 (qr 17 0^qk .neq 0^ya^qr 17 0^qk .neq 15^zA 3) 60 (rt 61 (qb 5 2^qb 5 2^qb 9 36^qb 17 9^qC 439 (ls [1,2,3])^q1 (.mks 36 1 z_16 [(0,.l 4)])^qt 10 2 0^qw 11) .ret)<|rt 67 (qb 5 2^qb 6 9^qb 16 5^qb 5 2^qb 9 36^qb 17 9^qC 439 (ls [3,4,5])^q1 (.mks 36 1 z_16 [(0,.l 6)])^qC 442 (ls [0,1,2,7])^qx 0^qy 1^qt 10 2 9^qw 11) .ret
def F440:F:=mF 5 [.cell 10 (some 2),.t 11] none c440
def c441:C:=rs 0 (qB 3 0^qB 4 1^qB 5 2^qS 6 36)<|rs 11 (qb 4 5^qr 5 3^qC 247 (ls [0,2])^q2 10 (.mov (.l 3))^qx 0^qy 1^qG 7 z_10^qs 7 17 7 5^qV 8 6)<|i1 17 (qm 8^qn^yo^qr 7 4^qk .neq 2^zo 2^yo^qr 7 15^qr 5 5^qq .neq 9^zO 7) 30 (rs 0 (qS 6 36) .ret)<|rs 31 (qb 7 17^qc 475^qv 9)<|i1 33 (qr 5 8^qm 9^eq^qQ .geq 1) 37 (rs 0 (qS 6 36) .ret)<|rt 38 (qr 3 0^qr 5 7^qr 5 3^qr 5 5^qr 5 8^qm 9^eq^qm 9^qr 5 8^q1 (.iad 1 (.l 12) (.l 14))^qj^q1 (.build z_16 [(0,1,.c (.int .i64 15)),(1,1,.l 1),(7,1,.l 3),(3,1,.l 5),(5,1,.l 7),(8,1,.l 9),(4,1,.l 11),(12,1,.l 16)])^q1 (.mks 36 1 z_16 [(0,.l 17)])^qv 6) .ret
def F441:F:=mF 3 [.t 6] none c441
def c442:C:=rs 0 (qB 4 0^qB 5 1^qB 6 2^qG 8 z_11^qS 9 36)<|rs 17 (qb 6 5^qc 401^q2 16 (.mov (.l 1))^qx 0^qy 1^qw 10^qD 11^q1 (.mov (.l 4)))<|rs 22 (qR 5 1 7^qm 10^qd 47^q2 21 (.mov (.l 3))^qx 0^qy 1^qY 4 2^qG 12 z_5^qs 12 7 8 5^qV 13 6^qV 14 7)<|i1 29 (qm 14^qK .neq 0) 30 (rs 31 (qb 4 2^qt 8 2 0^qS 9 36) .ret)<|rs 32 (qr 5 0^qm 13^q1 (.call (.k 429) .no (some 0) [.l 1,.l 2])^qv 15)<|rs 36 (qb 12 7^qm 3^qf 5 1^qs 5 7 2 0^qf 5 8^qs 5 1 4 1)<|i1 40 (qb 12 7^qc 41^qN) 42 (r1 43 (qm 15^qm 3^q1 (.app 35 36 (.l 0) (.l 1))^qv 15^qf 5 8^q5 (.store (.v 5) 1 (.l 4) (.c (.slice 36 [])))))<|rs 47 (qb 4 2^qb 5 9^qd 473^qm 15^qt 8 2 2^qw 9) .ret
def F442:F:=mF 4 [.cell 8 (some 2),.t 9] none c442
def c443:C:=rs 0 (qB 4 0^qB 5 1^qB 6 2^qB 7 3^qG 8 z_11^qS 9 36)<|i1 13 (qr 6 0^q3 (.call (.k 476) .no none [.l 1,.f 477])) 15 (rs 16 (qb 4 2^qt 8 2 0^qS 9 36) .ret)<|rs 17 (qb 6 5^qR 7 9 3^qC 262 (ls [0,2])^qG 10 z_8^qs 10 5 4 3)<|sq (rs 22 (qb 10 5^qc 401^q2 21 (.mov (.l 1))^qx 0^qy 1^qw 11^qD 12^q1 (.mov (.l 4)))<|rs 26 (qm 11^qf 5 1^qg 4^ql 5^qQ .eql 0)<|cd 30 (rs 31 (qb 4 2^qt 8 2 0^qS 9 36) .ret) .skip)<|rs 32 (qb 4 2^qb 5 9^qb 10 5^qC 442 [.l 0,.l 1,.l 2,.c (.slice 36 [])]^qx 0^qy 1^qt 8 2 4^qw 9) .ret
def F443:F:=mF 4 [.cell 8 (some 2),.t 9] none c443
def c444:C:=rs 3 (q1 (.box (.g 0))^q3 (.box (.g 1))^q3 (.box (.g 2))^q3 (.alloc z_8)^q3 (.alloc z_16)^q3 (.mov (cb false)))<|rs 17 (qr 5 3^qr 5 5^q1 (.build z_16 [(3,1,.l 1),(5,1,.l 3)])^qG 9 z_16^qs 9 36 5 4)<|rs 0 (qF 10)<|sq (rs 22 (qf 5 0^q3 (.load (.v 5) none (.l 0)))<|bk 0 (rs 25 (q1 (.bin .eql (.g 23) (ci 8))^qv 24)<|cd 24 (rs 27 (qb 4 5^qr 5 3^qr 5 4^qr 5 6^qC 256 (ls [0,2,4,6])^q2 26 (.mov (.l 7))^qx 0^qy 1^qt 4 5 9^qw 10)<|r1 37 (qr 5 3^qr 5 6^qR 4 1 3^q1 (.build z_16 [(0,1,.c (.int .i64 9)),(3,1,.l 1),(6,1,.l 3),(9,3,.l 5)])^qt 9 36 6))<|rs 45 (q1 (.bin .eql (.g 23) (ci 10))^qv 44)<|cd 44 (rs 47 (qb 4 5^qr 5 3^qr 5 6^qR 5 9 3^qC 258 (ls [0,2,4,6])^q2 46 (.mov (.l 7))^qx 0^qy 1^qt 4 5 9^qw 10)<|r1 57 (qr 5 3^qr 5 6^q1 (.build z_16 [(0,1,.c (.int .i64 11)),(3,1,.l 1),(6,1,.l 3)])^qt 9 36 4))<|rs 63 (q1 (.bin .eql (.g 23) (ci 12))^qv 62)<|cd 62 (rs 65 (qb 4 5^qr 5 3^qr 5 4^qr 5 5^qC 265 (ls [0,2,4,6])^q2 64 (.mov (.l 7))^qx 0^qy 1^qt 4 5 9^qw 10)<|rs 76 (qb 4 5^qr 5 3^qC 247 (ls [0,2])^q2 75 (.mov (.l 3))^qx 0^qy 1^qG 11 z_10^qs 11 17 7 5^qD 12^q1 (.mov (.l 6)))<|r1 82 (qb 11 17^qc 475^eq^qf 9 0^qu 9 3 13^qf 9 8^qs 9 1 5 2))<|rs 88 (q1 (.bin .eql (.g 23) (ci 16))^qv 87)<|cd 87 (rs 90 (qr 5 12^qc 478^q2 89 (.mov (.l 2))^qx 0^qy 1^qG 13 z_10^qs 13 17 6 4^qV 14 5)<|i1 95 (qm 14^qK .neq 0) 96 (rt 97 (qb 4 5^qb 9 36^qt 6 5 0^qt 7 36 1^qF 8) .ret)<|rs 100 (qb 4 5^qb 13 17^qr 5 5^qC 253 (ls [0,1,3])^q2 99 (.mov (.l 4))^qx 0^qy 1^qt 4 5 6^qw 10)<|r2 107 (qr 13 0^qf 9 0^qu 9 2 17^qf 9 3^qs 9 1 4 1))<|rs 112 (q1 (.bin .eql (.g 23) (ci 18))^qv 111)<|cd 111 (rs 114 (qb 4 5^qr 5 3^qr 5 5^qr 5 4^qC 266 (ls [0,2,4,6])^q2 113 (.mov (.l 7))^qx 0^qy 1^qt 4 5 9^qw 10)<|r1 124 (qf 9 0^qu 9 0 19))<|rs 126 (q1 (.bin .eql (.g 23) (ci 20))^qv 125)<|cd 125 (rs 128 (qb 4 5^qr 5 3^qr 5 5^qC 267 (ls [0,2,4])^q2 127 (.mov (.l 5))^qx 0^qy 1^qt 4 5 7^qw 10)<|r1 136 (qf 9 0^qu 9 0 21))<|rs 138 (q1 (.bin .eql (.g 23) (ci 22))^qv 137)<|cd 137 (rs 140 (qb 4 5^qr 5 3^qr 5 5^qC 270 (ls [0,2,4])^q2 139 (.mov (.l 5))^qx 0^qy 1^qt 4 5 7^qw 10)<|rs 149 (qb 4 5^qr 5 3^qC 247 (ls [0,2])^q2 148 (.mov (.l 3))^qx 0^qy 1^qG 15 z_10^qs 15 17 7 5^qD 16^q1 (.mov (.l 6)))<|r2 155 (qr 15 1^qf 9 0^qu 9 2 23^qf 9 4^qs 9 1 4 1))<|rs 160 (q1 (.bin .eql (.g 23) (ci 24))^qv 159)<|cd 159 (rs 162 (qb 4 5^qr 5 3^qr 5 5^qC 271 (ls [0,2,4])^q2 161 (.mov (.l 5))^qx 0^qy 1^qt 4 5 7^qw 10)<|r1 170 (qf 9 0^qu 9 0 25))<|rs 172 (q1 (.bin .eql (.g 23) (ci 26))^qv 171)<|cd 171 (rs 174 (qb 4 5^qr 5 3^qr 5 4^qr 5 12^qr 5 8^qr 5 5^qC 273 (ls [0,2,4,6,8,10])^q2 173 (.mov (.l 11))^qx 0^qy 1^qt 4 5 13^qw 10)<|r1 188 (qf 9 0^qu 9 0 27))<|rs 190 (q1 (.bin .eql (.g 23) (ci 28))^qv 189)<|cd 189 (rs 192 (qb 4 5^qr 5 3^qr 5 8^qr 5 4^qr 5 5^qC 275 (ls [0,2,4,6,8])^q2 191 (.mov (.l 9))^qx 0^qy 1^qt 4 5 11^qw 10)<|r1 204 (qf 9 0^qu 9 0 29)) .skip))<|rt 205 (qb 4 5^qb 9 36^qm 10^qt 6 5 0^qt 7 36 1^qV 8 2) .ret
def F444:F:=mF 3 [.cell 6 (some 5),.cell 7 (some 36),.t 8] none c444
def c445:C:=rs 0 (qF 2)<|rs 3 (qm 0^qk .geq 0^ya^qm 0^qk .leq 1099511627776^za 2^qv 2) .ret
def F445:F:=mF 1 [.t 2] none c445
def r446_0:List Op:=(qB 2 0^qB 3 1^qG 4 z_11^qS 5 36) qe 0 0 none
def r446_1:List Op:=(qb 2 2^qr 3 7^qC 409 (ls [0,2])^qv 6) qe 14 0 none
def r446_2:List Op:=(qr 3 12^qc 425^q2 18 (.mov (.l 2))^qx 0^qy 1^qD 7^q1 (.alloc z_8)^qs 7 5 6 4^q3 (.mov (.l 5))) qe 19 0 none
def r446_3:List Op:=(qr 3 7^qk .lss 1^yo^qr 3 7^qk .gtr 3^zo 3^yo^qr 3 0^qk .eql 35^ya^qm 8^qn^y0 8^qa 12^zO 8) qe 24 0 none
def r446_4:List Op:=(qb 2 2^qt 4 2 0^qS 5 36) qe 41 0 none
def r446_5:List Op:=(qr 3 7^qr 2 0^q1 (.build z_5 [(0,1,.l 3)])^q1 (.build z_12 [(0,1,.l 1),(1,7,.l 4)])^qG 9 z_12^qs 9 9 6 5) qe 42 0 none
def r446_6:List Op:=(qm 6^qK .geq 0) qe 48 0 none
def r446_7:List Op:=(qr 2 1^qm 6^qi 9^qJ 9^qt 9 9 4) qe 50 0 none
def r446_8:List Op:=(qR 9 1 7^qc 426^qv 10) qe 55 0 none
def r446_9:List Op:=(qR 9 1 7^qr 3 0^qk .sub 34^qr 3 1^qr 3 2^qr 3 4^qr 3 8^qr 3 35^qr 3 12^q1 (.build z_6 [(0,1,.l 4),(1,1,.l 6),(2,1,.l 8),(3,1,.l 10),(4,1,.l 12),(5,1,.l 14),(6,1,.l 16)])^qC 58 (ls [1,17])^q2 58 (.mov (.l 18))^qx 0^qy 1^qG 11 z_5^qs 11 7 22 20^qV 12 21) qe 59 0 none
def r446_10:List Op:=(qm 6^qk .lss 0^ya^qr 11 1^qk .eql 0^zA 2) qe 80 0 none
def r446_11:List Op:=(qb 2 2^qt 4 2 0^qS 5 36) qe 87 0 none
def wR:C:=rs 88 (qr 3 7^qm 12^q1 (.call (.k 433) .no (some 0) [.l 1,.l 2])^qv 13)<|i1 92 (qm 10^ya^qb 11 7^qc 426^qn^za 1^ya^qb 11 7^qc 38^zA 6) 101 (r1 102 (qm 13^qr 9 8^q1 (.app 91 36 (.l 0) (.l 2))^qv 13))<|i1 106 (qb 11 7^qc 426^qN) 108 (r1 109 (qf 9 8^q5 (.store (.v 9) 1 (.l 0) (.c (.slice 36 [])))))<|rs 110 (qb 11 7^qf 9 1^qs 9 7 1 0)<|rs 112 (qb 2 2^qb 9 9^qd 447^qm 13^qt 4 2 2^qw 5) .ret
def c446:C:=sq (.region false r446_0)<|sq (.region false r446_1)<|sq (.region false r446_2)<|sq (sq (.region false r446_3)<|cd 40 (sq (.region false r446_4) .ret) .skip)<|sq (.region false r446_5)<|sq (sq (.region false r446_6)<|cd 49 (.region false r446_7) .skip)<|sq (.region false r446_8)<|sq (.region false r446_9)<|sq (sq (.region false r446_10)<|cd 86 (sq (.region false r446_11) .ret) .skip) wR
def F446:F:=mF 2 [.cell 4 (some 2),.t 5] none c446
def l447_0:C:=em (lq 7 (qm 6^qK .leq 3) 8 0<|sq (bk 1 (rs 11 (qm 6^qr 3 0^qQ .eql 0)<|cd 14 (r1 15 (qm 5^qb 3 9^q1 (.mks 9 1 z_12 [(0,.l 1)])^q1 (.app 5 9 (.l 0) (.l 2))^qv 5))<|rs 19 (qb 2 2^qm 6^q1 (.call (.k 409) .borrow none [.l 0,.l 1])^qK .geq 0)<|cd 22 (r2 23 (qm 5^qr 2 1^qb 2 2^qm 6^q1 (.call (.k 409) .borrow none [.l 3,.l 4])^q1 (.iad 9 (.l 2) (.l 5))^qJ 9^q1 (.mks 9 1 z_12 [(0,.l 7)])^q1 (.app 5 9 (.l 0) (.l 8))^qv 5)) .skip))<|r1 9 (qm 6^qk .add 1^qv 6))
def c447:C:=rs 0 (qB 2 0^qB 3 1^qG 4 z_11)<|rs 5 (q3 (.mko 9))<|sq (rs 0 (qz 6 1)<|bk 0 l447_0)<|rs 33 (qm 5^qf 2 1^qs 2 1 1 0)<|rs 35 (qb 2 2^qt 4 2 0) .ret
def F447:F:=mF 2 [.cell 4 (some 2)] none c447
def c448:C:=rs 0 (qB 3 0^qB 4 1^qB 5 2^qG 6 z_16)<|rs 7 (qr 3 0^qr 4 1^qr 4 7^qf 4 13^qg 0^ql 4^qf 4 13^qg 1^ql 4^q1 (.build z_17 [(0,1,.l 8),(1,1,.l 11)])^qb 5 9^q1 (.build z_16 [(0,1,.c (.int .i64 2)),(1,1,.l 1),(2,1,.l 3),(7,1,.l 5),(13,12,.l 12),(25,9,.l 13)])^qt 6 36 14) .ret
def F448:F:=mF 3 [.cell 6 (some 36)] none c448
def c449:C:=rs 0 (qB 2 0^qG 4 z_3^qz 5 0)<|i1 6 (qb 2 3^qc 24^qn^yo^qm 1^qc 479^qn^zO 3) 13 (rs 14 (q1 (.build z_3 [])^qt 4 3 0^qz 5 1) .ret)<|i1 15 (qm 1^qr 2 0^qQ .gtr 0) 18 (rs 19 (qm 1^qr 2 2^q1 (.build z_3 [(0,1,.l 0),(2,1,.l 2)])^qt 4 3 3^qz 5 0) .ret)<|i1 23 (qr 2 1^qK .geq 1048576) 25 (rs 26 (q1 (.build z_3 [])^qt 4 3 0^qz 5 6) .ret)<|rs 27 (qr 2 0^qr 2 1^qk .add 1^qr 2 2^q1 (.build z_3 [(0,1,.l 1),(1,1,.l 4),(2,1,.l 6)])^qt 4 3 7^qz 5 0) .ret
def F449:F:=mF 2 [.cell 4 (some 3),.t 5] none c449
def c450:C:=rs 0 (qB 4 0^qB 5 1^qB 6 2^qG 8 z_11^qS 9 36)<|rt 15 (qR 5 1 7^qb 6 5^qc 424^qC 48 (ls [1,3])^q2 14 (.mov (.l 4))^qx 0^qy 1^qY 5 2^qG 10 z_5^qs 10 7 9 6^qV 11 7^qV 12 8)<|i1 23 (qm 12^qK .neq 0) 24 (rs 25 (qb 4 2^qt 8 2 0^qS 9 36) .ret)<|rs 26 (qr 5 0^qm 11^q1 (.call (.k 433) .no (some 0) [.l 1,.l 2])^qv 13)<|rs 30 (qb 10 7^qf 5 1^qs 5 7 1 0^qf 5 8^q5 (.store (.v 5) 1 (.l 3) (.c (.slice 36 []))))<|sq (rs 33 (qb 10 7^q3 (.call (.k 426) .no none [.l 0]))<|cd 34 (r1 35 (qm 3^qf 5 8^qs 5 1 1 0))<|r1 37 (qm 13^qm 3^q1 (.app 29 36 (.l 0) (.l 1))^qv 13))<|rs 40 (qb 4 2^qb 5 9^qd 447^qm 13^qt 8 2 2^qw 9) .ret
def F450:F:=mF 4 [.cell 8 (some 2),.t 9] none c450
def c451:C:=rs 0 (qB 3 0^qB 4 1^qB 5 2^qS 6 36)<|rs 8 (qb 4 5^qr 5 3^qC 248 (ls [0,2])^qG 7 z_10^qs 7 17 4 3)<|i2 12 (qr 7 0^qk .eql 0^yo^qr 7 4^qk .neq 2^zo 3^yo^qr 7 15^qr 5 5^qq .neq 10^zo 8^yo^qr 5 8^qb 7 17^qc 480^eq^qq .geq 17^zO 15) 34 (rs 0 (qS 6 36) .ret)<|rt 35 (qr 3 0^qr 5 7^qr 5 3^qr 5 5^qr 5 8^qb 7 17^qc 480^eq^qb 7 17^qc 480^qr 5 8^q1 (.iad 1 (.l 14) (.l 16))^qj^q1 (.build z_16 [(0,1,.c (.int .i64 15)),(1,1,.l 1),(7,1,.l 3),(3,1,.l 5),(5,1,.l 7),(8,1,.l 9),(4,1,.l 12),(12,1,.l 18)])^q1 (.mks 36 1 z_16 [(0,.l 19)])^qv 6) .ret
def F451:F:=mF 3 [.t 6] none c451
def c452:C:=rs 0 (qB 2 0^qB 3 1^qG 4 z_8^qG 5 z_16^qF 6)<|rs 11 (qr 3 0^qk .add 1^qr 3 3^qr 3 5^q1 (.build z_16 [(0,1,.l 2),(3,1,.l 4),(5,1,.l 6)])^qG 7 z_16^qs 7 36 8 7)<|rs 0 (qF 8)<|sq (rs 19 (qf 3 0^q3 (.load (.v 3) none (.l 0)))<|bk 0 (rs 22 (q1 (.bin .eql (.g 20) (ci 8))^qv 21)<|cd 21 (rs 24 (qb 2 5^qr 3 3^qr 3 4^qr 3 6^qC 257 (ls [0,2,4,6])^q2 23 (.mov (.l 7))^qx 0^qy 1^qt 2 5 9^qw 8)<|r2 34 (qr 3 6^qR 2 1 3^qf 7 5^qu 7 4 0^qf 7 6^qs 7 1 6 1^qf 7 9^qs 7 3 8 3))<|rs 42 (q1 (.bin .eql (.g 20) (ci 10))^qv 41)<|cd 41 (rs 44 (qb 2 5^qr 3 3^qr 3 6^qR 3 9 3^qC 259 (ls [0,2,4,6])^q2 43 (.mov (.l 7))^qx 0^qy 1^qt 2 5 9^qw 8)<|r2 54 (qr 3 6^qf 7 5^qu 7 2 0^qf 7 6^qs 7 1 4 1))<|rs 59 (q1 (.bin .eql (.g 20) (ci 12))^qv 58)<|cd 58 (rs 61 (qb 2 5^qr 3 3^qr 3 4^qr 3 5^qC 269 [.l 0,ci 0,.l 2,.l 4,.l 6]^q2 60 (.mov (.l 7))^qx 0^qy 1^qt 2 5 9^qw 8)<|rs 71 (q3 (.mov (.g 8)))<|cd 71 (r1 72 (qb 2 5^qr 3 3^qC 248 (ls [0,2])^qc 480^eq^qf 7 8^qs 7 1 6 5)) .skip)<|rs 80 (q1 (.bin .eql (.g 20) (ci 16))^qv 79)<|cd 79 (rs 82 (qr 3 12^qc 481^q2 81 (.mov (.l 2))^qx 0^qy 1^qG 9 z_10^qs 9 17 6 4^qV 10 5)<|i1 87 (q3 (.mov (.g 10))) 87 (r1 89 (qb 2 5^qb 9 17^qr 3 5^qC 254 (ls [0,1,3])^q2 88 (.mov (.l 4))^qx 0^qy 1^qt 2 5 6^qw 8))<|r1 96 (qr 9 0^qf 7 3^qs 7 1 2 1))<|rs 100 (q1 (.bin .eql (.g 20) (ci 18))^qv 99)<|cd 99 (r1 102 (qb 2 5^qr 3 3^qr 3 4^qr 3 5^qC 269 [.l 0,ci 3,.l 2,.l 4,.l 6]^q2 101 (.mov (.l 7))^qx 0^qy 1^qt 2 5 9^qw 8))<|rs 113 (q1 (.bin .eql (.g 20) (ci 20))^qv 112)<|cd 112 (r1 115 (qb 2 5^qr 3 3^qr 3 5^qC 269 [.l 0,ci 2,.l 2,ci 0,.l 4]^q2 114 (.mov (.l 5))^qx 0^qy 1^qt 2 5 7^qw 8))<|rs 124 (q1 (.bin .eql (.g 20) (ci 22))^qv 123)<|cd 123 (rs 126 (qb 2 5^qr 3 3^qr 3 5^qC 269 [.l 0,ci 1,.l 2,ci 0,.l 4]^q2 125 (.mov (.l 5))^qx 0^qy 1^qt 2 5 7^qw 8)<|r1 134 (qb 2 5^qr 3 3^qC 248 (ls [0,2])^q1 (.fld (.l 3) 1 none)^qf 7 4^qs 7 1 5 4))<|rs 141 (q1 (.bin .eql (.g 20) (ci 24))^qv 140)<|cd 140 (r1 143 (qb 2 5^qr 3 3^qr 3 5^qC 269 [.l 0,ci 4,.l 2,ci 0,.l 4]^q2 142 (.mov (.l 5))^qx 0^qy 1^qt 2 5 7^qw 8))<|rs 152 (q1 (.bin .eql (.g 20) (ci 26))^qv 151)<|cd 151 (r1 154 (qb 2 5^qr 3 3^qr 3 4^qr 3 12^qr 3 8^qr 3 5^qC 274 (ls [0,2,4,6,8,10])^q2 153 (.mov (.l 11))^qx 0^qy 1^qt 2 5 13^qw 8))<|rs 169 (q1 (.bin .eql (.g 20) (ci 28))^qv 168)<|cd 168 (r1 171 (qb 2 5^qr 3 3^qr 3 8^qr 3 4^qr 3 5^qC 276 (ls [0,2,4,6,8])^q2 170 (.mov (.l 9))^qx 0^qy 1^qt 2 5 11^qw 8)) .skip))<|rt 183 (qb 2 5^qb 7 36^qm 8^qt 4 5 0^qt 5 36 1^qV 6 2) .ret
def F452:F:=mF 2 [.cell 4 (some 5),.cell 5 (some 36),.t 6] none c452
def c455:C:=rs 0 (qB 1 0^qE 2^qz 3 0)<|i1 4 (qb 1 3^qc 28^qN) 6 (rs 0 (qE 2^qz 3 1) .ret)<|rs 7 (qr 1 0^qr 1 1^qr 1 2^q1 (.mks 1 3 [.int .i64 0] [(0,.l 1),(1,.l 3),(2,.l 5)])^qc 483^qx 0^qy 1^qw 2^qw 3) .ret
def F455:F:=mF 1 [.t 2,.t 3] none c455
def l456_0:C:=em (lq 7 (qm 0^qK .geq 128) 8 0<|bk 1 (rs 9 (qm 4^qm 0^q1 (.conv (.int .u8) (.l 1))^q1 (.bin .or (.l 2) (.c (.int .u8 128)))^q1 (.mks 1 1 [.int .u8 0] [(0,.l 3)])^q1 (.app 4 1 (.l 0) (.l 4))^qv 4)<|r1 15 (qm 0^q1 (.sh .shr (.l 0) (.c (.int .u64 7)))^qv 0)))
def c456:C:=rs 0 (qE 2^qz 3 0)<|i1 5 (qm 0^qK .lss 0) 6 (rs 0 (qE 2^qz 3 1) .ret)<|rs 4 (q3 (.mko 1))<|sq (bk 0 l456_0)<|rs 17 (qm 4^qm 0^q1 (.conv (.int .u8) (.l 1))^q1 (.mks 1 1 [.int .u8 0] [(0,.l 2)])^q1 (.app 4 1 (.l 0) (.l 3))^q1 (.b2s (.l 4))^qv 2^qz 3 0) .ret
def F456:F:=mF 1 [.t 2,.t 3] none c456
def l457_0:C:=.loop [] [0,0,9000] [] [] (rs 9 (q3 (.bin .lss (.g 8) (.g 7)))<|sq (cd 9 .skip<|.exit 0)<|sq (bk 1 (rs 10 (q1 (.iad 1 (.g 6) (.g 8))^qj^qv 5)<|r2 12 (qm 0^qm 0^q1 (.nilc (.l 1))^qg 0^ql 0^qm 5^qc 484^q1 (.appd 1 (.l 4) (.l 6))^q1 (.nilc (.l 0))^qg 0^qs 0 1 9 7)))<|r1 22 (q1 (.bin .add (.g 8) (ci 1))^qv 8))
def c457:C:=rs 6 (q3 (.mov (.g 1))^qH false^q3 (.mov (ci 0)))<|bk 0 l457_0
def F457:F:=mF 2 [] none c457
def c458:C:=r2 4 (qm 0^qm 0^q1 (.nilc (.l 1))^qg 0^ql 0^qm 1^qc 485^q1 (.appd 1 (.l 4) (.l 6))^q1 (.nilc (.l 0))^qg 0^qs 0 1 9 7)
def F458:F:=mF 2 [] none c458
def c459:C:=rs 0 (qB 1 0^qE 2)<|rs 3 (qb 1 3^qc 486^qv 2) .ret
def F459:F:=mF 1 [.t 2] none c459
def c460:C:=rs 0 (qE 2)<|rs 6 (qm 0^qc 487^q2 5 (.mov (.l 1))^qx 0^qy 1^qw 3^qD 4^q1 (.mov (.l 4)))<|rs 10 (qm 3^qv 2) .ret
def F460:F:=mF 1 [.t 2] none c460
def l461_1:C:=em (lq 81 (qm 6^qr 5 1^eq^qQ .lss 0) 85 2<|sq (bk 3 (r2 88 (qm 3^qr 5 1^qm 6^qi 5^qg 0^qJ 3^qc 459^qq .add 0^qr 5 1^qm 6^qi 5^qg 3^qj^qc 489^qq .add 8^qr 5 1^qm 6^qi 5^qg 4^qj^qc 488^qq .add 16^qv 3)))<|r1 86 (qm 6^qk .add 1^qv 6))
def l461_0:C:=.loop [] [] [5] [] (lq 59 (qm 4^qr 1 5^eq^qQ .lss 0) 63 0<|sq (bk 1 (rs 66 (qr 1 5^qm 4^qi 2^qJ 2^qG 5 z_7^qs 5 2 5 4)<|rt 71 (qm 3^qr 5 0^qc 488^qq .add 0^qr 5 1^eq^qc 460^qq .add 4^qv 3)<|rs 0 (qz 6 0)<|bk 2 l461_1))<|r1 64 (qm 4^qk .add 1^qv 4))
def l461_2:C:=.loop [] [] [8] [] (lq 119 (qm 7^qr 1 12^eq^qQ .lss 0) 123 4<|sq (bk 5 (rs 126 (qr 1 12^qm 7^qi 11^qJ 11^qG 8 z_4^qs 8 11 5 4)<|r2 131 (qm 3^qr 8 0^qc 460^qq .add 0^qr 8 1^qc 460^qq .add 4^qf 8 2^qg 0^ql 8^qc 460^qq .add 8^qf 8 2^qg 1^q1 (.load (.v 8) (some 3) (.l 15))^qc 459^qq .add 13^qf 8 2^qg 4^ql 8^qc 489^qq .add 18^qf 8 2^qg 5^ql 8^qc 488^qq .add 23^qv 3)))<|r1 124 (qm 7^qk .add 1^qv 7))
def c461:C:=rs 0 (qB 1 0^qE 2)<|rt 9 (qr 1 0^qc 460^qr 1 1^qc 460^qq .add 2^qr 1 4^qc 460^qq .add 6^qr 1 13^qc 460^qq .add 10^qr 1 14^qc 460^qq .add 14^qr 1 15^qc 460^qq .add 18^qr 1 16^qc 460^qq .add 22^qf 1 2^qg 0^ql 1^qc 488^qq .add 26^qf 1 2^qg 1^ql 1^qc 488^qq .add 31^qR 1 6 3^qc 459^qq .add 36^qR 1 9 3^qc 459^qq .add 40^qr 1 5^eq^qc 460^qq .add 44^qv 3)<|sq (rs 0 (qz 4 0)<|bk 0 l461_0)<|rs 113 (qm 3^qr 1 12^eq^qc 460^qq .add 0^qv 3)<|sq (rs 0 (qz 7 0)<|bk 4 l461_2)<|rs 160 (qm 3^qv 2) .ret
def F461:F:=mF 1 [.t 2] none c461
def c462:C:=rs 0 (qB 2 0^qF 3)<|rs 4 (qr 2 0^q1 (.load (.c) none (.g 1))^qq .eql 1^qv 3) .ret
def F462:F:=mF 2 [.t 3] none c462
def l463_0:C:=em (rs 9 (q3 (.bin .lss (.g 8) (.g 7)))<|sq (cd 9 .skip<|.exit 0)<|sq (bk 1 (rs 10 (qm 8^qv 5)<|rs 11 (qm 1^qm 0^qm 5^qi 9^qJ 9^q3 (.call (.v (.l 0)) .no none [.l 4]))<|cd 16 (rs 17 (qm 5^qv 4) .ret) .skip))<|r1 18 (q1 (.bin .add (.g 8) (ci 1))^qv 8))
def c463:C:=rs 0 (qz 4 0)<|sq (rs 6 (qm 0^qH false^q3 (.mov (ci 0)))<|bk 0 l463_0)<|rs 0 (qz 4 (-1)) .ret
def F463:F:=mF 2 [.t 4] none c463
def c464:C:=rs 0 (qG 2 z_3)<|rs 7 (qm 0^q1 (.nilc (.l 0))^qg 0^ql 0^qc 490^q2 6 (.mov (.l 4))^qx 0^qy 1^qY 5 2^qG 3 z_3^qs 3 3 9 6^qV 4 7^qV 5 8)<|i1 15 (qm 0^q1 (.nilc (.l 0))^qg 1^ql 0^yo^qm 5^qk .neq 0^zO 4) 22 (rs 23 (qm 0^q1 (.nilc (.l 0))^qg 1^q5 (.store (.v 0) 1 (.l 2) (cb true)))<|rs 26 (q1 (.build z_3 [])^qt 2 3 0) .ret)<|rs 27 (qm 0^qm 4^q1 (.nilc (.l 0))^qg 0^qs 0 1 3 1)<|rs 31 (qb 3 3^qt 2 3 0) .ret
def F464:F:=mF 1 [.cell 2 (some 3)] none c464
def c465:C:=rs 0 (qz 2 0)<|rs 7 (qm 0^q1 (.nilc (.l 0))^qg 0^ql 0^qc 491^q2 6 (.mov (.l 4))^qx 0^qy 1^qY 5 2^qV 3 6^qV 4 7^qV 5 8)<|i1 15 (qm 0^q1 (.nilc (.l 0))^qg 1^ql 0^yo^qm 5^qk .neq 0^zO 4) 22 (rs 23 (qm 0^q1 (.nilc (.l 0))^qg 1^q5 (.store (.v 0) 1 (.l 2) (cb true)))<|rs 0 (qz 2 0) .ret)<|rs 26 (qm 0^qm 4^q1 (.nilc (.l 0))^qg 0^qs 0 1 3 1)<|rs 30 (qm 3^qv 2) .ret
def F465:F:=mF 1 [.t 2] none c465
def c466:C:=rs 0 (qz 2 0)<|rs 4 (qm 0^q1 (.rcall 465 [.l 0] 0 0 20000)^qv 3)<|i1 6 (qm 3^qm 0^q1 (.nilc (.l 1))^qg 0^ql 0^ge^qQ .gtr 0) 12 (rs 13 (qm 0^q1 (.nilc (.l 0))^qg 1^q5 (.store (.v 0) 1 (.l 2) (cb true)))<|rs 0 (qz 2 0) .ret)<|rs 16 (qm 3^qv 2) .ret
def F466:F:=mF 1 [.t 2] none c466
def l467_1:C:=em (rs 51 (q3 (.bin .lss (.g 50) (.g 49)))<|sq (cd 51 .skip<|.exit 2)<|sq (bk 3 (r2 52 (qr 4 1^qm 0^q1 (.rcall 464 [.l 2] 0 0 21400)^qm 0^q1 (.rcall 493 [.l 4] 0 0 21500)^qm 0^q1 (.rcall 492 [.l 6] 0 0 21600)^q1 (.build z_2 [(0,3,.l 3),(3,1,.l 5),(4,1,.l 7)])^q1 (.mks 5 1 z_2 [(0,.l 8)])^q1 (.app 62 5 (.l 1) (.l 9))^qf 4 1^qs 4 1 11 10)))<|r1 64 (q1 (.bin .add (.g 50) (ci 1))^qv 50))
def l467_0:C:=.loop [] [] [4] [62] (rs 44 (q3 (.bin .lss (.g 43) (.g 42)))<|sq (cd 44 .skip<|.exit 0)<|sq (bk 1 (rs 45 (qm 0^q1 (.rcall 492 [.l 0] 0 0 21200)^q1 (.build [.str [],.nslice 5] [(0,1,.l 1)])^qG 4 z_18^qs 4 2 3 2)<|sq (rs 48 (qm 0^q3 (.rcall 466 [.l 0] 0 0 21300)^q3 (.mov (ci 0)))<|bk 2 l467_1)<|r1 65 (qr 3 5^q1 (.ldf 62 4 2 (.g 4))^q1 (.mks 2 1 z_7 [(0,.l 2)])^q1 (.app 69 2 (.l 1) (.l 3))^qf 3 5^qs 3 1 5 4)))<|r1 71 (q1 (.bin .add (.g 43) (ci 1))^qv 43))
def l467_2:C:=.loop [] [] [5] [] (rs 75 (q3 (.bin .lss (.g 74) (.g 73)))<|sq (cd 75 .skip<|.exit 4)<|sq (bk 5 (rs 76 (qm 0^q1 (.rcall 465 [.l 0] 0 0 21800)^qm 0^q1 (.rcall 465 [.l 2] 0 0 21900)^q1 (.build z_4 [(0,1,.l 1),(1,1,.l 3)])^qG 5 z_4^qs 5 11 5 4)<|rs 81 (qm 0^q1 (.rcall 465 [.l 0] 0 0 22000)^qm 0^q1 (.rcall 464 [.l 2] 0 0 22100)^qm 0^q1 (.rcall 493 [.l 4] 0 0 22200)^qm 0^q1 (.rcall 492 [.l 6] 0 0 22300)^q1 (.build z_9 [(0,1,.l 1),(1,3,.l 3),(4,1,.l 5),(5,1,.l 7)])^qf 5 2^qs 5 9 9 8)<|r1 91 (qr 3 12^qb 5 11^q1 (.mks 11 1 z_4 [(0,.l 2)])^q1 (.app 95 11 (.l 1) (.l 3))^qf 3 12^qs 3 1 5 4)))<|r1 97 (q1 (.bin .add (.g 74) (ci 1))^qv 74))
def c467:C:=rs 0 (qG 2 z_10)<|rs 0 (qG 3 z_19)<|rs 6 (qm 0^q1 (.rcall 465 [.l 0] 0 0 20000)^qm 0^q1 (.rcall 465 [.l 2] 0 0 20100)^qm 0^q1 (.rcall 465 [.l 4] 0 0 20200)^qm 0^q1 (.rcall 465 [.l 6] 0 0 20300)^qf 3 0^qs 3 1 8 1^qf 3 1^qs 3 1 10 3^qf 3 4^qs 3 1 12 5^qf 3 13^qs 3 1 14 7)<|rs 18 (qm 0^q1 (.rcall 465 [.l 0] 0 0 20400)^qm 0^q1 (.rcall 465 [.l 2] 0 0 20500)^qm 0^q1 (.rcall 465 [.l 4] 0 0 20600)^qf 3 14^qs 3 1 6 1^qf 3 15^qs 3 1 8 3^qf 3 16^qs 3 1 10 5)<|rs 27 (qm 0^q1 (.rcall 492 [.l 0] 0 0 20700)^qm 0^q1 (.rcall 492 [.l 2] 0 0 20800)^qf 3 2^qg 0^qs 3 1 5 1^qf 3 2^qg 1^qs 3 1 8 3)<|rs 35 (qm 0^q1 (.rcall 464 [.l 0] 0 0 20900)^qm 0^q1 (.rcall 464 [.l 2] 0 0 21000)^qf 3 6^qs 3 3 4 1^qf 3 9^qs 3 3 6 3)<|sq (rs 41 (qm 0^q3 (.rcall 466 [.l 0] 0 0 21100)^q3 (.mov (ci 0)))<|bk 0 l467_0)<|sq (rs 72 (qm 0^q3 (.rcall 466 [.l 0] 0 0 21700)^q3 (.mov (ci 0)))<|bk 4 l467_2)<|rs 98 (qb 3 17^qt 2 17 0) .ret
def F467:F:=mF 1 [.cell 2 (some 17)] none c467
def l468_0:C:=em (rs 9 (q3 (.bin .lss (.g 8) (.g 7)))<|sq (cd 9 .skip<|.exit 0)<|sq (bk 1 (rs 10 (qm 8^qv 5)<|rs 11 (qm 1^qm 0^qm 5^qi 36^qJ 36^q3 (.call (.v (.l 0)) .no none [.l 4]))<|cd 16 (rs 17 (qm 5^qv 4) .ret) .skip))<|r1 18 (q1 (.bin .add (.g 8) (ci 1))^qv 8))
def c468:C:=rs 0 (qz 4 0)<|sq (rs 6 (qm 0^qH false^q3 (.mov (ci 0)))<|bk 0 l468_0)<|rs 0 (qz 4 (-1)) .ret
def F468:F:=mF 2 [.t 4] none c468
def c469:C:=rs 0 (qG 2 z_3^qE 3^qz 4 0)<|rs 11 (qm 0^qc 470^q2 10 (.mov (.l 1))^qx 0^qy 1^qY 2 2^qV 5 3^qV 0 4^qV 6 5)<|i1 16 (qm 6^qK .neq 0) 17 (rs 18 (q1 (.build z_3 [])^qm 6^qt 2 3 0^qE 3^qV 4 1) .ret)<|rs 21 (qm 0^qc 470^q2 20 (.mov (.l 1))^qx 0^qy 1^qY 2 2^qV 7 3^qV 0 4^qV 6 5)<|i1 26 (qm 6^qK .neq 0) 27 (rs 28 (q1 (.build z_3 [])^qm 6^qt 2 3 0^qE 3^qV 4 1) .ret)<|rs 31 (qm 0^qc 470^q2 30 (.mov (.l 1))^qx 0^qy 1^qY 2 2^qV 8 3^qV 0 4^qV 6 5)<|i1 36 (qm 6^qK .neq 0) 37 (rs 38 (q1 (.build z_3 [])^qm 6^qt 2 3 0^qE 3^qV 4 1) .ret)<|rs 40 (qm 5^qm 7^qm 8^q1 (.build z_3 [(0,1,.l 0),(1,1,.l 1),(2,1,.l 2)])^qG 9 z_3^qs 9 3 4 3)<|i1 44 (qb 9 3^qc 24^qN) 46 (rs 47 (q1 (.build z_3 [])^qt 2 3 0^qE 3^qz 4 3) .ret)<|rs 48 (qb 9 3^qm 0^qt 2 3 0^qw 3^qz 4 0) .ret
def F469:F:=mF 1 [.cell 2 (some 3),.t 3,.t 4] none c469
def l470_0:C:=em (lq 10 (qm 5^qm 0^ge^qq .lss 0^ya^qm 0^qm 5^q1 (.idx (.l 5) (.l 6))^q1 (.bin .geq (.l 7) (.c (.int .u8 128)))^zA 4) 19 0<|bk 1 (r1 20 (qm 5^qk .add 1^qv 5)))
def l470_1:C:=em (lq 29 (qm 7^qK .geq 0) 30 2<|sq (bk 3 (r1 33 (qm 6^q1 (.bin .mul (ci 128) (.l 0))^qm 0^qm 7^q1 (.idx (.l 2) (.l 3))^q1 (.conv (.int .i64) (.l 4))^qk .rem 128^qq .add 1^qv 6)))<|r1 31 (qm 7^qk .sub 1^qv 7))
def c470:C:=rs 0 (qz 2 0^qE 3^qz 4 0)<|rs 0 (qz 5 0)<|sq (bk 0 l470_0)<|i1 22 (qm 5^qm 0^ge^qQ .eql 0) 25 (rs 0 (qz 2 0^qE 3^qz 4 2) .ret)<|i1 26 (qm 5^qK .gtr 8) 27 (rs 0 (qz 2 0^qE 3^qz 4 3) .ret)<|rs 0 (qz 6 0)<|sq (rs 28 (qm 5^qv 7)<|bk 2 l470_1)<|rs 42 (qm 6^qc 487^q2 41 (.mov (.l 1))^qx 0^qy 1^qw 8^qD 9^q1 (.mov (.l 4)))<|i1 46 (qm 8^qm 0^qm 5^qk .add 1^q1 (.sl true 0 (.l 1) none (some (.l 3)))^qQ .neq 0) 51 (rs 0 (qz 2 0^qE 3^qz 4 3) .ret)<|rt 52 (qm 6^qm 0^qm 5^qk .add 1^q1 (.sl true 0 (.l 1) (some (.l 3)) none)^qV 2 0^qw 3^qz 4 0) .ret
def F470:F:=mF 1 [.t 2,.t 3,.t 4] none c470
def c471:C:=rs 0 (qE 2)<|rs 7 (qm 0^q1 (.nilc (.l 0))^qg 0^ql 0^qc 494^q2 6 (.mov (.l 4))^qx 0^qy 1^qY 5 2^qV 3 6^qV 4 7^qV 5 8)<|rs 15 (qm 0^qm 0^q1 (.nilc (.l 1))^qg 1^ql 0^yo^qm 5^qk .neq 0^zo 5^q1 (.nilc (.l 0))^qg 1^qs 0 1 10 8)<|rs 26 (qm 0^qm 4^q1 (.nilc (.l 0))^qg 0^qs 0 1 3 1)<|rs 30 (qm 3^qv 2) .ret
def F471:F:=mF 1 [.t 2] none c471
def c472:C:=rs 0 (qF 2)<|rs 7 (qm 0^q1 (.nilc (.l 0))^qg 0^ql 0^qc 495^q2 6 (.mov (.l 4))^qx 0^qy 1^qY 5 2^qV 3 6^qV 4 7^qV 5 8)<|rs 15 (qm 0^qm 0^q1 (.nilc (.l 1))^qg 1^ql 0^yo^qm 5^qk .neq 0^zo 5^q1 (.nilc (.l 0))^qg 1^qs 0 1 10 8)<|rs 26 (qm 0^qm 4^q1 (.nilc (.l 0))^qg 0^qs 0 1 3 1)<|rs 30 (qm 3^qv 2) .ret
def F472:F:=mF 1 [.t 2] none c472
def c473:C:=rs 0 (qB 2 0^qB 3 1^qG 4 z_11)<|rs 6 (qr 2 1^q1 (.fn 496 [.g 3] [3])^q1 (.call (.k 463) .borrow none [.l 1,.l 2])^qv 5)<|rs 10 (qr 2 1^q1 (.call (.k 497) .freeze (some 0) [.l 1])^qf 2 1^qs 2 1 3 2)<|sq (bk 0 (rs 22 (qm 5^qk .lss 0^qv 21)<|cd 21 (r1 24 (qr 2 1^qb 3 9^q1 (.mks 9 1 z_12 [(0,.l 2)])^q1 (.app 12 9 (.l 1) (.l 3))^qf 2 1^qs 2 1 5 4))<|rt 31 (qr 2 1^qm 5^qi 9^qg 0^q1 (.load (.e 12) none (.l 4))^qr 3 0^qq .eql 5^qv 30)<|cd 30 (r1 40 (qr 2 1^qm 5^qb 3 9^q1 (.iad 9 (.l 1) (.l 2))^q5 (.store (.e 12) 9 (.l 4) (.l 3))))<|r1 14 (qr 2 1^qm 5^qb 3 9^q1 (.mks 9 1 z_12 [(0,.l 3)])^q1 (.ins 498 12 9 (.l 1) (.l 2) (.l 4))^qf 2 1^qs 2 1 6 5)))<|rs 45 (qb 2 2^qt 4 2 0) .ret
def F473:F:=mF 2 [.cell 4 (some 2)] none c473
def c474:C:=rs 0 (qB 2 0^qG 4 z_3^qG 5 z_3^qz 6 0)<|i1 7 (qb 2 3^qm 1^qd 499^qN) 10 (rs 11 (q1 (.build z_3 [])^q1 (.build z_3 [])^qt 4 3 0^qt 5 3 1^qz 6 1) .ret)<|sq (bk 0 (rs 20 (qm 1^qf 2 0^qg 0^ql 2^qq .gtr 0^qv 19)<|cd 19 (r1 25 (qm 1^qf 2 0^qg 0^qs 2 1 2 0^qf 2 0^qg 1^qu 2 5 0))<|rs 31 (qf 2 0^qg 1^ql 2^qk .eql 1048576^qv 30)<|cd 30 (rs 35 (q1 (.build z_3 [])^q1 (.build z_3 [])^qt 4 3 0^qt 5 3 1^qz 6 6) .ret)<|r1 13 (qf 2 0^qg 1^ql 2^qk .add 1^qf 2 0^qg 1^qs 2 1 5 3)))<|rt 37 (qb 2 3^qR 2 0 3^qt 4 3 0^qt 5 3 2^qz 6 0) .ret
def F474:F:=mF 2 [.cell 4 (some 3),.cell 5 (some 3),.t 6] none c474
def l475_0:C:=em (lq 12 (qm 6^qm 3^ge^qQ .lss 0) 15 0<|sq (bk 1 (r1 18 (qm 5^qm 3^qm 6^qm 3^ge^qm 6^qk .add 64^q1 (.mm false (.l 4) (.l 6))^q1 (.sl true 0 (.l 1) (some (.l 2)) (some (.l 7)))^q1 (.mks 1 1 [.str []] [(0,.l 8)])^q1 (.app 5 1 (.l 0) (.l 9))^qv 5)))<|r1 16 (qm 6^qk .add 64^qv 6))
def c475:C:=rs 0 (qB 1 0^qS 2 1)<|rs 8 (qb 1 17^qc 500^q2 7 (.mov (.l 1))^qx 0^qy 1^qw 3^qD 4^q1 (.mov (.l 4)))<|rs 5 (q3 (.mko 1))<|sq (rs 0 (qz 6 0)<|bk 0 l475_0)<|rs 29 (qm 5^qv 2) .ret
def F475:F:=mF 1 [.t 2] none c475
def c476:C:=rs 0 (qF 4)<|rs 5 (qm 0^qm 1^qd 501^qk .geq 0^qv 4) .ret
def F476:F:=mF 2 [.t 4] none c476
def c477:C:=rs 0 (qB 1 0^qF 2)<|rs 3 (qr 1 4^qk .eql 2^qv 2) .ret
def F477:F:=mF 1 [.t 2] none c477
def c478:C:=rs 0 (qG 2 z_10^qz 3 0)<|rs 6 (qm 0^q1 (.build z_14 [(0,1,.l 0)])^q1 (.box (.l 1))^qv 4)<|rs 9 (qm 4^q1 (.rcall 467 [.l 0] 0 8 20000)^qG 5 z_10^qs 5 17 2 1)<|i1 11 (qm 4^q1 (.nilc (.l 0))^qg 1^ql 8^yo^qm 4^q1 (.nilc (.l 5))^qg 0^ql 8^q1 (.bin .neq (.l 8) (.c (.str [])))^zo 4^yo^qb 5 17^qc 244^qn^zO 11) 26 (rs 27 (q1 (.build z_10 [])^qt 2 17 0^qz 3 3) .ret)<|rs 28 (qb 5 17^qt 2 17 0^qz 3 0) .ret
def F478:F:=mF 1 [.cell 2 (some 17),.t 3] none c478
def c479:C:=rs 0 (qF 2)<|rs 3 (qm 0^qk .geq 0^ya^qm 0^qk .leq 1099511627776^za 2^qv 2) .ret
def F479:F:=mF 1 [.t 2] none c479
def l480_0:C:=em (lq 7 (qm 3^ge^qK .gtr 64) 9 0<|bk 1 (rs 10 (qm 4^qm 3^q1 (.sl true 0 (.l 1) none (some (ci 64)))^q1 (.mks 1 1 [.str []] [(0,.l 2)])^q1 (.app 4 1 (.l 0) (.l 3))^qv 4)<|r1 15 (qm 3^q1 (.sl true 0 (.l 0) (some (ci 64)) none)^qv 3)))
def c480:C:=rs 0 (qB 1 0^qS 2 1)<|rs 5 (qb 1 17^qc 461^qv 3)<|rs 4 (q3 (.mko 1))<|sq (bk 0 l480_0)<|rs 17 (qm 4^qm 3^q1 (.mks 1 1 [.str []] [(0,.l 1)])^q1 (.app 4 1 (.l 0) (.l 2))^qv 2) .ret
def F480:F:=mF 1 [.t 2] none c480
def c481:C:=rs 0 (qG 2 z_10^qF 3)<|rs 6 (qm 0^q1 (.build z_14 [(0,1,.l 0)])^q1 (.box (.l 1))^qv 4)<|rs 9 (qm 4^q1 (.rcall 436 [.l 0] 0 8 20000)^qG 5 z_10^qs 5 17 2 1)<|i1 11 (qm 4^q1 (.nilc (.l 0))^qg 1^ql 8^yo^qb 5 17^qc 245^qn^zo 4^yo^qb 5 17^qc 461^qm 0^qq .neq 11^zO 9) 25 (rs 26 (q1 (.build z_10 [])^qt 2 17 0^qF 3) .ret)<|rs 27 (qb 5 17^qt 2 17 0^qT 3) .ret
def F481:F:=mF 1 [.cell 2 (some 17),.t 3] none c481
def l483_0:C:=em (rs 12 (q3 (.bin .lss (.g 11) (.g 10)))<|sq (cd 12 .skip<|.exit 0)<|sq (bk 1 (rs 13 (q1 (.iad 1 (.g 9) (.g 11))^qj^qv 6)<|rs 16 (qm 6^qc 456^q2 15 (.mov (.l 1))^qx 0^qy 1^qw 7^qw 8)<|i1 20 (qm 8^qK .neq 0) 21 (rs 22 (qm 8^qE 2^qw 3) .ret)<|r1 23 (qm 4^qm 7^q1 (.app 4 1 (.l 0) (.l 1))^qv 4)))<|r1 26 (q1 (.bin .add (.g 11) (ci 1))^qv 11))
def c483:C:=rs 0 (qE 2^qz 3 0)<|rs 4 (q3 (.mko 1))<|sq (rs 9 (q3 (.mov (.g 0))^qH false^q3 (.mov (ci 0)))<|bk 0 l483_0)<|rs 27 (qm 4^q1 (.b2s (.l 0))^qv 2^qz 3 0) .ret
def F483:F:=mF 1 [.t 2,.t 3] none c483
def c484:C:=rs 0 (qE 2)<|rs 6 (qm 0^ge^qc 456^q2 5 (.mov (.l 2))^qx 0^qy 1^qw 3^qD 4^q1 (.mov (.l 5)))<|rs 11 (qm 3^qm 0^qq .add 0^qv 2) .ret
def F484:F:=mF 1 [.t 2] none c484
def c485:C:=rs 0 (qE 2)<|i1 3 (q3 (.mov (.g 0))) 3 (rs 2 (q3 (.mov (.c (.str [1])))) .ret)<|rs 2 (q3 (.mov (.c (.str [0])))) .ret
def F485:F:=mF 1 [.t 2] none c485
def c486:C:=rs 0 (qB 1 0^qE 2)<|rs 10 (qr 1 0^qc 487^q2 9 (.mov (.l 2))^qx 0^qy 1^qw 3^qD 4^q1 (.mov (.l 5)))<|rs 16 (qr 1 1^qc 487^q2 15 (.mov (.l 2))^qx 0^qy 1^qw 5^qD 6^q1 (.mov (.l 5)))<|rs 22 (qr 1 2^qc 487^q2 21 (.mov (.l 2))^qx 0^qy 1^qw 7^qD 8^q1 (.mov (.l 5)))<|rs 27 (qm 3^qm 5^qq .add 0^qm 7^qq .add 2^qv 2) .ret
def F486:F:=mF 1 [.t 2] none c486
def l487_0:C:=em (lq 12 (qm 6^qm 4^eq^qQ .lss 0) 15 0<|sq (bk 1 (rs 18 (qm 4^qm 6^qi 1^qj^qv 7)<|i1 22 (qm 6^qm 4^eq^qk .sub 1^qQ .lss 0) 26 (r1 27 (qm 7^qk .add 128^qv 7))<|r1 29 (qm 5^qm 7^q1 (.conv (.int .u8) (.l 1))^q1 (.mks 1 1 [.int .u8 0] [(0,.l 2)])^q1 (.b2s (.l 3))^qq .add 0^qv 5)))<|r1 16 (qm 6^qk .add 1^qv 6))
def c487:C:=rs 0 (qE 2^qz 3 0)<|i1 8 (qm 0^qK .lss 0) 9 (rs 0 (qE 2^qz 3 1) .ret)<|rs 10 (qm 0^qc 502^qv 4)<|rs 0 (qE 5)<|sq (rs 0 (qz 6 0)<|bk 0 l487_0)<|rs 35 (qm 5^qv 2^qz 3 0) .ret
def F487:F:=mF 1 [.t 2,.t 3] none c487
def c488:C:=rs 0 (qE 2)<|rs 3 (qm 0^qc 503^qv 2) .ret
def F488:F:=mF 1 [.t 2] none c488
def c489:C:=rs 0 (qE 2)<|rs 3 (qm 0^qc 504^qv 2) .ret
def F489:F:=mF 1 [.t 2] none c489
def l490_0:C:=em (rs 12 (q3 (.bin .lss (.g 11) (ci 3)))<|sq (cd 12 .skip<|.exit 0)<|sq (bk 1 (rs 13 (qm 11^qv 6)<|rs 15 (qm 0^qc 491^q2 14 (.mov (.l 1))^qx 0^qy 1^qY 2 2^qV 7 3^qV 8 4^qV 9 5)<|i1 20 (qm 9^qK .neq 0) 21 (rs 22 (q1 (.build z_3 [])^qm 9^qt 2 3 0^qE 3^qV 4 1) .ret)<|r1 24 (qm 6^qm 7^qm 8^q1 (.iada 1 3 (.g 5) (.l 0))^qs 5 1 3 1^qV 0 2)))<|r1 28 (q1 (.bin .add (.g 11) (ci 1))^qv 11))
def c490:C:=rs 0 (qG 2 z_3^qE 3^qz 4 0)<|rs 0 (qG 5 z_3)<|sq (rs 0 (qz 11 0)<|bk 0 l490_0)<|rs 29 (q1 (.iada 1 3 (.g 5) (ci 0))^ql 5^q1 (.iada 1 3 (.g 5) (ci 1))^ql 5^q1 (.iada 1 3 (.g 5) (ci 2))^ql 5^q1 (.build z_3 [(0,1,.l 1),(1,1,.l 3),(2,1,.l 5)])^qG 10 z_3^qs 10 3 7 6)<|i1 36 (qb 10 3^qc 28^qN) 38 (rs 39 (q1 (.build z_3 [])^qt 2 3 0^qE 3^qz 4 3) .ret)<|rs 40 (qb 10 3^qm 0^qt 2 3 0^qw 3^qz 4 0) .ret
def F490:F:=mF 1 [.cell 2 (some 3),.t 3,.t 4] none c490
def l491_0:C:=em (rs 11 (q3 (.bin .lss (.g 10) (.g 9)))<|sq (cd 11 .skip<|.exit 0)<|sq (bk 1 (rs 12 (qm 10^qv 6)<|rs 13 (qm 0^qm 6^q1 (.idx (.l 0) (.l 1))^q1 (.bin .and (.l 2) (.c (.int .u8 127)))^q1 (.conv (.int .i64) (.l 3))^qv 7)<|bk 2 (rs 29 (qm 6^qk .gtr 8^ya^qm 0^qm 6^q1 (.idx (.l 3) (.l 4))^q1 (.bin .geq (.l 5) (.c (.int .u8 128)))^yo^qm 7^qk .gtr 0^y1 2^qo 7^za 2^qv 28)<|cd 28 (rs 41 (qm 0^qc 505^qz 2 0^qE 3^qV 4 1) .ret)<|rs 44 (qm 0^qm 6^q1 (.idx (.l 0) (.l 1))^q1 (.bin .geq (.l 2) (.c (.int .u8 128)))^qv 43)<|cd 43 (r1 48 (qm 5^qm 7^qm 6^q1 (.bin .mul (ci 7) (.l 2))^q1 (.sh .shl (.l 1) (.l 3))^qq .or 0^qv 5))<|rs 55 (qm 7^qk .eql 0^ya^qm 6^qk .gtr 0^za 2^qv 54)<|cd 54 (rs 0 (qz 2 0^qE 3^qz 4 3) .ret)<|rt 18 (qm 5^qm 7^qm 6^q1 (.bin .mul (ci 7) (.l 2))^q1 (.sh .shl (.l 1) (.l 3))^qq .or 0^qm 0^qm 6^qk .add 1^q1 (.sl true 0 (.l 6) (some (.l 8)) none)^qV 2 5^qw 3^qz 4 0) .ret)))<|r1 61 (q1 (.bin .add (.g 10) (ci 1))^qv 10))
def c491:C:=rs 0 (qz 2 0^qE 3^qz 4 0)<|rs 0 (qz 5 0)<|sq (rs 8 (qm 0^qH true^q3 (.mov (ci 0)))<|bk 0 l491_0)<|rs 0 (qz 2 0^qE 3^qz 4 2) .ret
def F491:F:=mF 1 [.t 2,.t 3,.t 4] none c491
def c492:C:=rs 0 (qE 2)<|rs 7 (qm 0^q1 (.nilc (.l 0))^qg 0^ql 0^qc 506^q2 6 (.mov (.l 4))^qx 0^qy 1^qY 5 2^qV 3 6^qV 4 7^qV 5 8)<|i1 15 (qm 0^q1 (.nilc (.l 0))^qg 1^ql 0^yo^qm 5^qk .neq 0^zO 4) 22 (rs 23 (qm 0^q1 (.nilc (.l 0))^qg 1^q5 (.store (.v 0) 1 (.l 2) (cb true)))<|rs 0 (qE 2) .ret)<|rs 26 (qm 0^qm 4^q1 (.nilc (.l 0))^qg 0^qs 0 1 3 1)<|rs 30 (qm 3^qv 2) .ret
def F492:F:=mF 1 [.t 2] none c492
def c493:C:=rs 0 (qF 2)<|rs 7 (qm 0^q1 (.nilc (.l 0))^qg 0^ql 0^qc 507^q2 6 (.mov (.l 4))^qx 0^qy 1^qY 5 2^qV 3 6^qV 4 7^qV 5 8)<|i1 15 (qm 0^q1 (.nilc (.l 0))^qg 1^ql 0^yo^qm 5^qk .neq 0^zO 4) 22 (rs 23 (qm 0^q1 (.nilc (.l 0))^qg 1^q5 (.store (.v 0) 1 (.l 2) (cb true)))<|rs 0 (qF 2) .ret)<|rs 26 (qm 0^qm 4^q1 (.nilc (.l 0))^qg 0^qs 0 1 3 1)<|rs 30 (qm 3^qv 2) .ret
def F493:F:=mF 1 [.t 2] none c493
def c494:C:=rs 0 (qE 2^qE 3^qz 4 0)<|rs 9 (qm 0^qc 470^q2 8 (.mov (.l 1))^qx 0^qy 1^qY 2 2^qV 5 3^qV 6 4^qV 7 5)<|i1 14 (qm 7^qK .neq 0) 15 (rs 16 (qm 7^qE 2^qE 3^qV 4 0) .ret)<|i1 17 (qm 5^qm 6^ge^qQ .gtr 0) 20 (rs 0 (qE 2^qE 3^qz 4 2) .ret)<|rt 21 (qm 6^qm 5^q1 (.sl true 0 (.l 0) none (some (.l 1)))^qm 6^qm 5^q1 (.sl true 0 (.l 3) (some (.l 4)) none)^qV 2 2^qw 3^qz 4 0) .ret
def F494:F:=mF 1 [.t 2,.t 3,.t 4] none c494
def c495:C:=rs 0 (qF 2^qE 3^qz 4 0)<|i1 5 (qm 0^ge^qK .eql 0) 7 (rs 0 (qF 2^qE 3^qz 4 2) .ret)<|i1 8 (qm 0^q1 (.idx (.l 0) (ci 0))^q3 (.bin .gtr (.l 1) (.c (.int .u8 1)))) 10 (rs 0 (qF 2^qE 3^qz 4 3) .ret)<|rt 11 (qm 0^q1 (.idx (.l 0) (ci 0))^q1 (.bin .eql (.l 1) (.c (.int .u8 1)))^qm 0^q1 (.sl true 0 (.l 3) (some (ci 1)) none)^qV 2 2^qw 3^qz 4 0) .ret
def F495:F:=mF 1 [.t 2,.t 3,.t 4] none c495
def c496:C:=rs 0 (qB 2 0^qF 3)<|rs 4 (qr 2 0^qf 1 0^qj^qq .geq 1^qv 3) .ret
def F496:F:=mF 2 [.t 3] none c496
def c499:C:=rs 0 (qB 2 0^qF 4)<|rs 5 (qR 2 0 3^qc 28^ya^qm 1^qk .geq 0^za 3^ya^qm 1^qk .leq 1099511627776^za 7^qv 4) .ret
def F499:F:=mF 2 [.t 4] none c499
def c500:C:=rs 0 (qB 1 0^qE 2^qz 3 0)<|i1 5 (qb 1 17^qc 244^qN) 7 (rs 0 (qE 2^qz 3 1) .ret)<|rs 4 (q3 (.allo [.nslice 1] 10400))<|rs 8 (qb 1 17^q1 (.rcall 423 [.g 4,.l 0] 0 4 20000))<|rs 10 (qr 4 0^q1 (.b2s (.l 1))^qv 2^qz 3 0) .ret
def F500:F:=mF 1 [.t 2,.t 3] none c500
def l501_0:C:=em (rs 9 (q3 (.bin .lss (.g 8) (.g 7)))<|sq (cd 9 .skip<|.exit 0)<|sq (bk 1 (rs 10 (qm 8^qv 5)<|rs 11 (qm 1^qm 0^qm 5^qi 17^qJ 17^q3 (.call (.v (.l 0)) .no none [.l 4]))<|cd 16 (rs 17 (qm 5^qv 4) .ret) .skip))<|r1 18 (q1 (.bin .add (.g 8) (ci 1))^qv 8))
def c501:C:=rs 0 (qz 4 0)<|sq (rs 6 (qm 0^qH false^q3 (.mov (ci 0)))<|bk 0 l501_0)<|rs 0 (qz 4 (-1)) .ret
def F501:F:=mF 2 [.t 4] none c501
def l502_0:C:=em (lq 9 (qm 0^qK .gtr 0) 10 0<|bk 1 (rs 11 (qm 3^qm 0^qk .rem 128^q1 (.mks 1 1 [.int .i64 0] [(0,.l 2)])^q1 (.app 6 1 (.l 0) (.l 3))^qv 3)<|r1 16 (qm 0^qk .quo 128^qv 0)))
def c502:C:=rs 0 (qS 2 1)<|rs 4 (qm 0^qk .rem 128^q1 (.mkb 1 1 [.int .i64 0] [(0,.l 1)])^qv 3)<|rs 7 (qm 0^qk .quo 128^qv 0)<|sq (bk 0 l502_0)<|rs 18 (qm 3^qv 2) .ret
def F502:F:=mF 1 [.t 2] none c502
def c503:C:=rs 0 (qE 2)<|rs 6 (qm 0^ge^qc 487^q2 5 (.mov (.l 2))^qx 0^qy 1^qw 3^qD 4^q1 (.mov (.l 5)))<|rs 11 (qm 3^qm 0^qq .add 0^qv 2) .ret
def F503:F:=mF 1 [.t 2] none c503
def c504:C:=rs 0 (qE 2)<|i1 3 (q3 (.mov (.g 0))) 3 (rs 4 (q1 (.mks 1 1 [.int .u8 0] [(0,.c (.int .u8 1))])^q1 (.b2s (.l 0))^qv 2) .ret)<|rs 6 (q1 (.mks 1 1 [.int .u8 0] [(0,.c (.int .u8 0))])^q1 (.b2s (.l 0))^qv 2) .ret
def F504:F:=mF 1 [.t 2] none c504
def l505_0:C:=em (rs 7 (q3 (.bin .lss (.g 6) (.g 5)))<|sq (cd 7 .skip<|.exit 0)<|sq (bk 1 (rs 8 (qm 6^qv 3)<|rs 9 (qm 0^qm 3^q1 (.idx (.l 0) (.l 1))^q3 (.bin .lss (.l 2) (.c (.int .u8 128))))<|cd 12 (rs 0 (qz 2 3) .ret) .skip))<|r1 13 (q1 (.bin .add (.g 6) (ci 1))^qv 6))
def c505:C:=rs 0 (qz 2 0)<|sq (rs 4 (qm 0^qH true^q3 (.mov (ci 0)))<|bk 0 l505_0)<|rs 0 (qz 2 2) .ret
def F505:F:=mF 1 [.t 2] none c505
def c506:C:=rs 0 (qE 2^qE 3^qz 4 0)<|rs 9 (qm 0^qc 491^q2 8 (.mov (.l 1))^qx 0^qy 1^qY 2 2^qV 5 3^qV 6 4^qV 7 5)<|i1 14 (qm 7^qK .neq 0) 15 (rs 16 (qm 7^qE 2^qE 3^qV 4 0) .ret)<|i1 17 (qm 6^ge^qm 5^qQ .lss 1) 20 (rs 0 (qE 2^qE 3^qz 4 2) .ret)<|rt 21 (qm 6^qm 5^q1 (.sl true 0 (.l 0) none (some (.l 1)))^qm 6^qm 5^q1 (.sl true 0 (.l 3) (some (.l 4)) none)^qV 2 2^qw 3^qz 4 0) .ret
def F506:F:=mF 1 [.t 2,.t 3,.t 4] none c506
def c507:C:=rs 0 (qF 2^qE 3^qz 4 0)<|sq (bk 0 (rs 6 (qm 0^q1 (.bin .eql (.l 0) (.c (.str [])))^qv 5)<|cd 5 (rs 0 (qF 2^qE 3^qz 4 2) .ret)<|rs 9 (qm 0^q1 (.idx (.l 0) (ci 0))^q1 (.bin .gtr (.l 1) (.c (.int .u8 1)))^qv 8)<|cd 8 (rs 0 (qF 2^qE 3^qz 4 3) .ret) .skip))<|rt 12 (qm 0^q1 (.idx (.l 0) (ci 0))^q1 (.bin .eql (.l 1) (.c (.int .u8 1)))^qm 0^q1 (.sl true 0 (.l 3) (some (ci 1)) none)^qV 2 2^qw 3^qz 4 0) .ret
def F507:F:=mF 1 [.t 2,.t 3,.t 4] none c507
attribute [go_sem] c412 F412 c395 F395 c397 F397 c398 F398 c399 F399 c400 F400 c401 F401 c404 F404 r405_17 r405_18 c405 F405 c406 F406 c407 F407 c408 F408 c409 F409 c411 F411 c413 F413 c414 F414 c415 F415 c420 F420 c421 F421 c422 F422 c423 F423 c424 F424 c425 F425 c426 F426 c427 F427 c428 F428 c429 F429 c430 F430 c431 F431 c432 F432 c433 F433 c434 F434 c435 F435 c436 F436 c437 F437 c438 F438 c439 F439 c440 F440 c441 F441 c442 F442 c443 F443 c444 F444 c445 F445 r446_0 r446_1 r446_2 r446_3 r446_4 r446_5 r446_6 r446_7 r446_8 r446_9 r446_10 r446_11 c446 F446 c447 F447 c448 F448 c449 F449 c450 F450 c451 F451 c452 F452 c455 F455 c456 F456 c457 F457 c458 F458 c459 F459 c460 F460 c461 F461 c462 F462 c463 F463 c464 F464 c465 F465 c466 F466 c467 F467 c468 F468 c469 F469 c470 F470 c471 F471 c472 F472 c473 F473 c474 F474 c475 F475 c476 F476 c477 F477 c478 F478 c479 F479 c480 F480 c481 F481 c483 F483 c484 F484 c485 F485 c486 F486 c487 F487 c488 F488 c489 F489 c490 F490 c491 F491 c492 F492 c493 F493 c494 F494 c495 F495 c496 F496 c499 F499 c500 F500 c501 F501 c502 F502 c503 F503 c504 F504 c505 F505 c506 F506 c507 F507
end Sg
namespace Sg
open _root_.Go _root_.Go.RowKit _root_.Go.Proofs _root_.Go.Shelf
def renU:Shelf.Ren:=⟨fun|197=>275|260=>300|n=>n,fun|0=>0|3=>3|4=>4|5=>5|9=>9|21=>21|46=>317|105=>319|119=>346|138=>348|139=>349|n=>n,fun|3=>0|4=>1|n=>n⟩
set_option maxRecDepth 1000000 in
theorem lays197:Lays.n197 Tryz.prog renU where
 mixed:=by kernel_rfl
 f197:=Tryz.func275.trans (congrArg some (by kernel_rfl))
 f260:=Tryz.func300.trans (congrArg some (by kernel_rfl))
 t0:=Tryz.underlying0
 a0:=Tryz.isAgg0
 z0:=Tryz.sizeOf0
 v0:=Tryz.zeroValue0
 t3:=Tryz.underlying3
 a3:=Tryz.isAgg3
 z3:=Tryz.sizeOf3
 v3:=Tryz.zeroValue3
 t4:=Tryz.underlying4
 a4:=Tryz.isAgg4
 z4:=Tryz.sizeOf4
 v4:=Tryz.zeroValue4
 t5:=Tryz.underlying5
 a5:=Tryz.isAgg5
 z5:=Tryz.sizeOf5
 v5:=Tryz.zeroValue5
 t9:=Tryz.underlying9
 a9:=Tryz.isAgg9
 z9:=Tryz.sizeOf9
 v9:=Tryz.zeroValue9
 t21:=Tryz.underlying21
 a21:=Tryz.isAgg21
 z21:=Tryz.sizeOf21
 v21:=Tryz.zeroValue21
 t46:=Tryz.underlying317
 a46:=Tryz.isAgg317
 z46:=Tryz.sizeOf317
 v46:=Tryz.zeroValue317
 t105:=Tryz.underlying319
 a105:=Tryz.isAgg319
 z105:=Tryz.sizeOf319
 v105:=Tryz.zeroValue319
 t119:=Tryz.underlying346
 a119:=Tryz.isAgg346
 z119:=Tryz.sizeOf346
 t138:=Tryz.underlying348
 a138:=Tryz.isAgg348
 z138:=Tryz.sizeOf348
 v138:=Tryz.zeroValue348
 t139:=Tryz.underlying349
 a139:=Tryz.isAgg349
 z139:=Tryz.sizeOf349
 v139:=Tryz.zeroValue349
 g3:=by kernel_rfl
 g4:=by kernel_rfl
def dec_walk (s:ByteArray) (w:World) (hT:Lib.Utf8Tabs 0 1 w) :
  Calls Tryz.prog 275 #[.string s] w fun e w'=>e=.returned (.tuple #[.int .i32 (Lib.decodeGo s).1,.int .i64 (Lib.decodeGo s).2])/\Below w.heap.size w w':=
 Any.utf8_DecodeRuneInString lays197 s w hT
def tabs_st (w w':World) (h:Lib.Utf8Tabs 0 1 w) (hb:∀b,b<2->w'.heap[b]?=w.heap[b]?):Lib.Utf8Tabs 0 1 w':=by
 have e:∀b o,b<2->w'.cell? ⟨b,o,none⟩=w.cell? ⟨b,o,none⟩:=fun b o hlt=>by
  simp only[World.cell?,hb b hlt]
 exact⟨fun c hc=>by rw[e _ _ (by decide)];exact h.1 c hc,fun i hi=>by rw[e _ _ (by decide),e _ _ (by decide)];exact h.2 i hi⟩
def cxU (l:List (Nat×Nat)):Cx where
 fm:=fun n=>(look l n).getD 0
 tm:=fun n=>n
 gn:=2
 G:=Lib.Utf8Tabs 0 1
 Gst:=tabs_st
set_option maxRecDepth 1000000 in
theorem key_walk (s:ByteArray) (w:World) (hgn:2<=w.heap.size) (hT:Lib.Utf8Tabs 0 1 w)
  (hplain:∀(r n:Int) (w:World),2<=w.heap.size->Lib.Utf8Tabs 0 1 w->Calls Tryz.prog 276 #[.int .i32 r,.int .i64 n] w fun e w'=>e=.returned (.bool (cM r n))/\Below w.heap.size w w') :
  Calls Tryz.prog 236 #[.string s] w fun e w'=>e=.returned (.bool (aS s.data.toList))/\Below w.heap.size w w':=by
 have t0:=Tryz.underlying0;have t3:=Tryz.underlying3;have t4:=Tryz.underlying4;have t9:=Tryz.underlying9;have t21:=Tryz.underlying21
 have hu0:=run_underlying t0;have hu3:=run_underlying t3;have hu4:=run_underlying t4;have hu9:=run_underlying t9;have hu21:=run_underlying t21
 have mixed:Tryz.prog.follows .mixedOrders=true:=by kernel_rfl
 have a0:=Tryz.isAgg0;have z0:=Tryz.sizeOf0;have v0:=Tryz.zeroValue0
 have a3:=Tryz.isAgg3;have z3:=Tryz.sizeOf3;have v3:=Tryz.zeroValue3
 have a4:=Tryz.isAgg4;have z4:=Tryz.sizeOf4;have v4:=Tryz.zeroValue4
 have a9:=Tryz.isAgg9;have z9:=Tryz.sizeOf9;have v9:=Tryz.zeroValue9
 have a21:=Tryz.isAgg21;have z21:=Tryz.sizeOf21;have v21:=Tryz.zeroValue21
 go_enter Tryz.func236,Tryz.ntmps236
 go_wp2
 go_loopw [3] (fun _ wr=>∃(pos fuel:Nat),wr.heap[w.heap.size]?=some (.stringIter s pos)/\Below w.heap.size w wr/\bK fuel (s.data.toList.drop pos)=bK s.size s.data.toList/\s.size<=pos+fuel) (fun _ wr=>s.size-wr.iterPos w.heap.size)
 case atStart=>
  refine⟨0,s.size,?_,(Below.refl _ w).alloc (Nat.le_refl _) _,by simp,by omega⟩
  have:=World.iter_heap w s 0
  simpa using this
 case round=>
  have⟨pos,fuel,hit,hbw,hacc,hfu⟩:=hrel
  have hsz:w.heap.size<wr.heap.size:=(Array.getElem?_eq_some_iff.1 hit).1
  have hbT:∀W:World,Below w.heap.size w W->Lib.Utf8Tabs 0 1 W:=fun W h=>tabs_st w W hT fun b hb=>h.block b (by omega)
  by_cases hp:pos<s.size
  ·have hnx:∀ty,(Instr.next (.pointer (some ⟨w.heap.size,0,none⟩)) true ty).run Tryz.prog wr=_:=fun ty=>Lib.run_next_any_at wr w.heap.size s pos ty hit hp
   have hbw2:=Lib.below_iterAt hbw (k:=w.heap.size) (by omega) s (pos+(Utf8.decode s pos).2)
   have hit2:=Lib.iterAt_heap wr w.heap.size s pos (pos+(Utf8.decode s pos).2) hit
   have hsz2:w.heap.size+1<=(wr.iterAt w.heap.size s (pos+(Utf8.decode s pos).2)).heap.size:=by rw[Lib.iterAt_size];omega
   have hde:∀n,n=s.size->Lib.decodeGo (s.extract pos n)=Utf8.decode s pos:=fun n hn=>iA s pos n hn hp
   have hw1:=nf s pos
   obtain⟨f,rfl⟩:∃f,fuel=f+1:=⟨fuel-1,by omega⟩
   have hnil:s.data.toList.drop pos≠[]:=fun e=>by
    exact ti s pos hp e
   have hdN:=eL s pos
   simp only[bK,hnil,if_false,<-hdN] at hacc
   generalize Utf8.decode s pos=D at *
   clear hdN hnil
   have⟨D1,D2⟩:=D
   simp only at hw1 hacc hbw2 hit2 hsz2 hde hnx
   have hsl:=gh s
   have hfin:∀W:World,cM D1 D2=false->aS s.data.toList=false:=fun W hpl=>by
    rw[hpl,Bool.false_and] at hacc;rw[aS,hsl,<-hacc,Bool.false_and]
   clear hsl
   go_wp2_with (go_at_call 275;refine (dec_walk _ _ (hbT _ hbw2)).mono ?_;rintro e W1 ⟨rfl,b1⟩)
   have hb3:=hbw2.trans (b1.mono (by omega))
   have hs3:W1.heap.size>=w.heap.size+1:=Nat.le_trans hsz2 b1.size
   have hit3:W1.heap[w.heap.size]?=some (.stringIter s (pos+D2)):=(b1.block _ (by omega)).trans hit2
   have hpl:=hplain D1 D2 W1 (by omega) (hbT _ hb3)
   cases hP:cM D1 D2 with
   |false=>
    rw[hP] at hpl
    have hke:=hfin w hP
    clear hacc hfin
    go_wp2_with (go_at_call 276;refine hpl.mono ?_;rintro e W2 ⟨rfl,b2⟩)
    have hb4:=hb3.trans (b2.mono (by omega))
    go_wp2
    go_ret
    rw[hke]
    exact⟨rfl,hb4⟩
   |true=>
    rw[hP,Bool.true_and,List.drop_drop] at hacc
    rw[hP] at hpl
    clear hfin
    obtain⟨kk,hkk⟩:∃kk,kk=bK s.size s.data.toList:=⟨_,rfl⟩
    go_wp2_with (go_at_call 276;refine hpl.mono ?_;rintro e W2 ⟨rfl,b2⟩)
    have hb4:=hb3.trans (b2.mono (by omega))
    have hit4:W2.heap[w.heap.size]?=some (.stringIter s (pos+D2)):=(b2.block _ (by omega)).trans hit3
    go_wp2
    go_roundw
    case rel=>exact⟨pos+D2,f,hit4,hb4,hacc,by omega⟩
    case measure=>
     simp only[World.iterPos,hit4,hit]
     omega
  ·have hnx:∀ty,(Instr.next (.pointer (some ⟨w.heap.size,0,none⟩)) true ty).run Tryz.prog wr=_:=fun ty=>Lib.run_next_end_at wr w.heap.size s pos ty hit hp
   have hall:bK s.size s.data.toList=true:=by
    rw[<-hacc,List.drop_eq_nil_of_le (by rw[gh];omega)];cases fuel<;>simp[bK]
   have hkey:aS s.data.toList=(decide ((1:Int)<=s.size)&&decide ((s.size:Int)<=16)):=by
    rw[aS,gh,hall,Bool.true_and]
    congr 1<;>exact decide_eq_decide.2 (by omega)
   clear hacc hall
   by_cases h1:(1:Int)<=s.size
   ·rw[decide_eq_true h1,Bool.true_and] at hkey
    go_wp2
    go_ret
    exact⟨by first|rfl|(rw[hkey];rfl),hbw⟩
   ·rw[decide_eq_false h1,Bool.false_and] at hkey
    go_wp2
    go_ret
    exact⟨by first|rfl|(rw[hkey];rfl),hbw⟩
end Sg
namespace Sg
open Go.Proofs
open _root_.Go
def noQ:Eq->Option V:=fun _=>none
def storeFm:List (Nat×Nat):=[(412,3),(398,4),(404,5),(339,6),(400,7),(413,8),(405,9),(414,10),(399,11),(415,12),(360,13),(395,14),(420,15),(407,16),(406,17),(408,18),(341,19),(437,20),(438,21),(427,22),(40,23),(439,24),(41,25),(428,26),(440,27),(441,28),(15,29),(261,31),(442,30),(443,32),(444,33),(425,34),(37,35),(426,36),(445,37),(24,38),(45,39),(409,40),(446,41),(55,42),(447,43),(433,44),(38,45),(448,46),(449,47),(241,48),(450,49),(451,50),(6,51),(263,52),(242,53),(452,54),(372,55),(397,57),(401,56),(345,59),(43,58),(51,61),(429,60),(368,62),(39,63),(430,64),(431,66),(432,65),(366,68),(67,67),(367,69),(28,70),(57,71),(473,72),(54,73),(462,75),(463,74),(68,76),(464,77),(465,78),(466,79),(467,80),(249,81),(474,82),(240,83),(247,84),(475,85),(26,87),(27,86),(21,89),(47,88),(476,90),(477,91),(262,92),(256,93),(258,94),(265,95),(478,96),(253,97),(266,98),(267,99),(270,100),(271,101),(273,102),(275,103),(411,104),(60,105),(61,106),(62,107),(42,108),(70,109),(58,110),(52,111),(479,112),(246,113),(292,114),(293,115),(294,116),(295,117),(248,118),(169,119),(223,121),(11,120),(296,122),(99,123),(85,124),(201,125),(89,126),(297,127),(424,129),(48,128),(480,130),(218,131),(306,132),(250,133),(257,134),(259,135),(269,136),(481,137),(254,138),(274,139),(276,140),(101,141),(153,142),(421,143),(422,144),(423,145),(72,147),(63,148),(64,149),(65,150),(66,151),(468,152),(76,153),(32,154),(74,155),(71,156),(496,157),(73,160),(490,161),(491,162),(492,163),(493,164),(244,165),(301,166),(284,167),(499,168),(285,169),(286,170),(287,171),(171,172),(288,173),(289,174),(290,175),(291,176),(500,177),(31,178),(501,179),(217,181),(304,182),(303,183),(302,184),(308,185),(178,186),(309,187),(211,188),(311,189),(213,190),(91,191),(434,192),(435,193),(436,194),(245,195),(300,196),(168,197),(187,198),(4,199),(13,200),(207,201),(204,202),(5,203),(80,204),(104,205),(459,206),(460,207),(461,208),(18,209),(202,210),(86,211),(305,212),(183,213),(310,214),(212,215),(184,216),(214,217),(92,218),(455,219),(456,220),(457,221),(458,222),(75,223),(505,226),(506,227),(507,228),(186,229),(203,230),(81,231),(298,233),(299,232),(316,234),(313,235),(314,237),(192,238),(82,239),(84,240),(200,241),(88,242),(312,243),(206,244),(17,245),(220,248),(221,249),(469,250),(470,251),(471,252),(472,253),(167,254),(142,255),(188,256),(189,257),(195,258),(224,259),(95,260),(96,261),(486,262),(487,263),(488,264),(489,265),(8,266),(483,267),(484,268),(485,269),(7,271),(97,272),(98,273),(315,274),(191,276),(319,277),(320,278),(100,279),(3,280),(10,284),(12,285),(25,286),(225,290),(226,291),(494,293),(495,294),(502,295),(503,296),(504,297),(22,299),(105,302),(106,301),(29,307),(30,308),(69,146),(497,158),(498,159),(307,180),(170,236),(317,246),(318,247),(190,275),(222,281),(102,282),(103,283),(23,287),(227,292)]
def storeT0:List (Nat×Fn):=[(412,.code F412),(398,.code F398),(404,.code F404),(339,.code F339),(400,.code F400),(413,.code F413),(405,.code F405),(414,.code F414),(399,.code F399),(415,.code F415),(360,.code F360),(395,.code F395)]
def storeT1:List (Nat×Fn):=[(420,.code F420),(407,.code F407),(406,.code F406),(408,.code F408),(341,.code F341),(437,.code F437),(438,.code F438),(427,.code F427),(40,.code F40),(439,.code F439),(41,.code F41),(428,.code F428)]
def storeT2:List (Nat×Fn):=[(440,.code F440),(441,.code F441),(15,.code F15),(261,.code F261),(442,.code F442),(443,.code F443),(444,.code F444),(425,.code F425),(37,.code F37),(426,.code F426),(445,.code F445),(24,.code F24)]
def storeT3:List (Nat×Fn):=[(45,.code F45),(409,.code F409),(446,.code F446),(55,.code F55),(447,.code F447),(433,.code F433),(38,.code F38),(448,.code F448),(449,.code F449),(241,.code F241),(450,.code F450),(451,.code F451)]
def storeT4:List (Nat×Fn):=[(6,.code F6),(263,.code F263),(242,.code F242),(452,.code F452),(372,.code F372),(397,.code F397),(401,.code F401),(345,.code F345),(43,.code F43),(51,.code F51),(429,.code F429),(368,.code F368)]
def storeT5:List (Nat×Fn):=[(39,.code F39),(430,.code F430),(431,.code F431),(432,.code F432),(366,.code F366),(67,.code F67),(367,.code F367),(28,.code F28),(57,.code F57),(473,.code F473),(54,.code F54),(462,.code F462)]
def storeT6:List (Nat×Fn):=[(463,.code F463),(68,.code F68),(464,.codeR F464 0),(465,.codeR F465 0),(466,.codeR F466 0),(467,.codeR F467 0),(249,.code F249),(474,.code F474),(240,.code F240),(247,.code F247),(475,.code F475),(26,.code F26)]
def storeT7:List (Nat×Fn):=[(27,.code F27),(21,.code F21),(47,.code F47),(476,.code F476),(477,.code F477),(262,.code F262),(256,.code F256),(258,.code F258),(265,.code F265),(478,.code F478),(253,.code F253),(266,.code F266)]
def storeT8:List (Nat×Fn):=[(267,.code F267),(270,.code F270),(271,.code F271),(273,.code F273),(275,.code F275),(411,.code F411),(60,.code F60),(61,.code F61),(62,.code F62),(42,.code F42),(70,.code F70),(58,.code F58)]
def storeT9:List (Nat×Fn):=[(52,.code F52),(479,.code F479),(246,.code F246),(292,.code F292),(293,.code F293),(294,.code F294),(295,.code F295),(248,.code F248),(169,.code F169),(223,.code F223),(11,.code F11),(296,.code F296)]
def storeT10:List (Nat×Fn):=[(99,.code F99),(85,.code F85),(201,.code F201),(89,.code F89),(297,.code F297),(424,.code F424),(48,.code F48),(480,.code F480),(218,.code F218),(306,.code F306),(250,.code F250),(257,.code F257)]
def storeT11:List (Nat×Fn):=[(259,.code F259),(269,.code F269),(481,.code F481),(254,.code F254),(274,.code F274),(276,.code F276),(101,.code F101),(153,.code F153),(421,.codeR F421 0),(422,.codeR F422 0),(423,.codeR F423 0),(72,.code F72)]
def storeT12:List (Nat×Fn):=[(63,.code F63),(64,.code F64),(65,.code F65),(66,.code F66),(468,.code F468),(76,.code F76),(32,.code F32),(74,.code F74),(71,.code F71),(496,.code F496),(73,.code F73),(490,.code F490)]
def storeT13:List (Nat×Fn):=[(491,.code F491),(492,.codeR F492 0),(493,.codeR F493 0),(244,.code F244),(301,.code F301),(284,.code F284),(499,.code F499),(285,.code F285),(286,.code F286),(287,.code F287),(171,.code F171),(288,.code F288)]
def storeT14:List (Nat×Fn):=[(289,.code F289),(290,.code F290),(291,.code F291),(500,.code F500),(31,.code F31),(501,.code F501),(217,.code F217),(304,.code F304),(303,.code F303),(302,.code F302),(308,.code F308),(178,.code F178)]
def storeT15:List (Nat×Fn):=[(309,.code F309),(211,.code F211),(311,.code F311),(213,.code F213),(91,.code F91),(434,.codeR F434 0),(435,.codeR F435 0),(436,.codeR F436 0),(245,.code F245),(300,.code F300),(168,.code F168),(187,.code F187)]
def storeT16:List (Nat×Fn):=[(4,.code F4),(13,.code F13),(207,.code F207),(204,.code F204),(5,.code F5),(80,.code F80),(104,.code F104),(459,.code F459),(460,.code F460),(461,.code F461),(18,.code F18),(202,.code F202)]
def storeT17:List (Nat×Fn):=[(86,.code F86),(305,.code F305),(183,.code F183),(310,.code F310),(212,.code F212),(184,.code F184),(214,.code F214),(92,.code F92),(455,.code F455),(456,.code F456),(457,.codeR F457 0),(458,.codeR F458 0)]
def storeT18:List (Nat×Fn):=[(75,.code F75),(505,.code F505),(506,.code F506),(507,.code F507),(186,.code F186),(203,.code F203),(81,.code F81),(298,.code F298),(299,.code F299),(316,.code F316),(313,.code F313),(314,.code F314)]
def storeT19:List (Nat×Fn):=[(192,.code F192),(82,.code F82),(84,.code F84),(200,.code F200),(88,.code F88),(312,.code F312),(206,.code F206),(17,.code F17),(220,.code F220),(221,.code F221),(469,.code F469),(470,.code F470)]
def storeT20:List (Nat×Fn):=[(471,.codeR F471 0),(472,.codeR F472 0),(167,.code F167),(142,.code F142),(188,.code F188),(189,.code F189),(195,.code F195),(224,.code F224),(95,.code F95),(96,.code F96),(486,.code F486),(487,.code F487)]
def storeT21:List (Nat×Fn):=[(488,.code F488),(489,.code F489),(8,.code F8),(483,.code F483),(484,.code F484),(485,.code F485),(7,.code F7),(97,.code F97),(98,.code F98),(315,.code F315),(319,.code F319),(320,.code F320)]
def storeT22:List (Nat×Fn):=[(100,.code F100),(3,.code F3),(10,.code F10),(12,.code F12),(25,.code F25),(225,.code F225),(226,.code F226),(494,.code F494),(495,.code F495),(502,.code F502),(503,.code F503),(504,.code F504)]
def storeT23:List (Nat×Fn):=[(22,.code F22),(105,.code F105),(106,.code F106),(29,.code F29),(30,.code F30),(69,.prim (some 0) (bJ 1)),(497,.prim (some 0) (bJ 9)),(498,.prim (some 1009) noQ),(307,.prim (some 0) (bJ 17)),(170,.prim none mX),(317,.prim (some 1017) noQ),(318,.prim (some 2017) noQ)]
def storeT24:List (Nat×Fn):=[(190,.prim none oX),(222,.prim (some 1002) noQ),(102,.prim (some 0) (bJ 11)),(103,.prim (some 1011) noQ),(23,.prim (some 0) (bJ 5)),(227,.prim (some 0) (bJ 2))]
def storeTab:List (Nat×Fn):=storeT0++(storeT1++(storeT2++(storeT3++(storeT4++(storeT5++(storeT6++(storeT7++(storeT8++(storeT9++(storeT10++(storeT11++(storeT12++(storeT13++(storeT14++(storeT15++(storeT16++(storeT17++(storeT18++(storeT19++(storeT20++(storeT21++(storeT22++(storeT23++(storeT24))))))))))))))))))))))))
set_option maxRecDepth 100000
theorem okap {P:Go.Program} {cx:Cx} {tab:List (Nat×Fn)}:∀{a b:List (Nat×Fn)} (h:dt P cx tab a=true) (t:dt P cx tab b=true),dt P cx tab (a++b)=true
 |[],_,_,t=>t
 |(k,.code F)::l,_,h,t=>by
  simp only[dt,Bool.and_eq_true] at h;simp only[List.cons_append,dt,h.1,okap h.2 t,Bool.and_self]
 |(k,.codeR F j)::l,_,h,t=>by
  simp only[dt,Bool.and_eq_true] at h;simp only[List.cons_append,dt,h.1.1,h.1.2,okap h.2 t,Bool.and_self]
 |(k,.prim o p)::l,_,h,t=>by
  simp only[dt,Bool.and_eq_true] at h;simp only[List.cons_append,dt,h.1,okap h.2 t,Bool.and_self]
noncomputable abbrev okq (l:List (Nat×Fn)):Bool:=dt Tryz.prog (cxU storeFm) storeTab l
def ok0:okq storeT0=true:=by kernel_rfl
def ok1:okq storeT1=true:=by kernel_rfl
def ok2:okq storeT2=true:=by kernel_rfl
def ok3:okq storeT3=true:=by kernel_rfl
def ok4:okq storeT4=true:=by kernel_rfl
def ok5:okq storeT5=true:=by kernel_rfl
def ok6:okq storeT6=true:=by kernel_rfl
def ok7:okq storeT7=true:=by kernel_rfl
def ok8:okq storeT8=true:=by kernel_rfl
def ok9:okq storeT9=true:=by kernel_rfl
def ok10:okq storeT10=true:=by kernel_rfl
def ok11:okq storeT11=true:=by kernel_rfl
def ok12:okq storeT12=true:=by kernel_rfl
def ok13:okq storeT13=true:=by kernel_rfl
def ok14:okq storeT14=true:=by kernel_rfl
def ok15:okq storeT15=true:=by kernel_rfl
def ok16:okq storeT16=true:=by kernel_rfl
def ok17:okq storeT17=true:=by kernel_rfl
def ok18:okq storeT18=true:=by kernel_rfl
def ok19:okq storeT19=true:=by kernel_rfl
def ok20:okq storeT20=true:=by kernel_rfl
def ok21:okq storeT21=true:=by kernel_rfl
def ok22:okq storeT22=true:=by kernel_rfl
def ok23:okq storeT23=true:=by kernel_rfl
def ok24:okq storeT24=true:=by kernel_rfl
def okAll:dt Tryz.prog (cxU storeFm) storeTab storeTab=true:=okap ok0 (okap ok1 (okap ok2 (okap ok3 (okap ok4 (okap ok5 (okap ok6 (okap ok7 (okap ok8 (okap ok9 (okap ok10 (okap ok11 (okap ok12 (okap ok13 (okap ok14 (okap ok15 (okap ok16 (okap ok17 (okap ok18 (okap ok19 (okap ok20 (okap ok21 (okap ok22 (okap ok23 (ok24))))))))))))))))))))))))
def okClone69:jg Tryz.prog (cxU storeFm) (b7 69 (bO 1 [.int .i64 0])) 146 (bO 1 [.int .i64 0])=true:=by kernel_rfl
def okClone497:jg Tryz.prog (cxU storeFm) (b7 497 (bO 9 [.int .i64 0,.int .i64 0,.int .i64 0,.slice 1 [],.int .i64 0,.str [],.str [],.slice 1 [],.slice 36 []])) 158 (bO 9 [.int .i64 0,.int .i64 0,.int .i64 0,.slice 1 [],.int .i64 0,.str [],.str [],.slice 1 [],.slice 36 []])=true:=by kernel_rfl
def okClone307:jg Tryz.prog (cxU storeFm) (b7 307 (bO 17 [.int .i64 0,.int .i64 0,.str [],.str [],.int .i64 0,.slice 2 [],.int .i64 0,.int .i64 0,.int .i64 0,.int .i64 0,.int .i64 0,.int .i64 0,.slice 11 [],.int .i64 0,.int .i64 0,.int .i64 0,.int .i64 0])) 180 (bO 17 [.int .i64 0,.int .i64 0,.str [],.str [],.int .i64 0,.slice 2 [],.int .i64 0,.int .i64 0,.int .i64 0,.int .i64 0,.int .i64 0,.int .i64 0,.slice 11 [],.int .i64 0,.int .i64 0,.int .i64 0,.int .i64 0])=true:=by kernel_rfl
def okClone102:jg Tryz.prog (cxU storeFm) (b7 102 (bO 11 [.int .i64 0,.int .i64 0,.int .i64 0,.int .i64 0,.int .i64 0,.int .i64 0,.bool false,.str [],.slice 2 [],.str [],.bool false])) 282 (bO 11 [.int .i64 0,.int .i64 0,.int .i64 0,.int .i64 0,.int .i64 0,.int .i64 0,.bool false,.str [],.slice 2 [],.str [],.bool false])=true:=by kernel_rfl
def okClone23:jg Tryz.prog (cxU storeFm) (b7 23 (bO 5 [.int .i64 0,.int .i64 0,.int .i64 0,.bool false,.str []])) 287 (bO 5 [.int .i64 0,.int .i64 0,.int .i64 0,.bool false,.str []])=true:=by kernel_rfl
def okClone227:jg Tryz.prog (cxU storeFm) (b7 227 (bO 2 [.str [],.slice 5 []])) 292 (bO 2 [.str [],.slice 5 []])=true:=by kernel_rfl
end Sg
namespace Sg
open Go Go.RowKit Go.Lib Go.Proofs
def insB:=And.intro Tryz.underlying0 (And.intro Tryz.underlying3 (And.intro Tryz.underlying4 (And.intro Tryz.isAgg0 (And.intro Tryz.isAgg3 (And.intro Tryz.isAgg4 (And.intro Tryz.sizeOf0 (And.intro Tryz.sizeOf3 (And.intro Tryz.sizeOf4 (And.intro Tryz.zeroValue0 (And.intro Tryz.zeroValue3 (And.intro Tryz.zeroValue4 (And.intro (run_underlying Tryz.underlying0) (And.intro (run_underlying Tryz.underlying3) ((run_underlying Tryz.underlying4)))))))))))))))
def insB159:=And.intro Tryz.underlying55 (And.intro Tryz.underlying22 (And.intro Tryz.isAgg55 (And.intro Tryz.isAgg22 (And.intro Tryz.sizeOf55 (And.intro Tryz.sizeOf22 (And.intro Tryz.zeroValue22 ((run_underlying Tryz.underlying22))))))))
theorem insE (w:World) (ROW:Array Value) (ty z i:Nat) (vs:List Value):(∀x,((w.alloc (.cells ROW ty)).drew).cell? x=(w.drew.alloc (.cells ROW ty)).cell? x)/\(∀x,((w.alloc (.cells ROW ty)).drew).frozen? x=(w.drew.alloc (.cells ROW ty)).frozen? x)/\(∀x,(((w.alloc (.cells ROW ty)).drew.setCells w.heap.size (i*z) vs).drew).cell? x=((w.drew.alloc (.cells ROW ty)).setCells w.heap.size (i*z) vs).cell? x)/\(∀x,(((w.alloc (.cells ROW ty)).drew.setCells w.heap.size (i*z) vs).drew).frozen? x=((w.drew.alloc (.cells ROW ty)).setCells w.heap.size (i*z) vs).frozen? x):=⟨fun x=>rfl,fun x=>rfl,fun x=>rfl,fun x=>rfl⟩
theorem insX {i n m c:Nat} (hi:i<n) (hm:0<m) (hroom:n+m<=c) (hlim:n+m<=1073741824):IntKind.i64.wrap ((i:Int)+(m:Int))=(i:Int)+(m:Int)/\(0:Int)<=(i:Int)+(m:Int)/\i<=n/\((i:Int)+(m:Int)).toNat=i+m/\¬(c=i+m)/\(i:Int)<=(n:Int)+(m:Int)/\¬(c=i):=⟨by rw[IntKind.wrap_i64];omega,by omega,by omega,by omega,by omega,by omega,by omega⟩
theorem insY {i n m:Nat} (hi:i<n) (hlim:n+m<=1073741824):IntKind.i64.wrap ((i:Int)+(m:Int))=(i:Int)+(m:Int)/\(0:Int)<=(i:Int)+(m:Int)/\i<=n/\((i:Int)+(m:Int)).toNat=i+m/\(i:Int)<=(n:Int):=⟨by rw[IntKind.wrap_i64];omega,by omega,by omega,by omega,by omega⟩
theorem insC159:ki Tryz.prog 159 9 22 55 where
 ent:=⟨Tryz.f159,Tryz.func159,by kernel_rfl,by kernel_rfl⟩
 hS:=Tryz.underlying22
 hz:=by kernel_rfl
 pos:=by decide
 info:=⟨_,(Value.agg #[jE,jE,jE,.slice none 0 0,jE,.string ⟨#[]⟩,.string ⟨#[]⟩,.slice none 0 0,.slice none 0 0]),rfl,by decide,rfl,rfl⟩
 nothing:=by
  intro base n c i vc vb w hnc hi hnil;have⟨t0,t3,t4,a0,a3,a4,z0,z3,z4,v0,v3,v4,u0,u3,u4⟩:=insB;have⟨t9,t24,a9,a24,z9,z24,v24,u24⟩:=insB159;have mixed:Tryz.prog.follows .mixedOrders=true:=by kernel_rfl
  go_enter Tryz.func159,Tryz.ntmps159
  cases base with
  |none=>
   have h0:=hnil rfl;subst h0;have hi0:i=0:=by omega
   subst hi0
   go_wp2
   all_goals (go_ret;exact⟨rfl,rfl⟩)
  |some a=>
   have⟨ab,ao,asp⟩:=a
   go_wp2
   all_goals (go_ret;exact⟨rfl,rfl⟩)
 end_:=by
  intro base n c m vc vb w w' q hm hnc hlim hnil hrun;have⟨t0,t3,t4,a0,a3,a4,z0,z3,z4,v0,v3,v4,u0,u3,u4⟩:=insB;have⟨t9,t24,a9,a24,z9,z24,v24,u24⟩:=insB159;have mixed:Tryz.prog.follows .mixedOrders=true:=by kernel_rfl
  have hz1:¬((m:Int)=0):=by omega
  go_enter Tryz.func159,Tryz.ntmps159
  cases base with
  |none=>
   have h0:=hnil rfl;subst h0
   go_wp2_with (at_builtin;refine Lib.wpList_append_run _ rfl _ _ _ _ rfl _ _ rfl rfl _ _ hrun ?_)
   all_goals (go_ret;exact⟨rfl,rfl⟩)
  |some a=>
   have⟨ab,ao,asp⟩:=a
   go_wp2_with (at_builtin;refine Lib.wpList_append_run _ rfl _ _ _ _ rfl _ _ rfl rfl _ _ hrun ?_)
   all_goals (go_ret;exact⟨rfl,rfl⟩)
 shift:=by
  intro b off n c i vb voff m vc cs vs w hi hm hroom hlim hvb hcl hvl hcs hsp hfz hvs h1c h1v tA tB kA kB hsa hsb hkA;have⟨t0,t3,t4,a0,a3,a4,z0,z3,z4,v0,v3,v4,u0,u3,u4⟩:=insB;have⟨t9,t24,a9,a24,z9,z24,v24,u24⟩:=insB159;have hz1:¬((m:Int)=0):=by omega
  have hz2:¬((i:Int)=(n:Int)):=by omega
  have hsz:(Tryz.prog.info? 55).map (·.size)=some 9:=by kernel_rfl
  have hov:∀lb cb,(callFunc 224 #[.slice (some ⟨vb,voff,none⟩) m vc,.slice (some ⟨b,off+(i+m)*9,none⟩) lb cb]).run Tryz.prog w=.ok (.value (.bool false)) w:=fun lb cb=>by
   rw[run_callFunc_extern Tryz.func224 (by kernel_rfl) (by kernel_rfl) (by kernel_rfl) (e:=Extern.SlicesOverlaps.overlaps #[22,22] #[4]) (by kernel_rfl),
    dg w 22 4 55 t24 9 z9 ⟨vb,voff,none⟩ ⟨b,off+(i+m)*9,none⟩ m vc lb cb hvb tA tB kA kB hsa hsb hkA (hfz _) (hfz _)]
   rfl
  have mixed:Tryz.prog.follows .mixedOrders=true:=by kernel_rfl
  have⟨hw1,hb1,hin,htn,hb2,hb3,hb4⟩:=insX hi hm hroom hlim
  have⟨W1,hW1,hcp1,hcp2⟩:=jL t24 hsz b off n c i vb voff m vc cs vs w hi hm hvb hcl hvl hcs hsp hfz hvs h1c h1v
  go_enter Tryz.func159,Tryz.ntmps159
  go_wp2_with (simp only[hov])
  go_region_law_o (refine cg rfl _ _ 22 22 rfl _ _ (by simp[Act.eval,Act.put]) (by simp[Act.eval,Act.put]) (hcp1 _ _ _) ?_)
  go_wp2_with (at_builtin;refine aX _ rfl _ _ 22 22 rfl _ _ rfl rfl (hcp2 _ (fun _=>rfl) (fun _=>rfl) _ _) ?_)
  go_ret
  first|exact⟨rfl,rfl⟩|exact⟨rfl,by rw[hW1]⟩
 grow:=by
  intro b off n c i vb voff m vc cs vs w hi hm hnc hroom hlim hcl hvl hbw hvw hcs hvs h1c h1v;have⟨t0,t3,t4,a0,a3,a4,z0,z3,z4,v0,v3,v4,u0,u3,u4⟩:=insB;have⟨t9,t24,a9,a24,z9,z24,v24,u24⟩:=insB159;have mixed:Tryz.prog.follows .mixedOrders=true:=by kernel_rfl
  obtain⟨i0,hi0,hz0,hzs,hzb⟩:∃i0,Tryz.prog.info? 55=some i0/\i0.zero=some (Value.agg #[jE,jE,jE,.slice none 0 0,jE,.string ⟨#[]⟩,.string ⟨#[]⟩,.slice none 0 0,.slice none 0 0])/\i0.size=9/\i0.bytes=136:=⟨_,rfl,rfl,rfl,rfl⟩;have hz1:¬((m:Int)=0):=by omega
  have hz2:¬((i:Int)=(n:Int)):=by omega
  have hz3:(c:Int)<(n:Int)+(m:Int):=by omega
  have⟨G,ROW,hGn,hRl,hRs,hRt,hG63,hrz,hcpA,hcpB⟩:=jM t24 t3 i0 (Value.agg #[jE,jE,jE,.slice none 0 0,jE,.string ⟨#[]⟩,.string ⟨#[]⟩,.slice none 0 0,.slice none 0 0]) hi0 hz0 hzs (by decide) (by rw[hzb];decide) (fun k=>by simp[Builtin.zeroCells,Value.cells]) b off n c i vb voff m vc cs vs w hi hm hnc hroom hlim hcl hvl hbw hvw hcs hvs h1c h1v;have hGi:¬(G=i):=by omega
  have hGim:¬(G=i+m):=by omega
  have hci:¬(c=i):=by omega
  have⟨hE1,hE2,hF1,hF2⟩:=insE w ROW 55 9 i vs
  have⟨hw1,hb1,hin,htn,hb3⟩:=insY hi hlim
  go_enter Tryz.func159,Tryz.ntmps159
  go_wp2_with (first
   |(at_builtin;refine Lib.wpList_append_run _ rfl _ _ _ _ rfl _ _ rfl rfl _ _ (hrz _) ?_)
   |(at_builtin;refine aX _ rfl _ _ 22 22 rfl _ _ rfl rfl (hcpA _ hE1 hE2 _ _) ?_)
   |(at_builtin;refine aX _ rfl _ _ 22 22 rfl _ _ rfl rfl (hcpB _ (fun _=>rfl) (fun _=>rfl) _ _ _) ?_))
  go_region_law_o (refine cg rfl _ _ 22 22 rfl (.slice (some ⟨w.heap.size,(i+m)*9,none⟩) (n+m-(i+m)) (G-(i+m))) (.slice (some ⟨b,off+i*9,none⟩) (n-i) (c-i)) (by simp[Act.eval,Act.put]) (by simp[Act.eval,Act.put]) (hcpB _ hF1 hF2 3 (G-(i+m)) (c-i)) ?_)
  go_wp2
  go_ret
  exact⟨G,ROW,w.drew.drew.drawn,hGn,hRl,hRs,hRt,rfl,by first|rfl|(rw[cy];rfl)|(simp only[cy];rfl)⟩
def insB246:=And.intro Tryz.underlying111 (And.intro Tryz.underlying63 (And.intro Tryz.isAgg111 (And.intro Tryz.isAgg63 (And.intro Tryz.sizeOf111 (And.intro Tryz.sizeOf63 (And.intro Tryz.zeroValue63 ((run_underlying Tryz.underlying63))))))))
theorem insC246:ki Tryz.prog 246 17 63 111 where
 ent:=⟨Tryz.f246,Tryz.func246,by kernel_rfl,by kernel_rfl⟩
 hS:=Tryz.underlying63
 hz:=by kernel_rfl
 pos:=by decide
 info:=⟨_,(Value.agg #[jE,jE,.string ⟨#[]⟩,.string ⟨#[]⟩,jE,.slice none 0 0,jE,jE,jE,jE,jE,jE,.slice none 0 0,jE,jE,jE,jE]),rfl,by decide,rfl,rfl⟩
 nothing:=by
  intro base n c i vc vb w hnc hi hnil;have⟨t0,t3,t4,a0,a3,a4,z0,z3,z4,v0,v3,v4,u0,u3,u4⟩:=insB;have⟨t9,t24,a9,a24,z9,z24,v24,u24⟩:=insB246;have mixed:Tryz.prog.follows .mixedOrders=true:=by kernel_rfl
  go_enter Tryz.func246,Tryz.ntmps246
  cases base with
  |none=>
   have h0:=hnil rfl;subst h0;have hi0:i=0:=by omega
   subst hi0
   go_wp2
   all_goals (go_ret;exact⟨rfl,rfl⟩)
  |some a=>
   have⟨ab,ao,asp⟩:=a
   go_wp2
   all_goals (go_ret;exact⟨rfl,rfl⟩)
 end_:=by
  intro base n c m vc vb w w' q hm hnc hlim hnil hrun;have⟨t0,t3,t4,a0,a3,a4,z0,z3,z4,v0,v3,v4,u0,u3,u4⟩:=insB;have⟨t9,t24,a9,a24,z9,z24,v24,u24⟩:=insB246;have mixed:Tryz.prog.follows .mixedOrders=true:=by kernel_rfl
  have hz1:¬((m:Int)=0):=by omega
  go_enter Tryz.func246,Tryz.ntmps246
  cases base with
  |none=>
   have h0:=hnil rfl;subst h0
   go_wp2_with (at_builtin;refine Lib.wpList_append_run _ rfl _ _ _ _ rfl _ _ rfl rfl _ _ hrun ?_)
   all_goals (go_ret;exact⟨rfl,rfl⟩)
  |some a=>
   have⟨ab,ao,asp⟩:=a
   go_wp2_with (at_builtin;refine Lib.wpList_append_run _ rfl _ _ _ _ rfl _ _ rfl rfl _ _ hrun ?_)
   all_goals (go_ret;exact⟨rfl,rfl⟩)
 shift:=by
  intro b off n c i vb voff m vc cs vs w hi hm hroom hlim hvb hcl hvl hcs hsp hfz hvs h1c h1v tA tB kA kB hsa hsb hkA;have⟨t0,t3,t4,a0,a3,a4,z0,z3,z4,v0,v3,v4,u0,u3,u4⟩:=insB;have⟨t9,t24,a9,a24,z9,z24,v24,u24⟩:=insB246;have hz1:¬((m:Int)=0):=by omega
  have hz2:¬((i:Int)=(n:Int)):=by omega
  have hsz:(Tryz.prog.info? 111).map (·.size)=some 17:=by kernel_rfl
  have hov:∀lb cb,(callFunc 288 #[.slice (some ⟨vb,voff,none⟩) m vc,.slice (some ⟨b,off+(i+m)*17,none⟩) lb cb]).run Tryz.prog w=.ok (.value (.bool false)) w:=fun lb cb=>by
   rw[run_callFunc_extern Tryz.func288 (by kernel_rfl) (by kernel_rfl) (by kernel_rfl) (e:=Extern.SlicesOverlaps.overlaps #[63,63] #[4]) (by kernel_rfl),
    dg w 63 4 111 t24 17 z9 ⟨vb,voff,none⟩ ⟨b,off+(i+m)*17,none⟩ m vc lb cb hvb tA tB kA kB hsa hsb hkA (hfz _) (hfz _)]
   rfl
  have mixed:Tryz.prog.follows .mixedOrders=true:=by kernel_rfl
  have⟨hw1,hb1,hin,htn,hb2,hb3,hb4⟩:=insX hi hm hroom hlim
  have⟨W1,hW1,hcp1,hcp2⟩:=jL t24 hsz b off n c i vb voff m vc cs vs w hi hm hvb hcl hvl hcs hsp hfz hvs h1c h1v
  go_enter Tryz.func246,Tryz.ntmps246
  go_wp2_with (simp only[hov])
  go_region_law_o (refine cg rfl _ _ 63 63 rfl _ _ (by simp[Act.eval,Act.put]) (by simp[Act.eval,Act.put]) (hcp1 _ _ _) ?_)
  go_wp2_with (at_builtin;refine aX _ rfl _ _ 63 63 rfl _ _ rfl rfl (hcp2 _ (fun _=>rfl) (fun _=>rfl) _ _) ?_)
  go_ret
  first|exact⟨rfl,rfl⟩|exact⟨rfl,by rw[hW1]⟩
 grow:=by
  intro b off n c i vb voff m vc cs vs w hi hm hnc hroom hlim hcl hvl hbw hvw hcs hvs h1c h1v;have⟨t0,t3,t4,a0,a3,a4,z0,z3,z4,v0,v3,v4,u0,u3,u4⟩:=insB;have⟨t9,t24,a9,a24,z9,z24,v24,u24⟩:=insB246;have mixed:Tryz.prog.follows .mixedOrders=true:=by kernel_rfl
  obtain⟨i0,hi0,hz0,hzs,hzb⟩:∃i0,Tryz.prog.info? 111=some i0/\i0.zero=some (Value.agg #[jE,jE,.string ⟨#[]⟩,.string ⟨#[]⟩,jE,.slice none 0 0,jE,jE,jE,jE,jE,jE,.slice none 0 0,jE,jE,jE,jE])/\i0.size=17/\i0.bytes=184:=⟨_,rfl,rfl,rfl,rfl⟩;have hz1:¬((m:Int)=0):=by omega
  have hz2:¬((i:Int)=(n:Int)):=by omega
  have hz3:(c:Int)<(n:Int)+(m:Int):=by omega
  have⟨G,ROW,hGn,hRl,hRs,hRt,hG63,hrz,hcpA,hcpB⟩:=jM t24 t3 i0 (Value.agg #[jE,jE,.string ⟨#[]⟩,.string ⟨#[]⟩,jE,.slice none 0 0,jE,jE,jE,jE,jE,jE,.slice none 0 0,jE,jE,jE,jE]) hi0 hz0 hzs (by decide) (by rw[hzb];decide) (fun k=>by simp[Builtin.zeroCells,Value.cells]) b off n c i vb voff m vc cs vs w hi hm hnc hroom hlim hcl hvl hbw hvw hcs hvs h1c h1v;have hGi:¬(G=i):=by omega
  have hGim:¬(G=i+m):=by omega
  have hci:¬(c=i):=by omega
  have⟨hE1,hE2,hF1,hF2⟩:=insE w ROW 111 17 i vs
  have⟨hw1,hb1,hin,htn,hb3⟩:=insY hi hlim
  go_enter Tryz.func246,Tryz.ntmps246
  go_wp2_with (first
   |(at_builtin;refine Lib.wpList_append_run _ rfl _ _ _ _ rfl _ _ rfl rfl _ _ (hrz _) ?_)
   |(at_builtin;refine aX _ rfl _ _ 63 63 rfl _ _ rfl rfl (hcpA _ hE1 hE2 _ _) ?_)
   |(at_builtin;refine aX _ rfl _ _ 63 63 rfl _ _ rfl rfl (hcpB _ (fun _=>rfl) (fun _=>rfl) _ _ _) ?_))
  go_region_law_o (refine cg rfl _ _ 63 63 rfl (.slice (some ⟨w.heap.size,(i+m)*17,none⟩) (n+m-(i+m)) (G-(i+m))) (.slice (some ⟨b,off+i*17,none⟩) (n-i) (c-i)) (by simp[Act.eval,Act.put]) (by simp[Act.eval,Act.put]) (hcpB _ hF1 hF2 3 (G-(i+m)) (c-i)) ?_)
  go_wp2
  go_ret
  exact⟨G,ROW,w.drew.drew.drawn,hGn,hRl,hRs,hRt,rfl,by first|rfl|(rw[cy];rfl)|(simp only[cy];rfl)⟩
def insB247:=And.intro Tryz.underlying111 (And.intro Tryz.underlying63 (And.intro Tryz.isAgg111 (And.intro Tryz.isAgg63 (And.intro Tryz.sizeOf111 (And.intro Tryz.sizeOf63 (And.intro Tryz.zeroValue63 ((run_underlying Tryz.underlying63))))))))
theorem delC247:nE Tryz.prog 247 17 where
 ent:=⟨Tryz.f247,Tryz.func247,by kernel_rfl,by kernel_rfl⟩
 pos:=by decide
 nothing:=by
  intro base n c i w hnc hi hnil;have⟨t0,t3,t4,a0,a3,a4,z0,z3,z4,v0,v3,v4,u0,u3,u4⟩:=insB;have⟨t9,t24,a9,a24,z9,z24,v24,u24⟩:=insB247;have mixed:Tryz.prog.follows .mixedOrders=true:=by kernel_rfl
  go_enter Tryz.func247,Tryz.ntmps247
  cases base with
  |none=>
   have h0:=hnil rfl;subst h0;have hi0:i=0:=by omega
   subst hi0
   go_wp2
   all_goals (go_ret;exact⟨rfl,rfl⟩)
  |some a=>
   have⟨ab,ao,asp⟩:=a
   go_wp2
   all_goals (go_ret;exact⟨rfl,rfl⟩)
 cut:=by
  intro b off n c i j cs w hij hj hnc hlim hcl hcs hfz h1c;have⟨t0,t3,t4,a0,a3,a4,z0,z3,z4,v0,v3,v4,u0,u3,u4⟩:=insB;have⟨t9,t24,a9,a24,z9,z24,v24,u24⟩:=insB247;have mixed:Tryz.prog.follows .mixedOrders=true:=by kernel_rfl
  obtain⟨i0,hi0,hzs,hzb⟩:∃i0,Tryz.prog.info? 111=some i0/\i0.size=17/\i0.bytes=184:=⟨_,rfl,rfl,rfl⟩;have hv9:∀w,(zeroValue 111).run Tryz.prog w=.ok (Value.agg #[jE,jE,.string ⟨#[]⟩,.string ⟨#[]⟩,jE,.slice none 0 0,jE,jE,jE,jE,jE,jE,.slice none 0 0,jE,jE,jE,jE]) w:=Tryz.zeroValue111;obtain⟨news,hnews⟩:∃news,news=cs.drop (j*17):=⟨_,rfl⟩;have hlen:news.length=(n-j)*17:=by rw[hnews,List.length_drop,hcl];omega
  obtain⟨A,hA,hsrc⟩:∃A:Addr,(if c=j then some (⟨b,off,none⟩:Addr) else some ⟨b,off+j*17,none⟩)=some A/\Hid (∀t u,news[t]?=some u->w.drew.cell? (A.add t)=some u):=by
   by_cases h:c=j
   ·refine⟨⟨b,off,none⟩,by simp[h],fun t u hu=>?_⟩;have h0:news.length=0:=by rw[hlen];omega
    rw[List.length_eq_zero_iff.1 h0] at hu;simp at hu
   ·refine⟨⟨b,off+j*17,none⟩,by simp[h],fun t u hu=>?_⟩;rw[Addr.add_lit,Nat.add_assoc];refine hcs (j*17+t) u ?_;rw[hnews,List.getElem?_drop] at hu;exact hu
  have s1:Hid (news.length=(n-j)*17):=hlen;have s2:Hid (∀u∈news,u.oneCell'=true):=fun u hu=>h1c u (List.mem_of_mem_drop (hnews▸hu));have hcell:∀k,k<n*17->(w.cell? ⟨b,off+k,none⟩).isSome=true:=fun k hk=>by
   have hk':k<cs.length:=by omega
   rw[hcs k cs[k] (by simp)];rfl
  have s3:Hid (∀t,t<news.length->(w.drew.cell? ⟨b,off+i*17+t,none⟩).isSome=true/\w.drew.frozen? ⟨b,off+i*17+t,none⟩=false):=by
   intro t ht;rw[hlen] at ht;rw[Nat.add_assoc];exact⟨hcell _ (by omega),hfz _⟩
  obtain⟨W1,hW1⟩:∃W1,W1=w.drew.setCells b (off+i*17) news:=⟨_,rfl⟩;have hZl:∀k,(Builtin.zeroCells (Value.agg #[jE,jE,.string ⟨#[]⟩,.string ⟨#[]⟩,jE,.slice none 0 0,jE,jE,jE,jE,jE,jE,.slice none 0 0,jE,jE,jE,jE]).cells k).toList.length=k*17:=fun k=>by simp[Builtin.zeroCells,Value.cells]
  have hZ1:∀k,∀v∈(Builtin.zeroCells (Value.agg #[jE,jE,.string ⟨#[]⟩,.string ⟨#[]⟩,jE,.slice none 0 0,jE,jE,jE,jE,jE,jE,.slice none 0 0,jE,jE,jE,jE]).cells k).toList,v.oneCell'=true:=fun k v hv=>pi (by decide) hv;have hcl2:∀ty,(Builtin.clear_ #[63] ty #[.slice (some ⟨b,off+(i+(n-j))*17,none⟩) (n-(i+(n-j))) (c-(i+(n-j)))]).run Tryz.prog W1=.ok (.tuple #[]) (W1.setCells b (off+(i+(n-j))*17) (Builtin.zeroCells (Value.agg #[jE,jE,.string ⟨#[]⟩,.string ⟨#[]⟩,jE,.slice none 0 0,jE,jE,jE,jE,jE,jE,.slice none 0 0,jE,jE,jE,jE]).cells (n-(i+(n-j)))).toList):=fun ty=>
   lf W1 63 111 ty _ t24 hv9 b _ _ _ (by omega) (hZ1 _) (fun k hk=>by
    rw[hZl] at hk;rw[hW1];refine eM b _ _ _ (fun t ht=>?_) _ ?_
    ·rw[hlen] at ht;rw[Nat.add_assoc];exact hcell _ (by omega)
    ·rw[Nat.add_assoc];exact hcell _ (by omega)) (fun k=>by rw[hW1,World.frozen?_setCells];exact hfz k)
  have hW:Hid (W1=w.drew.setCells b (off+i*17) news):=hW1;have X:Hid (news=cs.drop (j*17)):=hnews;have Y1:=hZl (n-(i+(n-j)));have Y2:=hZ1 (n-(i+(n-j)));obtain⟨ZS,hZS⟩:∃ZS,ZS=(Builtin.zeroCells (Value.agg #[jE,jE,.string ⟨#[]⟩,.string ⟨#[]⟩,jE,.slice none 0 0,jE,jE,jE,jE,jE,jE,.slice none 0 0,jE,jE,jE,jE]).cells (n-(i+(n-j)))).toList:=⟨_,rfl⟩;rw[<-hZS] at hcl2 Y1 Y2;have Y1h:Hid (ZS.length=(n-(i+(n-j)))*17):=Y1;have Y2h:Hid (∀v∈ZS,v.oneCell'=true):=Y2;have hic:i<=c:=by omega
  have hjc:j<=c:=by omega
  have heq:¬((i:Int)=(j:Int)):=by omega
  clear hW1 hnews hlen Y1 Y2 hZS hZl hZ1 hcell hcs hcl h1c
  go_enter Tryz.func247,Tryz.ntmps247
  go_wp2_with fail
  go_region_law_o (refine step_append_room rfl (.tmp 22) (.tmp 25) 63 rfl 111 i0 17 t24 hi0 hzs b off i c (by simp[Act.eval,Act.put]) A (n-j) (c-j) news (by (simp[Act.eval,Act.put])<;>simpa using hA) s1.out hsrc.out s2.out (by omega) s3.out ?_;rw[<-hW.out])
  go_wp2
  go_ret
  refine⟨by rw[show n-(j-i)=i+(n-j) by omega];rfl,w.drew.drawn,ZS,?_,Y2h.out,?_⟩
  ·rw[Y1h.out];congr 1;omega
  ·rw[<-X.out,show n-(j-i)=i+(n-j) by omega];have:({w with drawn:=w.drew.drawn}:World)=w.drew:=rfl;rw[this,<-hW.out]
def insB281:=And.intro Tryz.underlying221 (And.intro Tryz.underlying108 (And.intro Tryz.isAgg221 (And.intro Tryz.isAgg108 (And.intro Tryz.sizeOf221 (And.intro Tryz.sizeOf108 (And.intro Tryz.zeroValue108 ((run_underlying Tryz.underlying108))))))))
theorem insC281:ki Tryz.prog 281 2 108 221 where
 ent:=⟨Tryz.f281,Tryz.func281,by kernel_rfl,by kernel_rfl⟩
 hS:=Tryz.underlying108
 hz:=by kernel_rfl
 pos:=by decide
 info:=⟨_,(Value.agg #[.string ⟨#[]⟩,.slice none 0 0]),rfl,by decide,rfl,rfl⟩
 nothing:=by
  intro base n c i vc vb w hnc hi hnil;have⟨t0,t3,t4,a0,a3,a4,z0,z3,z4,v0,v3,v4,u0,u3,u4⟩:=insB;have⟨t9,t24,a9,a24,z9,z24,v24,u24⟩:=insB281;have mixed:Tryz.prog.follows .mixedOrders=true:=by kernel_rfl
  go_enter Tryz.func281,Tryz.ntmps281
  cases base with
  |none=>
   have h0:=hnil rfl;subst h0;have hi0:i=0:=by omega
   subst hi0
   go_wp2
   all_goals (go_ret;exact⟨rfl,rfl⟩)
  |some a=>
   have⟨ab,ao,asp⟩:=a
   go_wp2
   all_goals (go_ret;exact⟨rfl,rfl⟩)
 end_:=by
  intro base n c m vc vb w w' q hm hnc hlim hnil hrun;have⟨t0,t3,t4,a0,a3,a4,z0,z3,z4,v0,v3,v4,u0,u3,u4⟩:=insB;have⟨t9,t24,a9,a24,z9,z24,v24,u24⟩:=insB281;have mixed:Tryz.prog.follows .mixedOrders=true:=by kernel_rfl
  have hz1:¬((m:Int)=0):=by omega
  go_enter Tryz.func281,Tryz.ntmps281
  cases base with
  |none=>
   have h0:=hnil rfl;subst h0
   go_wp2_with (at_builtin;refine Lib.wpList_append_run _ rfl _ _ _ _ rfl _ _ rfl rfl _ _ hrun ?_)
   all_goals (go_ret;exact⟨rfl,rfl⟩)
  |some a=>
   have⟨ab,ao,asp⟩:=a
   go_wp2_with (at_builtin;refine Lib.wpList_append_run _ rfl _ _ _ _ rfl _ _ rfl rfl _ _ hrun ?_)
   all_goals (go_ret;exact⟨rfl,rfl⟩)
 shift:=by
  intro b off n c i vb voff m vc cs vs w hi hm hroom hlim hvb hcl hvl hcs hsp hfz hvs h1c h1v tA tB kA kB hsa hsb hkA;have⟨t0,t3,t4,a0,a3,a4,z0,z3,z4,v0,v3,v4,u0,u3,u4⟩:=insB;have⟨t9,t24,a9,a24,z9,z24,v24,u24⟩:=insB281;have hz1:¬((m:Int)=0):=by omega
  have hz2:¬((i:Int)=(n:Int)):=by omega
  have hsz:(Tryz.prog.info? 221).map (·.size)=some 2:=by kernel_rfl
  have hov:∀lb cb,(callFunc 303 #[.slice (some ⟨vb,voff,none⟩) m vc,.slice (some ⟨b,off+(i+m)*2,none⟩) lb cb]).run Tryz.prog w=.ok (.value (.bool false)) w:=fun lb cb=>by
   rw[run_callFunc_extern Tryz.func303 (by kernel_rfl) (by kernel_rfl) (by kernel_rfl) (e:=Extern.SlicesOverlaps.overlaps #[108,108] #[4]) (by kernel_rfl),
    dg w 108 4 221 t24 2 z9 ⟨vb,voff,none⟩ ⟨b,off+(i+m)*2,none⟩ m vc lb cb hvb tA tB kA kB hsa hsb hkA (hfz _) (hfz _)]
   rfl
  have mixed:Tryz.prog.follows .mixedOrders=true:=by kernel_rfl
  have⟨hw1,hb1,hin,htn,hb2,hb3,hb4⟩:=insX hi hm hroom hlim
  have⟨W1,hW1,hcp1,hcp2⟩:=jL t24 hsz b off n c i vb voff m vc cs vs w hi hm hvb hcl hvl hcs hsp hfz hvs h1c h1v
  go_enter Tryz.func281,Tryz.ntmps281
  go_wp2_with (simp only[hov])
  go_region_law_o (refine cg rfl _ _ 108 108 rfl _ _ (by simp[Act.eval,Act.put]) (by simp[Act.eval,Act.put]) (hcp1 _ _ _) ?_)
  go_wp2_with (at_builtin;refine aX _ rfl _ _ 108 108 rfl _ _ rfl rfl (hcp2 _ (fun _=>rfl) (fun _=>rfl) _ _) ?_)
  go_ret
  first|exact⟨rfl,rfl⟩|exact⟨rfl,by rw[hW1]⟩
 grow:=by
  intro b off n c i vb voff m vc cs vs w hi hm hnc hroom hlim hcl hvl hbw hvw hcs hvs h1c h1v;have⟨t0,t3,t4,a0,a3,a4,z0,z3,z4,v0,v3,v4,u0,u3,u4⟩:=insB;have⟨t9,t24,a9,a24,z9,z24,v24,u24⟩:=insB281;have mixed:Tryz.prog.follows .mixedOrders=true:=by kernel_rfl
  obtain⟨i0,hi0,hz0,hzs,hzb⟩:∃i0,Tryz.prog.info? 221=some i0/\i0.zero=some (Value.agg #[.string ⟨#[]⟩,.slice none 0 0])/\i0.size=2/\i0.bytes=40:=⟨_,rfl,rfl,rfl,rfl⟩;have hz1:¬((m:Int)=0):=by omega
  have hz2:¬((i:Int)=(n:Int)):=by omega
  have hz3:(c:Int)<(n:Int)+(m:Int):=by omega
  have⟨G,ROW,hGn,hRl,hRs,hRt,hG63,hrz,hcpA,hcpB⟩:=jM t24 t3 i0 (Value.agg #[.string ⟨#[]⟩,.slice none 0 0]) hi0 hz0 hzs (by decide) (by rw[hzb];decide) (fun k=>by simp[Builtin.zeroCells,Value.cells]) b off n c i vb voff m vc cs vs w hi hm hnc hroom hlim hcl hvl hbw hvw hcs hvs h1c h1v;have hGi:¬(G=i):=by omega
  have hGim:¬(G=i+m):=by omega
  have hci:¬(c=i):=by omega
  have⟨hE1,hE2,hF1,hF2⟩:=insE w ROW 221 2 i vs
  have⟨hw1,hb1,hin,htn,hb3⟩:=insY hi hlim
  go_enter Tryz.func281,Tryz.ntmps281
  go_wp2_with (first
   |(at_builtin;refine Lib.wpList_append_run _ rfl _ _ _ _ rfl _ _ rfl rfl _ _ (hrz _) ?_)
   |(at_builtin;refine aX _ rfl _ _ 108 108 rfl _ _ rfl rfl (hcpA _ hE1 hE2 _ _) ?_)
   |(at_builtin;refine aX _ rfl _ _ 108 108 rfl _ _ rfl rfl (hcpB _ (fun _=>rfl) (fun _=>rfl) _ _ _) ?_))
  go_region_law_o (refine cg rfl _ _ 108 108 rfl (.slice (some ⟨w.heap.size,(i+m)*2,none⟩) (n+m-(i+m)) (G-(i+m))) (.slice (some ⟨b,off+i*2,none⟩) (n-i) (c-i)) (by simp[Act.eval,Act.put]) (by simp[Act.eval,Act.put]) (hcpB _ hF1 hF2 3 (G-(i+m)) (c-i)) ?_)
  go_wp2
  go_ret
  exact⟨G,ROW,w.drew.drew.drawn,hGn,hRl,hRs,hRt,rfl,by first|rfl|(rw[cy];rfl)|(simp only[cy];rfl)⟩
def insB283:=And.intro Tryz.underlying186 (And.intro Tryz.underlying109 (And.intro Tryz.isAgg186 (And.intro Tryz.isAgg109 (And.intro Tryz.sizeOf186 (And.intro Tryz.sizeOf109 (And.intro Tryz.zeroValue109 ((run_underlying Tryz.underlying109))))))))
theorem insC283:ki Tryz.prog 283 11 109 186 where
 ent:=⟨Tryz.f283,Tryz.func283,by kernel_rfl,by kernel_rfl⟩
 hS:=Tryz.underlying109
 hz:=by kernel_rfl
 pos:=by decide
 info:=⟨_,(Value.agg #[jE,jE,jE,jE,jE,jE,.bool false,.string ⟨#[]⟩,.slice none 0 0,.string ⟨#[]⟩,.bool false]),rfl,by decide,rfl,rfl⟩
 nothing:=by
  intro base n c i vc vb w hnc hi hnil;have⟨t0,t3,t4,a0,a3,a4,z0,z3,z4,v0,v3,v4,u0,u3,u4⟩:=insB;have⟨t9,t24,a9,a24,z9,z24,v24,u24⟩:=insB283;have mixed:Tryz.prog.follows .mixedOrders=true:=by kernel_rfl
  go_enter Tryz.func283,Tryz.ntmps283
  cases base with
  |none=>
   have h0:=hnil rfl;subst h0;have hi0:i=0:=by omega
   subst hi0
   go_wp2
   all_goals (go_ret;exact⟨rfl,rfl⟩)
  |some a=>
   have⟨ab,ao,asp⟩:=a
   go_wp2
   all_goals (go_ret;exact⟨rfl,rfl⟩)
 end_:=by
  intro base n c m vc vb w w' q hm hnc hlim hnil hrun;have⟨t0,t3,t4,a0,a3,a4,z0,z3,z4,v0,v3,v4,u0,u3,u4⟩:=insB;have⟨t9,t24,a9,a24,z9,z24,v24,u24⟩:=insB283;have mixed:Tryz.prog.follows .mixedOrders=true:=by kernel_rfl
  have hz1:¬((m:Int)=0):=by omega
  go_enter Tryz.func283,Tryz.ntmps283
  cases base with
  |none=>
   have h0:=hnil rfl;subst h0
   go_wp2_with (at_builtin;refine Lib.wpList_append_run _ rfl _ _ _ _ rfl _ _ rfl rfl _ _ hrun ?_)
   all_goals (go_ret;exact⟨rfl,rfl⟩)
  |some a=>
   have⟨ab,ao,asp⟩:=a
   go_wp2_with (at_builtin;refine Lib.wpList_append_run _ rfl _ _ _ _ rfl _ _ rfl rfl _ _ hrun ?_)
   all_goals (go_ret;exact⟨rfl,rfl⟩)
 shift:=by
  intro b off n c i vb voff m vc cs vs w hi hm hroom hlim hvb hcl hvl hcs hsp hfz hvs h1c h1v tA tB kA kB hsa hsb hkA;have⟨t0,t3,t4,a0,a3,a4,z0,z3,z4,v0,v3,v4,u0,u3,u4⟩:=insB;have⟨t9,t24,a9,a24,z9,z24,v24,u24⟩:=insB283;have hz1:¬((m:Int)=0):=by omega
  have hz2:¬((i:Int)=(n:Int)):=by omega
  have hsz:(Tryz.prog.info? 186).map (·.size)=some 11:=by kernel_rfl
  have hov:∀lb cb,(callFunc 305 #[.slice (some ⟨vb,voff,none⟩) m vc,.slice (some ⟨b,off+(i+m)*11,none⟩) lb cb]).run Tryz.prog w=.ok (.value (.bool false)) w:=fun lb cb=>by
   rw[run_callFunc_extern Tryz.func305 (by kernel_rfl) (by kernel_rfl) (by kernel_rfl) (e:=Extern.SlicesOverlaps.overlaps #[109,109] #[4]) (by kernel_rfl),
    dg w 109 4 186 t24 11 z9 ⟨vb,voff,none⟩ ⟨b,off+(i+m)*11,none⟩ m vc lb cb hvb tA tB kA kB hsa hsb hkA (hfz _) (hfz _)]
   rfl
  have mixed:Tryz.prog.follows .mixedOrders=true:=by kernel_rfl
  have⟨hw1,hb1,hin,htn,hb2,hb3,hb4⟩:=insX hi hm hroom hlim
  have⟨W1,hW1,hcp1,hcp2⟩:=jL t24 hsz b off n c i vb voff m vc cs vs w hi hm hvb hcl hvl hcs hsp hfz hvs h1c h1v
  go_enter Tryz.func283,Tryz.ntmps283
  go_wp2_with (simp only[hov])
  go_region_law_o (refine cg rfl _ _ 109 109 rfl _ _ (by simp[Act.eval,Act.put]) (by simp[Act.eval,Act.put]) (hcp1 _ _ _) ?_)
  go_wp2_with (at_builtin;refine aX _ rfl _ _ 109 109 rfl _ _ rfl rfl (hcp2 _ (fun _=>rfl) (fun _=>rfl) _ _) ?_)
  go_ret
  first|exact⟨rfl,rfl⟩|exact⟨rfl,by rw[hW1]⟩
 grow:=by
  intro b off n c i vb voff m vc cs vs w hi hm hnc hroom hlim hcl hvl hbw hvw hcs hvs h1c h1v;have⟨t0,t3,t4,a0,a3,a4,z0,z3,z4,v0,v3,v4,u0,u3,u4⟩:=insB;have⟨t9,t24,a9,a24,z9,z24,v24,u24⟩:=insB283;have mixed:Tryz.prog.follows .mixedOrders=true:=by kernel_rfl
  obtain⟨i0,hi0,hz0,hzs,hzb⟩:∃i0,Tryz.prog.info? 186=some i0/\i0.zero=some (Value.agg #[jE,jE,jE,jE,jE,jE,.bool false,.string ⟨#[]⟩,.slice none 0 0,.string ⟨#[]⟩,.bool false])/\i0.size=11/\i0.bytes=120:=⟨_,rfl,rfl,rfl,rfl⟩;have hz1:¬((m:Int)=0):=by omega
  have hz2:¬((i:Int)=(n:Int)):=by omega
  have hz3:(c:Int)<(n:Int)+(m:Int):=by omega
  have⟨G,ROW,hGn,hRl,hRs,hRt,hG63,hrz,hcpA,hcpB⟩:=jM t24 t3 i0 (Value.agg #[jE,jE,jE,jE,jE,jE,.bool false,.string ⟨#[]⟩,.slice none 0 0,.string ⟨#[]⟩,.bool false]) hi0 hz0 hzs (by decide) (by rw[hzb];decide) (fun k=>by simp[Builtin.zeroCells,Value.cells]) b off n c i vb voff m vc cs vs w hi hm hnc hroom hlim hcl hvl hbw hvw hcs hvs h1c h1v;have hGi:¬(G=i):=by omega
  have hGim:¬(G=i+m):=by omega
  have hci:¬(c=i):=by omega
  have⟨hE1,hE2,hF1,hF2⟩:=insE w ROW 186 11 i vs
  have⟨hw1,hb1,hin,htn,hb3⟩:=insY hi hlim
  go_enter Tryz.func283,Tryz.ntmps283
  go_wp2_with (first
   |(at_builtin;refine Lib.wpList_append_run _ rfl _ _ _ _ rfl _ _ rfl rfl _ _ (hrz _) ?_)
   |(at_builtin;refine aX _ rfl _ _ 109 109 rfl _ _ rfl rfl (hcpA _ hE1 hE2 _ _) ?_)
   |(at_builtin;refine aX _ rfl _ _ 109 109 rfl _ _ rfl rfl (hcpB _ (fun _=>rfl) (fun _=>rfl) _ _ _) ?_))
  go_region_law_o (refine cg rfl _ _ 109 109 rfl (.slice (some ⟨w.heap.size,(i+m)*11,none⟩) (n+m-(i+m)) (G-(i+m))) (.slice (some ⟨b,off+i*11,none⟩) (n-i) (c-i)) (by simp[Act.eval,Act.put]) (by simp[Act.eval,Act.put]) (hcpB _ hF1 hF2 3 (G-(i+m)) (c-i)) ?_)
  go_wp2
  go_ret
  exact⟨G,ROW,w.drew.drew.drawn,hGn,hRl,hRs,hRt,rfl,by first|rfl|(rw[cy];rfl)|(simp only[cy];rfl)⟩
end Sg
namespace Sg
open _root_.Go (IntKind BinOp UnOp)
variable {Pg:PgT}
def Yj {i n:Nat} (h:decide ((i:Int)<(n:Int))=true):i<n:=by simpa using h
def YC {i n:Nat} (hi:i<=n) (h:decide ((i:Int)<(n:Int))=false):i=n:=by
 have:¬i<n:=by simpa using h
 omega
def Yn {i n:Nat} (h:i<n) (j:n<2^60):IntKind.i64.wrap ((i:Int)+1)=((i+1:Nat):Int):=bv (by omega) (by omega)
def ug {n:Nat} (h:0<n) (j:n<2^60):IntKind.i64.wrap ((n:Int)-1)=((n-1:Nat):Int):=by rw[bv (by omega) (by omega)];omega
theorem YW {α:Type} {l:List α} {i:Nat} {x:α} (h:l[i]?=some x):l.take (i+1)=l.take i++[x]:=by rw[G3,h];rfl
def tW {α:Type} {l:List α} {i:Nat} (h:i=l.length):l.take i=l:=by rw[h,GB]
def Ly {n:Nat}:decide ((0:Int)<(n:Int))=!decide (n=0):=by cases n<;>simp
def pF {n:Nat}:decide ((0:Int)<((n+1:Nat):Int))=true:=by simp
def E3 {a b:Nat}:decide ((a:Int)<=(b:Int))=decide (a<=b):=GO.2 (by omega)
def ltd {a b:Nat}:decide ((a:Int)<(b:Int))=decide (a<b):=GO.2 (by omega)
end Sg
namespace Sg
open _root_.Go
def WN (n a b c d:Nat):1<=(Lib.decodeN n a b c d).2/\(Lib.decodeN n a b c d).2<=4:=by
 unfold Lib.decodeN
 repeat' split
 all_goals simp
def XJ (l:mp):1<=(dN l).2:=(WN ..).1
def sR:Nat->mp->List Int
 |0,_=>[]
 |f+1,l=>if l=[] then [] else ((dN l).1:Int)::sR f (l.drop (dN l).2)
def Yu (l:mp):List Int:=sR l.length l
def sH {l:mp} (h:l≠[]):(l.drop (dN l).2).length<l.length:=by
 have:=XJ l;have:0<l.length:=uK.2 h;rw[GP];omega
theorem KR:∀(f:Nat) (l:mp),l.length<=f->sR f l=Yu l
 |0,l,h=>by
  obtain rfl:l=[]:=GJ (by omega)
  rfl
 |f+1,l,h=>by
  by_cases j:l=[]
  ·subst j;simp[sR,Yu]
  ·have q:=sH j;have h1:=KR f (l.drop (dN l).2) (by omega);obtain⟨n,p⟩:∃n,l.length=n+1:=⟨l.length-1,by omega⟩;have o:sR n (l.drop (dN l).2)=Yu (l.drop (dN l).2):=KR n _ (by omega);have e:Yu l=((dN l).1:Int)::sR n (l.drop (dN l).2):=by
    rw[Yu,p];simp only[sR,j,Gv]
   rw[e,o];simp only[sR,j,Gv,h1]
 termination_by f=>f
theorem ua:Yu []=[]:=rfl
def oJ {l:mp} (h:l≠[]):Yu l=((dN l).1:Int)::Yu (l.drop (dN l).2):=by
 have o:=sH h;obtain⟨n,j⟩:∃n,l.length=n+1:=⟨l.length-1,by omega⟩;rw[Yu,j];simp only[sR,h,Gv];rw[KR n _ (by omega)]
theorem KS:∀(n:Nat) (l:mp),l.length<=n->(Yu l).length<=l.length
 |0,l,h=>by
  obtain rfl:l=[]:=GJ (by omega);simp[ua]
 |n+1,l,h=>by
  by_cases j:l=[]
  ·subst j;simp[ua]
  ·have o:=sH j;have:=KS n (l.drop (dN l).2) (by omega);rw[oJ j];simp only[List.length_cons];omega
theorem Kl:∀(f:Nat) (l:mp),l.length<=f->bK f l=bK l.length l
 |0,l,h=>by
  obtain rfl:l=[]:=GJ (by omega)
  rfl
 |f+1,l,h=>by
  by_cases j:l=[]
  ·subst j;simp[bK]
  ·have q:=sH j;have h1:=Kl f (l.drop (dN l).2) (by omega);obtain⟨n,p⟩:∃n,l.length=n+1:=⟨l.length-1,by omega⟩;have o:=Kl n (l.drop (dN l).2) (by omega);have e:bK l.length l=(cM (dN l).1 (dN l).2&&bK n (l.drop (dN l).2)):=by
    rw[p];simp only[bK,j,Gv]
   rw[e,o];simp only[bK,j,Gv,h1]
 termination_by f=>f
def Wn {f:Nat}:bK f []=true:=by cases f<;>simp[bK]
def Kg {l:mp} (h:l≠[]):bK l.length l=(cM (dN l).1 (dN l).2&&bK (l.drop (dN l).2).length (l.drop (dN l).2)):=by
 have o:=sH h;obtain⟨n,j⟩:∃n,l.length=n+1:=⟨l.length-1,by omega⟩;rw[j];simp only[bK,h,Gv];rw[Kl n _ (by omega)]
def gx:Int->mp->Option Int
 |a,[]=>some a
 |a,b::l=>if b.toNat<128\/191<b.toNat then none else gx (64*a+b.toNat-128) l
def fU (a:Int):Nat×Int×Int:=
 if 194<=a/\a<224 then (2,128,a-192) else if 224<=a/\a<240 then (3,2048,a-224) else if 240<=a/\a<245 then (4,65536,a-240) else (0,0,a)
def iS (l:mp):Int×Int:=
 match l with
 |[]=>(-1,1)
 |b::t=>if b.toNat<128 then ((b.toNat:Int),1) else
  if (fU b.toNat).1=0\/l.length<(fU b.toNat).1 then (-1,1) else
   match gx (fU b.toNat).2.2 (t.take ((fU b.toNat).1-1)) with
   |none=>(-1,1)
   |some v=>if v<(fU b.toNat).2.1\/1114111<v\/(55296<=v/\v<57344) then (-1,1) else (v,(fU b.toNat).1)
def Qm {n a b c d:Nat} (h:(128<=a/\a<194)\/(245<=a/\a<256)):Lib.decodeN n a b c d=(65533,1):=by
 unfold Lib.decodeN
 repeat' split
 all_goals first|(exfalso;omega)|rfl
def EQ {n a b c d:Nat} (h:194<=a/\a<224):Lib.decodeN n a b c d=if 1<n/\b / 64=2 then (a%32*64+b%64,2) else (65533,1):=by
 unfold Lib.decodeN
 repeat' split
 all_goals first|(exfalso;omega)|rfl
def ER {n a b c d:Nat} (h:224<=a/\a<240):Lib.decodeN n a b c d=if (1<n/\b / 64=2)/\(2<n/\c / 64=2)/\2048<=a%16*4096+b%64*64+c%64/\(a%16*4096+b%64*64+c%64<55296\/57344<=a%16*4096+b%64*64+c%64) then (a%16*4096+b%64*64+c%64,3) else (65533,1):=by
 unfold Lib.decodeN
 repeat' split
 all_goals first|(exfalso;omega)|rfl
def CU {n a b c d:Nat} (h:240<=a/\a<245):Lib.decodeN n a b c d=if (1<n/\b / 64=2)/\(2<n/\c / 64=2)/\(3<n/\d / 64=2)/\65536<=a%8*262144+b%64*4096+c%64*64+d%64/\a%8*262144+b%64*4096+c%64*64+d%64<=1114111 then (a%8*262144+b%64*4096+c%64*64+d%64,4) else (65533,1):=by
 unfold Lib.decodeN
 repeat' split
 all_goals first|(exfalso;omega)|rfl
def Qn {n a b c d:Nat} (h:a<128):Lib.decodeN n a b c d=(a,1):=by
 unfold Lib.decodeN;rw[Gt h]
def KI {b:UInt8}:(b.toNat<128\/191<b.toNat)↔¬b.toNat / 64=2:=by omega
def Ek {l:mp} (h:l≠[]):iS l=if dN l=(65533,1) then (-1,1) else (((dN l).1:Int),((dN l).2:Int)):=by
 obtain⟨b0,t,rfl⟩:=List.exists_cons_of_ne_nil h;have O:=b0.toNat_lt;have H:(b0::t).getD 0 0=b0:=rfl;have I:(b0::t).getD 1 0=t.getD 0 0:=rfl;have J:(b0::t).getD 2 0=t.getD 1 0:=rfl;have L:(b0::t).getD 3 0=t.getD 2 0:=rfl;simp only[iS,dN,H,I,J,L,List.length_cons];by_cases u:b0.toNat<128
 ·rw[Gt u,Qn u,Gn (by intro e;simp at e;omega)];rfl
 rw[Gn u];by_cases D:194<=b0.toNat/\b0.toNat<224
 ·rw[EQ D,show fU b0.toNat=(2,128,(b0.toNat:Int)-192) from Gt (by omega)]
  match t with
  |[]=>simp
  |b1::t=>
   have B:=b1.toNat_lt;simp only[yC,List.length_cons,List.take_succ_cons,List.take_zero,gx,KI];by_cases j:b1.toNat / 64=2
   ·have e:(1<t.length+1+1/\b1.toNat / 64=2):=⟨by omega,j⟩;simp only[j,e];simp
    repeat' split
    all_goals first|(exfalso;omega)|(simp;omega)|omega
   ·simp[j]
 by_cases c3:224<=b0.toNat/\b0.toNat<240
 ·rw[ER c3,show fU b0.toNat=(3,2048,(b0.toNat:Int)-224) from by rw[fU,Gn (by omega),Gt (by omega)]]
  match t with
  |[]=>simp
  |[b1]=>simp
  |b1::b2::t=>
   have B:=b1.toNat_lt;have N:=b2.toNat_lt;simp only[yC,List.getD_cons_succ,List.length_cons,List.take_succ_cons,List.take_zero,gx,KI];by_cases j:b1.toNat / 64=2
   ·by_cases q:b2.toNat / 64=2
    ·have y:64*(64*((b0.toNat:Int)-224)+b1.toNat-128)+b2.toNat-128=((b0.toNat%16*4096+b1.toNat%64*64+b2.toNat%64:Nat):Int):=by omega
     have w:¬(3=0\/t.length+1+1+1<3):=by omega
     simp only[j,q,not_true_eq_false,Gv,y,w];obtain⟨v,p,M⟩:∃v,b0.toNat%16*4096+b1.toNat%64*64+b2.toNat%64=v/\v<65536:=⟨_,rfl,by omega⟩;rw[p];by_cases c:2048<=v/\(v<55296\/57344<=v)
     ·have o:(if (1<t.length+1+1+1/\True)/\(2<t.length+1+1+1/\True)/\2048<=v/\(v<55296\/57344<=v) then (v,3) else ((65533,1):Nat×Nat))=(v,3):=Gt ⟨⟨by omega,GN⟩,⟨by omega,GN⟩,c.1,c.2⟩;rw[o,Gn (by omega),Gn (by intro e;simp at e)]
     ·have o:(if (1<t.length+1+1+1/\True)/\(2<t.length+1+1+1/\True)/\2048<=v/\(v<55296\/57344<=v) then (v,3) else ((65533,1):Nat×Nat))=(65533,1):=Gn (fun e=>c ⟨e.2.2.1,e.2.2.2⟩);rw[o,Gt (by omega),Gt rfl]
    ·simp[j,q]
   ·simp[j]
 by_cases E:240<=b0.toNat/\b0.toNat<245
 ·rw[CU E,show fU b0.toNat=(4,65536,(b0.toNat:Int)-240) from by rw[fU,Gn (by omega),Gn (by omega),Gt (by omega)]]
  match t with
  |[]=>simp
  |[b1]=>simp
  |[b1,b2]=>simp
  |b1::b2::b3::t=>
   have B:=b1.toNat_lt;have N:=b2.toNat_lt;have P:=b3.toNat_lt;simp only[yC,List.getD_cons_succ,List.length_cons,List.take_succ_cons,List.take_zero,gx,KI];by_cases j:b1.toNat / 64=2
   ·by_cases q:b2.toNat / 64=2
    ·by_cases z:b3.toNat / 64=2
     ·have y:64*(64*(64*((b0.toNat:Int)-240)+b1.toNat-128)+b2.toNat-128)+b3.toNat-128=((b0.toNat%8*262144+b1.toNat%64*4096+b2.toNat%64*64+b3.toNat%64:Nat):Int):=by omega
      have w:¬(4=0\/t.length+1+1+1+1<4):=by omega
      simp only[j,q,z,not_true_eq_false,Gv,y,w];obtain⟨v,p⟩:∃v,b0.toNat%8*262144+b1.toNat%64*4096+b2.toNat%64*64+b3.toNat%64=v:=⟨_,rfl⟩;rw[p];by_cases c:65536<=v/\v<=1114111
      ·have o:(if (1<t.length+1+1+1+1/\True)/\(2<t.length+1+1+1+1/\True)/\(3<t.length+1+1+1+1/\True)/\65536<=v/\v<=1114111 then (v,4) else ((65533,1):Nat×Nat))=(v,4):=Gt ⟨⟨by omega,GN⟩,⟨by omega,GN⟩,⟨by omega,GN⟩,c.1,c.2⟩;rw[o,Gn (by omega),Gn (by intro e;simp at e)]
      ·have o:(if (1<t.length+1+1+1+1/\True)/\(2<t.length+1+1+1+1/\True)/\(3<t.length+1+1+1+1/\True)/\65536<=v/\v<=1114111 then (v,4) else ((65533,1):Nat×Nat))=(65533,1):=Gn (fun e=>c ⟨e.2.2.2.1,e.2.2.2.2⟩);rw[o,Gt (by omega),Gt rfl]
     ·simp[j,q,z]
    ·simp[j,q]
   ·simp[j]
 rw[Qm (by omega),show fU b0.toNat=(0,0,(b0.toNat:Int)) from by rw[fU,Gn (by omega),Gn (by omega),Gn (by omega)]];simp
def Ef {l:mp} (h:l≠[]):dN l=(65533,1)\/(∃b0 t,l=b0::t/\b0.toNat<128/\dN l=(b0.toNat,1))\/
  (∃b0 b1 t,l=b0::b1::t/\(194<=b0.toNat/\b0.toNat<224)/\b1.toNat / 64=2/\dN l=(b0.toNat%32*64+b1.toNat%64,2))\/
  (∃b0 b1 b2 t,l=b0::b1::b2::t/\(224<=b0.toNat/\b0.toNat<240)/\b1.toNat / 64=2/\b2.toNat / 64=2/\2048<=b0.toNat%16*4096+b1.toNat%64*64+b2.toNat%64/\dN l=(b0.toNat%16*4096+b1.toNat%64*64+b2.toNat%64,3))\/
  (∃b0 b1 b2 b3 t,l=b0::b1::b2::b3::t/\(240<=b0.toNat/\b0.toNat<245)/\b1.toNat / 64=2/\b2.toNat / 64=2/\b3.toNat / 64=2/\65536<=b0.toNat%8*262144+b1.toNat%64*4096+b2.toNat%64*64+b3.toNat%64/\dN l=(b0.toNat%8*262144+b1.toNat%64*4096+b2.toNat%64*64+b3.toNat%64,4)):=by
 obtain⟨b0,t,rfl⟩:=List.exists_cons_of_ne_nil h
 have H:=b0.toNat_lt
 have j:(b0::t).getD 0 0=b0:=rfl
 have z:(b0::t).getD 1 0=t.getD 0 0:=rfl
 have D:(b0::t).getD 2 0=t.getD 1 0:=rfl
 have E:(b0::t).getD 3 0=t.getD 2 0:=rfl
 by_cases y:b0.toNat<128
 ·exact .inr (.inl ⟨b0,t,rfl,y,by rw[dN,j,Qn y]⟩)
 by_cases q:194<=b0.toNat/\b0.toNat<224
 ·match t with
  |[]=>left;rw[dN,j,EQ q];simp
  |b1::t=>
   by_cases d:b1.toNat / 64=2
   ·exact .inr (.inr (.inl ⟨b0,b1,t,rfl,q,d,by rw[dN,j,EQ q,Gt ⟨by simp,by simpa [z] using d⟩];rfl⟩))
   ·left;rw[dN,j,EQ q,Gn (fun e=>d (by simpa [z] using e.2))]
 by_cases c3:224<=b0.toNat/\b0.toNat<240
 ·match t with
  |[]=>left;rw[dN,j,ER c3];simp
  |[b1]=>left;rw[dN,j,ER c3];simp
  |b1::b2::t=>
   have u:(b0::b1::b2::t).getD 1 0=b1:=rfl
   have w:(b0::b1::b2::t).getD 2 0=b2:=rfl
   rw[dN,j,u,w,ER c3]
   split
   ·rename_i o
    exact .inr (.inr (.inr (.inl ⟨b0,b1,b2,t,rfl,c3,o.1.2,o.2.1.2,o.2.2.1,rfl⟩)))
   ·exact .inl rfl
 by_cases p:240<=b0.toNat/\b0.toNat<245
 ·match t with
  |[]=>left;rw[dN,j,CU p];simp
  |[b1]=>left;rw[dN,j,CU p];simp
  |[b1,b2]=>left;rw[dN,j,CU p];simp
  |b1::b2::b3::t=>
   have u:(b0::b1::b2::b3::t).getD 1 0=b1:=rfl
   have w:(b0::b1::b2::b3::t).getD 2 0=b2:=rfl
   have B:(b0::b1::b2::b3::t).getD 3 0=b3:=rfl
   rw[dN,j,u,w,B,CU p]
   split
   ·rename_i o
    exact .inr (.inr (.inr (.inr ⟨b0,b1,b2,b3,t,rfl,p,o.1.2,o.2.1.2,o.2.2.1.2,o.2.2.2.1,rfl⟩)))
   ·exact .inl rfl
 ·left;rw[dN,j,Qm (by omega)]
def pK {a b:UInt8} (h:a.toNat=b.toNat):a=b:=UInt8.toNat_inj.1 h
def XI {l o:mp} (h:l≠[]) (H:o≠[]) (n:dN l≠(65533,1)) (I:dN o≠(65533,1)) (e:(dN l).1=(dN o).1):(dN l).2=(dN o).2/\l.take (dN l).2=o.take (dN o).2:=by
 rcases Ef h with c|⟨u,t,rfl,q,c⟩|⟨u,w,t,rfl,q,B,c⟩|⟨u,w,D,t,rfl,q,B,M,N,c⟩|⟨u,w,D,O,t,rfl,q,B,M,N,R,c⟩
 ·exact absurd c n
 all_goals
  rcases Ef H with j|⟨b0,t',rfl,p,j⟩|⟨b0,y,t',rfl,p,z,j⟩|⟨b0,y,E,t',rfl,p,z,J,L,j⟩|⟨b0,y,E,P,t',rfl,p,z,J,L,Q,j⟩
  ·exact absurd j I
  all_goals
   rw[c,j] at e
   simp only at e
   first
    |(exfalso;omega)
    |(rw[c,j];refine⟨rfl,?_⟩;simp only[List.take_succ_cons,List.take_zero,qZ,and_true])
 ·exact pK e
 ·exact⟨pK (by omega),pK (by omega)⟩
 ·exact⟨pK (by omega),pK (by omega),pK (by omega)⟩
 ·exact⟨pK (by omega),pK (by omega),pK (by omega),pK (by omega)⟩
def ld {l:mp} (h:cM (dN l).1 (dN l).2=true):dN l≠(65533,1):=fun e=>by
 rw[e] at h;simp[cM] at h
theorem iD:∀(n:Nat) (l l':mp),l.length<=n->bK l.length l=true->bK l'.length l'=true->Yu l=Yu l'->l=l'
 |n,l,l',hn,k,k',e=>by
  by_cases h:l=[]
  ·by_cases h':l'=[]
   ·rw[h,h']
   ·rw[h,ua,oJ h'] at e;simp at e
  ·by_cases h':l'=[]
   ·rw[h',ua,oJ h] at e;simp at e
   ·rw[oJ h,oJ h',qZ] at e;rw[Kg h,Ge] at k;rw[Kg h',Ge] at k';have⟨e1,e2⟩:=XI h h' (ld k.1) (ld k'.1) (by omega);have hd:=sH h;have hl:0<l.length:=uK.2 h;have e3:=iD (n-1) _ _ (by omega) k.2 k'.2 e.2;rw[<-G4 (dN l).2 l,<-G4 (dN l').2 l',e2,e3]
 termination_by n=>n
def YD:List Int->List Int->Int
 |[],[]=>0
 |[],_::_=>-1
 |_::_,[]=>1
 |a::l,b::k=>if a<b then -1 else if b<a then 1 else YD l k
theorem O7:∀(a b:List Int),YD a b=-1\/YD a b=0\/YD a b=1
 |[],[]=>by simp[YD]
 |[],_::_=>by simp[YD]
 |_::_,[]=>by simp[YD]
 |a::l,b::k=>by
  simp only[YD];split
  ·simp
  ·split
   ·simp
   ·exact O7 l k
theorem xO:∀(a b:List Int),YD b a=- YD a b
 |[],[]=>by simp[YD]
 |[],_::_=>by simp[YD]
 |_::_,[]=>by simp[YD]
 |a::l,b::k=>by
  simp only[YD];have:=xO l k
  repeat' split
  all_goals omega
theorem KY:∀(a b:List Int),YD a b=0->a=b
 |[],[],_=>rfl
 |[],_::_,h=>by simp[YD] at h
 |_::_,[],h=>by simp[YD] at h
 |a::l,b::k,h=>by
  simp only[YD] at h;split at h
  ·simp at h
  ·split at h
   ·simp at h
   ·have:=KY l k h;have:a=b:=by omega
    simp_all
theorem tX:∀(a:List Int),YD a a=0
 |[]=>rfl
 |a::l=>by simp[YD,tX l]
def xS {a b:Int} {l k:List Int} (h:a<b):YD (a::l) (b::k)=-1:=by simp[YD,h]
def Cq {a b:Int} {l k:List Int} (h:b<a):YD (a::l) (b::k)=1:=by
 have:¬a<b:=by omega
 simp[YD,h,this]
def Cp {a:Int} {l k:List Int}:YD (a::l) (a::k)=YD l k:=by simp[YD]
theorem KZ:∀(a b c:List Int),YD a b<=0->YD b c<=0->YD a c<=0/\(YD a b<0\/YD b c<0->YD a c<0)
 |[],[],c,h1,h2=>by
  have:YD [] []=0:=rfl;omega
 |[],_::_,[],h1,h2=>by simp[YD] at h2
 |[],_::_,_::_,h1,h2=>by simp[YD]
 |_::_,[],_,h1,h2=>by simp[YD] at h1
 |a::l,b::k,[],h1,h2=>by simp[YD] at h2
 |a::l,b::k,c::m,h1,h2=>by
  have j:=KZ l k m;rcases rj a b with p|p|p
  ·rw[xS p] at h1 ⊢;rcases rj b c with q|q|q
   ·rw[xS (show a<c by omega)];omega
   ·rw[xS (show a<c by omega)];omega
   ·rw[Cq q] at h2;omega
  ·subst p;rw[Cp] at h1 ⊢;rcases rj a c with q|q|q
   ·rw[xS q];omega
   ·subst q;rw[Cp] at h2 ⊢;rw[Cp];exact j h1 h2
   ·rw[Cq q] at h2;omega
  ·rw[Cq p] at h1;omega
end Sg
namespace Sg
open _root_.Go (IntKind BinOp UnOp)
variable {Pg:PgT}
@[go_sem] theorem Ym5 {b:UInt8} {t:mp} {k:IntKind}:tQ (.str (b::t)) (.int k 0)=some (.int .u8 b.toNat):=rfl
@[go_sem high] theorem Ym3 {s:mp} {z:Nat} {k:IntKind} {n:Nat} (h:n<=s.length):uD true z (.str s) (some (.int k (n:Int))) none=some (.str (s.drop n)):=by
 simp[uD,dp,h]
def yO:=HpZ 191 F191
def He (h:yO Pg) (r n:Int):K' Pg 191 [.int .i32 r,.int .i64 n]=some (.bool (cM r n)):=by
 refine aA h rfl ?_;simp only[go_sem];cases j:decide (33<=r)<;>cases o:decide (r<127)<;>cases c3:decide (159<r)<;>cases p:decide (r=65533)<;>cases q:decide (n=3) <;>
  simp only[go_sem,cM,j,o,c3,p,q]
def yN (Pg:PgT):Prop:=Pg 190=some (.prim none oX)
theorem A8 (h:yN Pg) (s:mp):K' Pg 190 [.str s]=some (.tuple [.int .i32 (ol s).1,.int .i64 (ol s).2]):=by
 rw[tT h];rfl
def lB (Pg:PgT):Prop:=Pg 170=some (.prim none mX)
theorem kr (h:lB Pg) (s:mp):K' Pg 170 [.str s]=some (.bool (aS s)):=by
 rw[tT h];rfl
def Ey (c:Int):Bool:=decide (32<c)&&(!decide (c=127)&&(decide (c<128)||decide (159<c)))
def yM:=HpZ 189 F189
def Hd (h:yM Pg) (c:Int):K' Pg 189 [iz c]=some (.bool (Ey c)):=by
 refine aA h rfl ?_;simp only[go_sem];cases j:decide (32<c)<;>cases o:decide (c=127)<;>cases c3:decide (c<128)<;>cases p:decide (159<c) <;>
  simp only[go_sem,Ey,j,o,c3,p]
def Xf {l:mp} (h:l≠[]):Ey (iS l).1=cM (dN l).1 (dN l).2:=by
 rw[Ek h];by_cases c:dN l=(65533,1)
 ·rw[Gt c,c];decide
 ·rw[Gn c];simp only[Ey,cM];have j:(dN l).1=65533->(dN l).2=3:=fun e=>by
   rcases Ef h with x|⟨o,t,rfl,q,x⟩|⟨o,p,t,rfl,q,u,x⟩|⟨o,p,w,t,rfl,q,u,y,z,x⟩|⟨o,p,w,B,t,rfl,q,u,y,z,D,x⟩
   ·exact absurd x c
   all_goals (rw[x] at e ⊢;try (simp only at e ⊢;try omega))
  generalize (dN l).1=r at j ⊢;generalize (dN l).2=n at j ⊢;rw[Bool.eq_iff_iff];simp only[Ge,G1,Gj,GM,Gs];omega
@[go_sem] def LT (x:Int×Int):V:=.tuple [iz x.1,iz x.2]
def uP:=HpZ 188 F188
theorem Kj:∀{l:mp} {a:Int} {b:UInt8},gx a (l++[b])=(gx a l).bind fun v=>if b.toNat<128\/191<b.toNat then none else some (64*v+b.toNat-128)
 |[],a,b=>by simp[gx]
 |c::l,a,b=>by
  simp only[gx,List.cons_append];split
  ·rfl
  ·exact Kj
theorem D5:∀{l k:mp} {a:Int},gx a l=none->gx a (l++k)=none
 |[],k,a,h=>by simp[gx] at h
 |c::l,k,a,h=>by
  simp only[gx,List.cons_append] at h ⊢;split
  ·rfl
  ·rename_i j;rw[Gn j] at h;exact D5 h
def A7 (h:uP Pg) (s:mp) (hs:s≠[]):K' Pg 188 [.str s]=some (LT (iS s)):=by
 refine aA h rfl ?_;obtain⟨b0,t,rfl⟩:=List.exists_cons_of_ne_nil hs;have l0:=b0.toNat_lt;have w8:IntKind.i64.wrap (b0.toNat:Int)=b0.toNat:=bv (by omega) (by omega);have aa:IntKind.i64.wrap ((b0.toNat:Int)-192)=b0.toNat-192:=bv (by omega) (by omega);have ab:IntKind.i64.wrap ((b0.toNat:Int)-224)=b0.toNat-224:=bv (by omega) (by omega);have ac:IntKind.i64.wrap ((b0.toNat:Int)-240)=b0.toNat-240:=bv (by omega) (by omega);simp only[go_sem,w8];refine aY (fun Q=>?_) (fun Q=>?_)
 ·have Q:=Gc Q;have e:iS (b0::t)=((b0.toNat:Int),(1:Int)):=by simp only[iS];rw[Gt (by omega)]
  rw[e];simp only[go_sem]
 have Q:=Ga Q;have j:iS (b0::t)=if (fU b0.toNat).1=0\/(b0::t).length<(fU b0.toNat).1 then (-1,1) else
   match gx (fU b0.toNat).2.2 (t.take ((fU b0.toNat).1-1)) with
   |none=>(-1,1)
   |some v=>if v<(fU b0.toNat).2.1\/1114111<v\/(55296<=v/\v<57344) then (-1,1) else (v,((fU b0.toNat).1:Int)):=by
  simp only[iS];rw[Gn (by omega)]<;>rfl
 simp only[go_sem];cases c2:decide (194<=(b0.toNat:Int)) with
 |false=>
  have w:fU b0.toNat=(0,0,(b0.toNat:Int)):=by
   have:=Ga c2;rw[fU,Gn (by omega),Gn (by omega),Gn (by omega)]
  have B:decide (224<=(b0.toNat:Int))=false:=Gp (by have:=Ga c2;omega);have d3:decide (240<=(b0.toNat:Int))=false:=Gp (by have:=Ga c2;omega);rw[w,Gt (.inl rfl)] at j;rw[j];simp only[go_sem,B,d3]
 |true=>
 have ad:=Gc c2;simp only[go_sem];refine aY (fun c3=>?_) (fun c3=>?_)
 ·have c3:=Gc c3;have w:fU b0.toNat=(2,128,(b0.toNat:Int)-192):=Gt (by omega);simp only[go_sem,aa];rw[w] at j;simp only at j;refine aY (fun p=>?_) (fun p=>?_)
  ·have p:=Gc p;rw[Gt (.inr (by simp only[List.length_cons];omega))] at j;rw[j];simp only[go_sem]
  have p:=Ga p;have p:2<=t.length+1:=by omega
  rw[Gn (by simp only[List.length_cons];omega)] at j;simp only[go_sem];unfold l188_0;refine bu (fun (i:Nat) S=>(1<=i/\i<=2)/\S.ρ 0=.str (b0::t)/\S.ρ 5=iz 2/\S.ρ 6=iz 128/\S.ρ 7=iz i/\∃v,S.ρ 4=iz v/\gx ((b0.toNat:Int)-192) (t.take (i-1))=some v/\0<=v/\v<64^i) (fun i=>2-i) 1 ?_ ?_
  ·simp[go_sem,gx];omega
  ·intro i S ⟨hi,h0,E,P,H,v,u,J,v0,Z⟩;have v2:v<16777216:=by
    have:i=1\/i=2\/i=3\/i=4:=by omega
    rcases this with rfl|rfl|rfl|rfl<;>simp at Z<;>omega
   simp only[go_sem,E,H];refine aY (fun h=>?_) (fun h=>?_)
   ·have h:i<2:=by have:=Gc h;omega
    obtain⟨b,I⟩:∃b,(b0::t)[i]?=some b:=⟨_,List.getElem?_eq_getElem (by simp only[List.length_cons];omega)⟩;have L:t[i-1]?=some b:=by
     obtain⟨k,rfl⟩:∃k,i=k+1:=⟨i-1,by omega⟩;simpa using I
    have lb:=b.toNat_lt;have M:t.take (i+1-1)=t.take (i-1)++[b]:=by
     have:=YW L;rwa [show i-1+1=i+1-1 by omega] at this
    have o:=Kj (l:=t.take (i-1)) (a:=((b0.toNat:Int)-192)) (b:=b);rw[J,Option.bind_some,<-M] at o;have wb:IntKind.i64.wrap (b.toNat:Int)=b.toNat:=bv (by omega) (by omega);have w1:IntKind.i64.wrap (64*v)=64*v:=bv (by omega) (by omega);have w2:IntKind.i64.wrap (64*v+b.toNat)=64*v+b.toNat:=bv (by omega) (by omega);have w3:IntKind.i64.wrap (64*v+b.toNat-128)=64*v+b.toNat-128:=bv (by omega) (by omega);have bad:(b.toNat<128\/191<b.toNat)->iS (b0::t)=(-1,1):=fun z=>by
     rw[Gt z] at o;have:gx ((b0.toNat:Int)-192) (t.take (2-1))=none:=by
      have e:t.take (2-1)=t.take (i+1-1)++(t.take (2-1)).drop (i+1-1):=by
       have:=G4 (i+1-1) (t.take (2-1));rw[List.take_take,pn (by omega)] at this;exact this.symm
      rw[e];exact D5 o
     rw[j,this]
    simp only[go_sem,h0,H,I];cases N:decide ((b.toNat:Int)<128) with
    |true=>
     have:=bad (.inl (by have:=Gc N;omega));rw[this];simp only[go_sem]
    |false=>
     have U:=Ga N;simp only[go_sem,h0,H,I];refine aY (fun B=>?_) (fun B=>?_)
     ·have:=bad (.inr (by have:=Gc B;omega));rw[this];simp only[go_sem]
     ·have W:=Ga B;rw[Gn (by omega)] at o;simp only[go_sem,h0,u,E,P,H,I,wb,w1,w2,w3];refine⟨i+1,by omega,by omega,by rw[Yn h (by omega)],_,rfl,o,by omega,?_⟩;rw[Int.pow_succ];omega
   ·have h:i=2:=by have:=Ga h;omega
    subst h;have J:gx ((b0.toNat:Int)-192) (t.take (2-1))=some v:=J;rw[J] at j;simp only at j;simp only[go_sem,u,P];cases O:decide (v<128) with
    |true=>
     rw[Gt (.inl (Gc O))] at j;rw[j];simp only[go_sem]
    |false=>
    cases q:decide (1114111<v) with
    |true=>
     rw[Gt (.inr (.inl (Gc q)))] at j;rw[j];simp only[go_sem,q,u]
    |false=>
    have X:=Ga O;have Y:=Ga q;cases y:decide (55296<=v) with
    |false=>
     rw[Gn (by have:=Ga y;omega)] at j;rw[j];simp only[go_sem,q,y,u,E]
    |true=>
    cases D:decide (v<57344) with
    |true=>
     rw[Gt (.inr (.inr ⟨Gc y,Gc D⟩))] at j;rw[j];simp only[go_sem,q,y,D,u]
    |false=>
     rw[Gn (by have:=Ga D;omega)] at j;rw[j];simp only[go_sem,q,y,D,u,E]
 have c3:=Ga c3;have B:decide (224<=(b0.toNat:Int))=true:=Gu (by omega);simp only[go_sem,B];refine aY (fun R=>?_) (fun R=>?_)
 ·have R:=Gc R;have w:fU b0.toNat=(3,2048,(b0.toNat:Int)-224):=by rw[fU,Gn (by omega),Gt (by omega)]
  simp only[go_sem,ab];rw[w] at j;simp only at j;refine aY (fun p=>?_) (fun p=>?_)
  ·have p:=Gc p;rw[Gt (.inr (by simp only[List.length_cons];omega))] at j;rw[j];simp only[go_sem]
  have p:=Ga p;have p:3<=t.length+1:=by omega
  rw[Gn (by simp only[List.length_cons];omega)] at j;simp only[go_sem];unfold l188_0;refine bu (fun (i:Nat) S=>(1<=i/\i<=3)/\S.ρ 0=.str (b0::t)/\S.ρ 5=iz 3/\S.ρ 6=iz 2048/\S.ρ 7=iz i/\∃v,S.ρ 4=iz v/\gx ((b0.toNat:Int)-224) (t.take (i-1))=some v/\0<=v/\v<64^i) (fun i=>3-i) 1 ?_ ?_
  ·simp[go_sem,gx];omega
  ·intro i S ⟨hi,h0,E,P,H,v,u,J,v0,Z⟩;have v2:v<16777216:=by
    have:i=1\/i=2\/i=3\/i=4:=by omega
    rcases this with rfl|rfl|rfl|rfl<;>simp at Z<;>omega
   simp only[go_sem,E,H];refine aY (fun h=>?_) (fun h=>?_)
   ·have h:i<3:=by have:=Gc h;omega
    obtain⟨b,I⟩:∃b,(b0::t)[i]?=some b:=⟨_,List.getElem?_eq_getElem (by simp only[List.length_cons];omega)⟩;have L:t[i-1]?=some b:=by
     obtain⟨k,rfl⟩:∃k,i=k+1:=⟨i-1,by omega⟩;simpa using I
    have lb:=b.toNat_lt;have M:t.take (i+1-1)=t.take (i-1)++[b]:=by
     have:=YW L;rwa [show i-1+1=i+1-1 by omega] at this
    have o:=Kj (l:=t.take (i-1)) (a:=((b0.toNat:Int)-224)) (b:=b);rw[J,Option.bind_some,<-M] at o;have wb:IntKind.i64.wrap (b.toNat:Int)=b.toNat:=bv (by omega) (by omega);have w1:IntKind.i64.wrap (64*v)=64*v:=bv (by omega) (by omega);have w2:IntKind.i64.wrap (64*v+b.toNat)=64*v+b.toNat:=bv (by omega) (by omega);have w3:IntKind.i64.wrap (64*v+b.toNat-128)=64*v+b.toNat-128:=bv (by omega) (by omega);have bad:(b.toNat<128\/191<b.toNat)->iS (b0::t)=(-1,1):=fun z=>by
     rw[Gt z] at o;have:gx ((b0.toNat:Int)-224) (t.take (3-1))=none:=by
      have e:t.take (3-1)=t.take (i+1-1)++(t.take (3-1)).drop (i+1-1):=by
       have:=G4 (i+1-1) (t.take (3-1));rw[List.take_take,pn (by omega)] at this;exact this.symm
      rw[e];exact D5 o
     rw[j,this]
    simp only[go_sem,h0,H,I];cases N:decide ((b.toNat:Int)<128) with
    |true=>
     have:=bad (.inl (by have:=Gc N;omega));rw[this];simp only[go_sem]
    |false=>
     have U:=Ga N;simp only[go_sem,h0,H,I];refine aY (fun B=>?_) (fun B=>?_)
     ·have:=bad (.inr (by have:=Gc B;omega));rw[this];simp only[go_sem]
     ·have W:=Ga B;rw[Gn (by omega)] at o;simp only[go_sem,h0,u,E,P,H,I,wb,w1,w2,w3];refine⟨i+1,by omega,by omega,by rw[Yn h (by omega)],_,rfl,o,by omega,?_⟩;rw[Int.pow_succ];omega
   ·have h:i=3:=by have:=Ga h;omega
    subst h;have J:gx ((b0.toNat:Int)-224) (t.take (3-1))=some v:=J;rw[J] at j;simp only at j;simp only[go_sem,u,P];cases O:decide (v<2048) with
    |true=>
     rw[Gt (.inl (Gc O))] at j;rw[j];simp only[go_sem]
    |false=>
    cases q:decide (1114111<v) with
    |true=>
     rw[Gt (.inr (.inl (Gc q)))] at j;rw[j];simp only[go_sem,q,u]
    |false=>
    have X:=Ga O;have Y:=Ga q;cases y:decide (55296<=v) with
    |false=>
     rw[Gn (by have:=Ga y;omega)] at j;rw[j];simp only[go_sem,q,y,u,E]
    |true=>
    cases D:decide (v<57344) with
    |true=>
     rw[Gt (.inr (.inr ⟨Gc y,Gc D⟩))] at j;rw[j];simp only[go_sem,q,y,D,u]
    |false=>
     rw[Gn (by have:=Ga D;omega)] at j;rw[j];simp only[go_sem,q,y,D,u,E]
 have R:=Ga R;have d3:decide (240<=(b0.toNat:Int))=true:=Gu (by omega);simp only[go_sem,d3];refine aY (fun T=>?_) (fun T=>?_)
 ·have T:=Gc T;have w:fU b0.toNat=(4,65536,(b0.toNat:Int)-240):=by rw[fU,Gn (by omega),Gn (by omega),Gt (by omega)]
  simp only[go_sem,ac];rw[w] at j;simp only at j;refine aY (fun p=>?_) (fun p=>?_)
  ·have p:=Gc p;rw[Gt (.inr (by simp only[List.length_cons];omega))] at j;rw[j];simp only[go_sem]
  have p:=Ga p;have p:4<=t.length+1:=by omega
  rw[Gn (by simp only[List.length_cons];omega)] at j;simp only[go_sem];unfold l188_0;refine bu (fun (i:Nat) S=>(1<=i/\i<=4)/\S.ρ 0=.str (b0::t)/\S.ρ 5=iz 4/\S.ρ 6=iz 65536/\S.ρ 7=iz i/\∃v,S.ρ 4=iz v/\gx ((b0.toNat:Int)-240) (t.take (i-1))=some v/\0<=v/\v<64^i) (fun i=>4-i) 1 ?_ ?_
  ·simp[go_sem,gx];omega
  ·intro i S ⟨hi,h0,E,P,H,v,u,J,v0,Z⟩;have v2:v<16777216:=by
    have:i=1\/i=2\/i=3\/i=4:=by omega
    rcases this with rfl|rfl|rfl|rfl<;>simp at Z<;>omega
   simp only[go_sem,E,H];refine aY (fun h=>?_) (fun h=>?_)
   ·have h:i<4:=by have:=Gc h;omega
    obtain⟨b,I⟩:∃b,(b0::t)[i]?=some b:=⟨_,List.getElem?_eq_getElem (by simp only[List.length_cons];omega)⟩;have L:t[i-1]?=some b:=by
     obtain⟨k,rfl⟩:∃k,i=k+1:=⟨i-1,by omega⟩;simpa using I
    have lb:=b.toNat_lt;have M:t.take (i+1-1)=t.take (i-1)++[b]:=by
     have:=YW L;rwa [show i-1+1=i+1-1 by omega] at this
    have o:=Kj (l:=t.take (i-1)) (a:=((b0.toNat:Int)-240)) (b:=b);rw[J,Option.bind_some,<-M] at o;have wb:IntKind.i64.wrap (b.toNat:Int)=b.toNat:=bv (by omega) (by omega);have w1:IntKind.i64.wrap (64*v)=64*v:=bv (by omega) (by omega);have w2:IntKind.i64.wrap (64*v+b.toNat)=64*v+b.toNat:=bv (by omega) (by omega);have w3:IntKind.i64.wrap (64*v+b.toNat-128)=64*v+b.toNat-128:=bv (by omega) (by omega);have bad:(b.toNat<128\/191<b.toNat)->iS (b0::t)=(-1,1):=fun z=>by
     rw[Gt z] at o;have:gx ((b0.toNat:Int)-240) (t.take (4-1))=none:=by
      have e:t.take (4-1)=t.take (i+1-1)++(t.take (4-1)).drop (i+1-1):=by
       have:=G4 (i+1-1) (t.take (4-1));rw[List.take_take,pn (by omega)] at this;exact this.symm
      rw[e];exact D5 o
     rw[j,this]
    simp only[go_sem,h0,H,I];cases N:decide ((b.toNat:Int)<128) with
    |true=>
     have:=bad (.inl (by have:=Gc N;omega));rw[this];simp only[go_sem]
    |false=>
     have U:=Ga N;simp only[go_sem,h0,H,I];refine aY (fun B=>?_) (fun B=>?_)
     ·have:=bad (.inr (by have:=Gc B;omega));rw[this];simp only[go_sem]
     ·have W:=Ga B;rw[Gn (by omega)] at o;simp only[go_sem,h0,u,E,P,H,I,wb,w1,w2,w3];refine⟨i+1,by omega,by omega,by rw[Yn h (by omega)],_,rfl,o,by omega,?_⟩;rw[Int.pow_succ];omega
   ·have h:i=4:=by have:=Ga h;omega
    subst h;have J:gx ((b0.toNat:Int)-240) (t.take (4-1))=some v:=J;rw[J] at j;simp only at j;simp only[go_sem,u,P];cases O:decide (v<65536) with
    |true=>
     rw[Gt (.inl (Gc O))] at j;rw[j];simp only[go_sem]
    |false=>
    cases q:decide (1114111<v) with
    |true=>
     rw[Gt (.inr (.inl (Gc q)))] at j;rw[j];simp only[go_sem,q,u]
    |false=>
    have X:=Ga O;have Y:=Ga q;cases y:decide (55296<=v) with
    |false=>
     rw[Gn (by have:=Ga y;omega)] at j;rw[j];simp only[go_sem,q,y,u,E]
    |true=>
    cases D:decide (v<57344) with
    |true=>
     rw[Gt (.inr (.inr ⟨Gc y,Gc D⟩))] at j;rw[j];simp only[go_sem,q,y,D,u]
    |false=>
     rw[Gn (by have:=Ga D;omega)] at j;rw[j];simp only[go_sem,q,y,D,u,E]
 have T:=Ga T;have w:fU b0.toNat=(0,0,(b0.toNat:Int)):=by rw[fU,Gn (by omega),Gn (by omega),Gn (by omega)]
 rw[w,Gt (.inl rfl)] at j;rw[j];simp only[go_sem]
end Sg
namespace Sg
open _root_.Go _root_.Go.RowKit _root_.Go.Proofs
def plainFm:List (Nat×Nat):=[(191,276)]
def okPlain:jg Tryz.prog (cxU plainFm) (b7 191 F191) 276 F191=true:=by kernel_rfl
def plain_walk (r n:Int) (w:World) (hgn:2<=w.heap.size) (hT:Lib.Utf8Tabs 0 1 w) :
  Calls Tryz.prog 276 #[.int .i32 r,.int .i64 n] w fun e w'=>e=.returned (.bool (cM r n))/\Below w.heap.size w w':=by
 have hk:K' (b7 191 F191) 191 [.int .i32 r,.int .i64 n]=some (.bool (cM r n)):=He (by simp[yO,b7]) r n
 have⟨m,hm⟩:=eF.1 hk
 have hc:=jh (P:=Tryz.prog) (cx:=cxU plainFm) (id:=191) (F:=F191) (by kernel_rfl) okPlain m 191 _ _ hm
 refine (hc.2 w (fun _=>False) #[.int .i32 r,.int .i64 n] (fun b hb=>hb.elim) hgn hT rfl (fun i hi=>by
  match i,hi with
  |0,_=>exact⟨_,rfl,.int _ _⟩
  |1,_=>exact⟨_,rfl,.int _ _⟩
  |k+2,hi=>exact absurd hi (by simp))).mono fun e w' ⟨v,he,hb,hr⟩=>?_
 have hr:=hr.data (fun b hb=>hb.elim)
 cases hr
 exact⟨he,hb⟩
def decCt (l:List (Nat×Nat)) (id:Nat) (h:(cxU l).fm id=275):∀args r,oX args=some r->jR Tryz.prog (cxU l) none id args r:=
 th (by rw[h];exact⟨_,Tryz.func275,by kernel_rfl,by kernel_rfl⟩) fun s w hG=>by rw[h];exact dec_walk s w hG
def keyCt (l:List (Nat×Nat)) (id:Nat) (h:(cxU l).fm id=236):∀args r,mX args=some r->jR Tryz.prog (cxU l) none id args r:=
 tu (by rw[h];exact⟨_,Tryz.func236,by kernel_rfl,by kernel_rfl⟩) fun s w hgn hG=>by rw[h];exact key_walk s w hgn hG plain_walk
end Sg
